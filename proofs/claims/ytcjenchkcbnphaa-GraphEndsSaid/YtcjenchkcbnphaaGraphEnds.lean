/- WALK of the law that nodes of a loop are made ends. Condition: the argument reads as a row of numbers. -/
import Derived.Test.YtcjenchkcbnphaaGraphEndsPlain
import Derived.Test.YtcjenchkcbnphaaGraphFit
namespace Go.Proofs.Ytcjenchkcbnphaa.Gr
open Go.RowKit Mem

theorem fit_rowE {a0 : Option Addr} {len0 cap0 : Nat} {z0 : List Int} {w : World} (w0 : IsRow .i64 w a0 len0 cap0 z0) : ∃ v : List Int, goodB v = true ∧ v.length ≤ 12 ∧ v.length = min len0 12 ∧ len0 ≤ 9223372036854775807 ∧
    ∀ W : World, Below w.heap.size w W → Calls Try.prog 19 #[.slice a0 len0 cap0] W (FitPost v W) := by
  obtain ⟨l, rfl, hlc, hcap, hL, hwf⟩ := ints_of_row w0
  refine ⟨fitV l, fit_good l, fit_le l, by rw [fit_len]; rfl, by omega, fun W hW => fit_any a0 cap0 l W (hL.below hW) (by omega) (fun x hx => wf_int (hwf x hx))⟩
theorem loop_nodes' {v cl : List Int} (hg : goodB v = true) (e : cl = loopL v) {i : Nat} (h : i < cl.length) :
    ∃ x : Nat, cl[i] = (x : Int) ∧ ∃ hx : x < v.length, 0 ≤ v[x] ∧ ∀ j (hj : j < i), cl[j]'(by omega) ≠ (x : Int) := by
  subst e; exact loop_nodes hg h
theorem lies_apart {w : World} {R : Option Addr} {xs : List Value} (h : Lies w R xs) {p : Addr} (hne : ∀ a, R = some a → a.block ≠ p.block) (u : Value) : Lies (w.setCell p u) R xs := fun hn => by
  obtain ⟨b, off, e, hb, hc⟩ := h hn
  refine ⟨b, off, e, by simpa [World.setCell] using hb, fun i v hv => ?_⟩
  rw [World.cell?_setCell_other (h := by intro e'; exact hne _ e (by rw [e']))]
  exact hc i v hv

set_option maxRecDepth 100000 in
set_option maxHeartbeats 800000 in
theorem ends_walk (a0 : Option Addr) (len0 cap0 : Nat) (z0 : List Int) (w : World) (w0 : IsRow .i64 w a0 len0 cap0 z0) :
    Calls Try.prog 9 #[.slice a0 len0 cap0] w fun e w' => e = .returned (.bool true) ∧ Below w.heap.size w w' := by
  obtain ⟨v, hg, hl, hn, hl63, hfit⟩ := fit_rowE w0
  obtain ⟨n, hvn⟩ : ∃ n, n = v.length := ⟨_, rfl⟩
  rw [← hvn] at hl hn
  have HN := Lib.hid hn
  have HFIT := Lib.hid hfit
  clear hfit w0 hn
  go_enter Try.func9, Try.ntmps9
  go_wp2_with fail
  refine (shown_any _).mono ?_
  rintro e w1 ⟨rfl, hb1⟩
  go_wp2_with fail
  refine (HFIT.out _ hb1).mono ?_
  rintro e w2 ⟨S, m, rfl, hS, hb2⟩
  have hbw2 : Below w.heap.size w w2 := hb1.trans (hb2.mono hb1.size)
  have hs1 := hb1.size
  have hcnt := cnt_le v
  clear hb1 hb2 HFIT
  rw [← hvn] at hcnt ⊢
  have HVN := Lib.hid hvn
  clear hvn
  go_wp2_with fail
  go_loopw [5] (fun i wr => ∃ (k : Nat) (xs : List Int), k ≤ n + 1 ∧ i = .int .i64 k ∧ xs.length = n ∧ Hid (goodB xs = true) ∧ Mine wr w1.heap.size S xs ∧ Hid (cnt xs + k ≤ n ∨ allRanked xs = true) ∧ Below w.heap.size w wr) (fun i _ => n + 1 - (intOf i).toNat)
  case atStart => exact ⟨0, v, by omega, rfl, HVN.out.symm, Lib.hid hg, hS, Lib.hid (.inl (by omega)), hbw2⟩
  case round =>
    clear hbw2 hS hcnt hg
    obtain ⟨k, xs, hk, rfl, hxn, HG, hM, HC, hbr⟩ := hrel
    have hB := hM.lies
    by_cases hlt : k ≤ n
    · have g1 : (k : Int) ≤ (len0 : Int) := by have := HN.out; omega
      have g2 : (k : Int) < 13 := by omega
      have her := errno_good (show xs.length ≤ 256 by omega) HG.out
      obtain ⟨wl, rfl⟩ : ∃ wl : World, wl = wr := ⟨_, rfl⟩
      cases ha : allRanked xs with
      | true =>
        have h1 := fun W (hW : Lies W S (ints xs)) => ranks_all (c := m) hW her ha
        have h2 := fun W (hW : Lies W S (ints xs)) => loop_yes S m xs W hW her
        rw [loop_empty HG.out ha, hxn] at h2
        have hl1 := ranks_len xs
        rw [hxn] at h1 hl1
        have HA := Lib.hid ha
        have H1 := Lib.hid h1
        have H2 := Lib.hid h2
        clear h1 h2 ha her
        go_wp2_with fail
        refine (H2.out _ hB).mono ?_
        rintro e w3 ⟨R3, m3, rfl, hR3, hb3⟩
        go_wp2_with fail
        refine (H1.out _ (hB.below hb3)).mono ?_
        rintro e w4 ⟨R4, m4, rfl, hR4, hb4⟩
        have hb34 := hb3.trans (hb4.mono hb3.size)
        have t : ((n : Int) != (n : Int)) = false := by simp
        go_wp2_with fail
        go_loopw [10] (fun i wr => i = .int .i64 0 ∧ w4 = wr) (fun i _ => 0)
        case atStart => exact ⟨rfl, rfl⟩
        case round =>
          obtain ⟨rfl, rfl⟩ := hrel
          go_wp2_with fail
          refine ⟨⟨k + 1, xs, by omega, by go_num, hxn, HG, hM.below hb34, Lib.hid (.inr HA.out), hbr.trans (hb34.mono hbr.size)⟩, by simp [intOf]; omega⟩
      | false =>
        have h1 := fun W (hW : Lies W S (ints xs)) => ranks_none (c := m) hW her ha
        have h2 := fun W (hW : Lies W S (ints xs)) => loop_yesN S m xs W hW her
        rw [hxn] at h1 h2
        have hp1 := loop_full HG.out ha
        have hnp : 0 < xs.length := by
          rcases Nat.eq_zero_or_pos xs.length with h | h
          · have := loop_len HG.out; omega
          · exact h
        obtain ⟨g, rfl, hg1, hW⟩ := hM hnp
        have hck : cnt xs + k ≤ n := by
          rcases HC.out with h | h
          · exact h
          · rw [ha] at h; cases h
        have hgl := hW.lt
        have hll := loop_len HG.out
        obtain ⟨cl, hcl⟩ : ∃ cl, cl = loopL xs := ⟨_, rfl⟩
        have hnodes := fun i h => loop_nodes' HG.out hcl (i := i) h
        rw [← hcl] at h2 hp1 hll
        have t1 : (((cl).length : Int) == 0) = false := by rw [beq_eq_false_iff_ne]; omega
        have H1 := Lib.hid h1
        have H2 := Lib.hid h2
        have HNODES := Lib.hid hnodes
        have HCK := Lib.hid hck
        clear h1 h2 ha her hcl hnodes hck HC hM
        go_wp2_with fail
        refine (H2.out _ hB).mono ?_
        rintro e w3 ⟨R3, m3, rfl, hR3, hb3, hnew⟩
        go_wp2_with fail
        refine (H1.out _ (hB.below hb3)).mono ?_
        rintro e w4 ⟨rfl, hb4⟩
        have hb34 := hb3.trans (hb4.mono hb3.size)
        have hR4 := hR3.below hb4
        have hW4 := hW.below hb34 hgl
        have hbw4 : Below w.heap.size w w4 := hbr.trans (hb34.mono hbr.size)
        have hne : ∀ a, R3 = some a → a.block ≠ g := fun a ha => by have := hnew a ha; omega
        have HNE := Lib.hid hne
        clear hne hnew hb3 hb4 hb34 hR3 hW hB hbr H1 H2
        go_wp2_with fail
        go_loopw [10] (fun i wr => ∃ (j : Nat) (ys : List Int), j ≤ cl.length ∧ i = .int .i64 j ∧ ys.length = n ∧ Hid (goodB ys = true) ∧ WRow wr g ys ∧ Lies wr R3 (ints cl) ∧ Hid (cnt ys + j ≤ cnt xs) ∧ Hid (∀ y : Nat, (∀ i (hi : i < cl.length), i < j → cl[i] ≠ (y : Int)) → ys[y]? = xs[y]?) ∧ Below w.heap.size w wr) (fun i _ => cl.length - (intOf i).toNat)
        case atStart => exact ⟨0, xs, by omega, rfl, hxn, HG, hW4, hR4, Lib.hid (by omega), Lib.hid (fun _ _ => rfl), hbw4⟩
        case round =>
          clear hW4 hR4 hbw4
          obtain ⟨j, ys, hj, rfl, hyn, HGy, hWy, hRy, HCy, HU, hby⟩ := hrel
          by_cases hltj : j < cl.length
          · obtain ⟨x, hxe, hx, hx0, hnd⟩ := HNODES.out j hltj
            have hxl : x < ys.length := by omega
            have hyx : ys[x] = xs[x] := by
              have h := HU.out x (fun i hi hij => hnd i hij)
              rw [List.getElem?_eq_getElem hxl, List.getElem?_eq_getElem hx] at h
              injection h
            obtain ⟨b, off, rfl, hb, hcell⟩ := hRy.at_map hltj
            rw [hxe] at hcell
            have hcx := hWy.cell x hxl
            have hfx := hWy.free x hxl
            have hWs := hWy.set_ x (-1)
            have hRs := lies_apart hRy (p := ⟨g, x, none⟩) HNE.out (.int .i64 (-1))
            have hbs := hby.setCell (p := ⟨g, x, none⟩) (by show w.heap.size ≤ g; omega) (.int .i64 (-1))
            have hcs := cnt_set hxl (by rw [hyx]; exact hx0)
            have hgs := set_good HGy.out x
            have hus : ∀ y : Nat, (∀ i (hi : i < cl.length), i < j + 1 → cl[i] ≠ (y : Int)) → (ys.set x (-1))[y]? = xs[y]? := fun y hy => by
              rw [List.getElem?_set_ne (by intro e; subst e; exact hy j hltj (by omega) hxe)]
              exact HU.out y (fun i hi hij => hy i hi (by omega))
            rw [← hyx] at hx0
            obtain ⟨q, hq⟩ : ∃ q, q = ys[x] := ⟨_, rfl⟩
            rw [← hq] at hcx hx0
            have HCS := Lib.hid hcs
            have HGS := Lib.hid hgs
            have HUS := Lib.hid hus
            have u1 : (x : Int) < (n : Int) := by omega
            clear hcs hgs hus hxe hnd hyx hq hx
            go_wp2_with fail
            refine ⟨⟨j + 1, ys.set x (-1), by omega, by go_num, by simpa using hyn, HGS, hWs, hRs, Lib.hid (by have := HCS.out; have := HCy.out; omega), HUS, hbs⟩, by simp [intOf]; omega⟩
          · have hcc : cnt ys + (k + 1) ≤ n := by have := HCy.out; have := HCK.out; omega
            have HCC := Lib.hid hcc
            clear hcc
            go_wp2_with fail
            refine ⟨⟨k + 1, ys, by omega, by go_num, hyn, HGy, fun _ => ⟨g, rfl, hg1, hWy⟩, Lib.hid (.inl HCC.out), hby⟩, by simp [intOf]; omega⟩
    · have ek : k = n + 1 := by omega
      have ha : allRanked xs = true := by
        rcases HC.out with h | h
        · omega
        · exact h
      have her := errno_good (show xs.length ≤ 256 by omega) HG.out
      have h2 := fun W (hW : Lies W S (ints xs)) => loop_yes S m xs W hW her
      rw [loop_empty HG.out ha, hxn] at h2
      have H2 := Lib.hid h2
      have hcase : (¬ (k : Int) ≤ (len0 : Int)) ∨ ((k : Int) ≤ (len0 : Int) ∧ ¬ (k : Int) < 13) := by have := HN.out; omega
      obtain ⟨wl, rfl⟩ : ∃ wl : World, wl = wr := ⟨_, rfl⟩
      have HEK := Lib.hid ek
      clear h2 ha her HC ek
      rcases hcase with g1 | ⟨g1, g2⟩
      all_goals
        go_wp2_with fail
        refine (H2.out _ hB).mono ?_
        rintro e w3 ⟨R3, m3, rfl, hR3, hb3⟩
        have hM3 := hM.below hb3
        have hbw3 : Below w.heap.size w w3 := hbr.trans (hb3.mono hbr.size)
        clear hR3 hb3 hbr hM hB
        go_wp2_with fail
        go_loopw [13] (fun i wr => ∃ (j : Nat) (ys : List Int), j ≤ n ∧ i = .int .i64 j ∧ ys.length = n ∧ Mine wr w1.heap.size S ys ∧ Hid (∀ i (hi : i < ys.length), i < j → ys[i] = -1) ∧ Below w.heap.size w wr) (fun i _ => n - (intOf i).toNat)
        case atStart => exact ⟨0, xs, by omega, rfl, hxn, hM3, Lib.hid (fun i hi h => absurd h (by omega)), hbw3⟩
        case round =>
          clear hM3 hbw3
          obtain ⟨j, ys, hj, rfl, hyn, hMy, HP, hby⟩ := hrel
          by_cases hltj : j < n
          · obtain ⟨g, rfl, hg1, hWy⟩ := hMy (by omega)
            have hcx := hWy.cell j (by omega)
            have hfx := hWy.free j (by omega)
            have hWs := hWy.set_ j (-1)
            have hbs := hby.setCell (p := ⟨g, j, none⟩) (by show w.heap.size ≤ g; omega) (.int .i64 (-1))
            have hfill := ends_fill ys HP.out
            have HF := Lib.hid hfill
            obtain ⟨q, hq⟩ : ∃ q, q = ys[j] := ⟨_, rfl⟩
            rw [← hq] at hcx
            clear hfill hq
            go_wp2_with fail
            refine ⟨⟨j + 1, ys.set j (-1), by omega, by go_num, by simpa using hyn, fun _ => ⟨g, rfl, hg1, hWs⟩, HF, hbs⟩, by simp [intOf]; omega⟩
          · obtain ⟨hge, hae, hre, hse⟩ := ends_all (v := ys) (fun i hi => HP.out i hi (by omega))
            have hery := errno_good (show ys.length ≤ 256 by omega) hge
            have h3 := fun W (hW : Lies W S (ints ys)) => ranks_all (c := m) hW hery hae
            have h4 := fun W (hW : Lies W S (ints ys)) => (show Calls Try.prog 16 #[.slice S ys.length m] W (PairPost W (sinks ys) 0) from sinks_yes S m ys W hW hery)
            have hly := hMy.lies
            have hrl := ranks_len ys
            rw [hyn] at h3 h4 hrl hse
            have H3 := Lib.hid h3
            have H4 := Lib.hid h4
            have HRE := Lib.hid hre
            clear h3 h4 hery hre hge hae hMy
            obtain ⟨wl2, rfl⟩ : ∃ wl : World, wl = wr := ⟨_, rfl⟩
            go_wp2_with fail
            refine (H3.out _ hly).mono ?_
            rintro e w5 ⟨R5, m5, rfl, hR5, hb5⟩
            go_wp2_with fail
            refine (H4.out _ (hly.below hb5)).mono ?_
            rintro e w6 ⟨R6, m6, rfl, hR6, hb6⟩
            have hR5' := hR5.below hb6
            have hbe : Below w.heap.size w w6 := (hby.trans (hb5.mono hby.size)).trans (hb6.mono (by have := hby.size; have := hb5.size; omega))
            clear hR5 hR6 hb5 hb6 hby hly
            go_wp2_with fail
            go_loopw [18] (fun i wr => ∃ (j : Nat), j ≤ n ∧ i = .int .i64 j ∧ w6 = wr) (fun i _ => n - (intOf i).toNat)
            case atStart => exact ⟨0, by omega, rfl, rfl⟩
            case round =>
              obtain ⟨j2, hj2, rfl, rfl⟩ := hrel
              by_cases hlt2 : j2 < n
              · obtain ⟨b, off, rfl, hb, hcell⟩ := hR5'.at_map (show j2 < (ranksL ys).length by omega)
                rw [HRE.out j2 (by omega)] at hcell
                go_wp2_with fail
                refine ⟨⟨j2 + 1, by omega, by go_num, by trivial⟩, by simp [intOf]; omega⟩
              · go_wp2_with fail
                go_ret
                exact ⟨ret_bool (by simp), hbe⟩
end Go.Proofs.Ytcjenchkcbnphaa.Gr
