/- WALK of the law that nodes may be counted from the other end. Condition: the argument reads as a row of numbers. -/
import Derived.Test.YtcjenchkcbnphaaGraphRenamedPlain
import Derived.Test.YtcjenchkcbnphaaGraphFit
namespace Go.Proofs.Ytcjenchkcbnphaa.Gr
open Go.RowKit Mem

theorem fit_row {a0 : Option Addr} {len0 cap0 : Nat} {z0 : List Int} {w : World} (w0 : IsRow .i64 w a0 len0 cap0 z0) : ∃ v : List Int, goodB v = true ∧ v.length ≤ 12 ∧ v.length ≤ len0 ∧
    ∀ W : World, Below w.heap.size w W → Calls Try.prog 19 #[.slice a0 len0 cap0] W (FitPost v W) := by
  obtain ⟨l, rfl, hlc, hcap, hL, hwf⟩ := ints_of_row w0
  refine ⟨fitV l, fit_good l, fit_le l, by rw [fit_len]; unfold fitN; omega, fun W hW => fit_any a0 cap0 l W (hL.below hW) (by omega) (fun x hx => wf_int (hwf x hx))⟩

set_option maxRecDepth 100000 in
set_option maxHeartbeats 4000000 in
theorem renamed_walk (a0 : Option Addr) (len0 cap0 : Nat) (z0 : List Int) (w : World) (w0 : IsRow .i64 w a0 len0 cap0 z0) :
    Calls Try.prog 8 #[.slice a0 len0 cap0] w fun e w' => e = .returned (.bool true) ∧ Below w.heap.size w w' := by
  obtain ⟨v, hg, hl, _, hfit⟩ := fit_row w0
  have hmk := run_make_row' (P := Try.prog) 22 3 (.int .i64 0) 8 Try.underlying22 int_info rfl .i64 .i64 v.length (by omega) (by omega)
  have HG := Lib.hid hg
  have HFIT := Lib.hid hfit
  clear hg hfit w0
  go_enter Try.func8, Try.ntmps8
  go_wp2_with fail
  refine (shown_any _).mono ?_
  rintro e w1 ⟨rfl, hb1⟩
  go_wp2_with fail
  refine (HFIT.out _ hb1).mono ?_
  rintro e w2 ⟨S, m, rfl, hS, hb2⟩
  have hbw2 : Below w.heap.size w w2 := hb1.trans (hb2.mono hb1.size)
  have hSL := hS.lies
  clear hb1 hb2 HFIT hS
  go_wp2_with fail
  have hrow := WRow.made w2 v.length
  have hbm : Below w2.heap.size w2 (w2.alloc (.cells (madeCells #[.int .i64 0] v.length) 3)) := (Below.refl _ _).alloc (Nat.le_refl _) _
  clear hmk
  go_loopw [7] (fun i wr => ∃ (k : Nat) (xs : List Int), k ≤ v.length ∧ i = .int .i64 k ∧ xs.length = v.length ∧ WRow wr w2.heap.size xs ∧ (∀ i (hi : i < v.length), i < k → xs[v.length - 1 - i]? = some (revAt v.length v[i])) ∧ Below w2.heap.size w2 wr) (fun i _ => v.length - (intOf i).toNat)
  case atStart => exact ⟨0, _, by omega, rfl, by simp, hrow, fun i hi h => absurd h (by omega), hbm⟩
  case round =>
    clear hbm hrow
    obtain ⟨k, xs, hk, rfl, hxn, hW, hp, hbr⟩ := hrel
    by_cases hlt : k < v.length
    · obtain ⟨b, off, rfl, hb, hcell0⟩ := hSL.at_map hlt
      obtain ⟨j, hj⟩ : ∃ j, j = v.length - 1 - k := ⟨_, rfl⟩
      have hjk : (v.length : Int) - 1 - (k : Int) = (j : Int) := by omega
      have hjx : j < xs.length := by omega
      have hgy := good_at HG.out hlt
      have hfill := rev_fill hlt xs hxn hp
      rw [← hj] at hfill
      obtain ⟨x, hx⟩ : ∃ x, x = v[k] := ⟨_, rfl⟩
      rw [← hx] at hcell0 hgy hfill
      obtain ⟨hx1, hx2⟩ := hgy
      have hc := hW.cell j hjx
      have hf := hW.free j hjx
      obtain ⟨y, hy⟩ : ∃ y, y = xs[j] := ⟨_, rfl⟩
      rw [← hy] at hc
      have hs1 := hW.set_ j (-1)
      have hbs := hbr.setCell (p := ⟨w2.heap.size, j, none⟩) (Nat.le_refl _) (.int .i64 (-1))
      have hcell1 := (hbs.cell (p := ⟨b, off + k, none⟩) hb).trans hcell0
      have HFILL := Lib.hid hfill
      have HJ := Lib.hid hj
      clear hfill hp hy hx hj hW
      by_cases hneg : x < 0
      · have er : revAt v.length x = -1 := by unfold revAt; rw [if_pos hneg]
        have ER := Lib.hid er
        have tg : decide (0 ≤ x) = false := by simp; omega
        clear er
        go_wp2_with fail
        refine ⟨⟨k + 1, _, by omega, by go_num, by simpa using hxn, hs1, by rw [← ER.out]; exact HFILL.out, hbs⟩, by simp [intOf]; omega⟩
      · have er : revAt v.length x = (v.length : Int) - 1 - x := by unfold revAt; rw [if_neg hneg]
        have ER := Lib.hid er
        have tg : decide (0 ≤ x) = true := by simp; omega
        have hc2 := hs1.cell j (by rw [List.length_set]; exact hjx)
        have hf2 := hs1.free j (by rw [List.length_set]; exact hjx)
        obtain ⟨y2, hy2⟩ : ∃ y2, y2 = (xs.set j (-1))[j]'(by rw [List.length_set]; exact hjx) := ⟨_, rfl⟩
        rw [← hy2] at hc2
        have hs2 := hs1.set_ j ((v.length : Int) - 1 - x)
        rw [List.set_set] at hs2
        have hbs2 := hbs.setCell (p := ⟨w2.heap.size, j, none⟩) (Nat.le_refl _) (.int .i64 ((v.length : Int) - 1 - x))
        clear er hy2 hs1
        go_wp2_with fail
        refine ⟨⟨k + 1, _, by omega, by go_num, by simpa using hxn, hs2, by rw [← ER.out]; exact HFILL.out, hbs2⟩, by simp [intOf]; omega⟩
    · have ek : k = v.length := by omega
      have ex : xs = revV v := rev_full hxn (fun i hi => hp i hi (by omega))
      subst ex
      have hA := hW.lies
      have hB := hSL.below hbr
      have hbw : Below w.heap.size w wr := hbw2.trans (hbr.mono hbw2.size)
      have her := errno_good (by omega) HG.out
      have herw := errno_good (by rw [rev_len]; omega) (rev_good HG.out)
      clear hp hxn ek hW hSL hbr hbw2
      obtain ⟨wl, rfl⟩ : ∃ wl : World, wl = wr := ⟨_, rfl⟩
      have h3 := fun W (hW : Lies W S (ints v)) => loop_yes S m v W hW her
      have h4 := fun W (hW : Lies W (some ⟨w2.heap.size, 0, none⟩) (ints (revV v))) => loop_yes (some ⟨w2.heap.size, 0, none⟩) v.length (revV v) W hW herw
      rw [rev_len] at h4
      cases ha : allRanked v with
      | false =>
        have haw : allRanked (revV v) = false := by rw [rev_all HG.out]; exact ha
        have h1 := fun W (hW : Lies W S (ints v)) => ranks_none (c := m) hW her ha
        have h2 := fun W (hW : Lies W (some ⟨w2.heap.size, 0, none⟩) (ints (revV v))) => ranks_none (c := v.length) hW herw haw
        rw [rev_len] at h2
        have hp1 := loop_full HG.out ha
        have hp2 := loop_full (rev_good HG.out) haw
        have t1 : (((loopL v).length : Int) == 0) = false := by rw [beq_eq_false_iff_ne]; omega
        have t2 : (((loopL (revV v)).length : Int) == 0) = false := by rw [beq_eq_false_iff_ne]; omega
        have H1 := Lib.hid h1
        have H2 := Lib.hid h2
        have H3 := Lib.hid h3
        have H4 := Lib.hid h4
        clear h1 h2 h3 h4 her herw ha haw hp1 hp2
        go_wp2_with fail
        refine (H1.out _ hB).mono ?_
        rintro e w3 ⟨rfl, hb3⟩
        go_wp2_with fail
        refine (H2.out _ (hA.below hb3)).mono ?_
        rintro e w4 ⟨rfl, hb4⟩
        have hb34 := hb3.trans (hb4.mono hb3.size)
        go_wp2_with fail
        refine (H3.out _ (hB.below hb34)).mono ?_
        rintro e w5 ⟨R5, m5, rfl, hR5, hb5⟩
        have hb35 := hb34.trans (hb5.mono hb34.size)
        go_wp2_with fail
        refine (H4.out _ (hA.below hb35)).mono ?_
        rintro e w6 ⟨R6, m6, rfl, hR6, hb6⟩
        have hb36 := hb35.trans (hb6.mono hb35.size)
        go_wp2_with fail
        go_loopw [16] (fun i wr => i = .int .i64 0 ∧ w6 = wr) (fun i _ => 0)
        case atStart => exact ⟨rfl, rfl⟩
        case round =>
          obtain ⟨rfl, rfl⟩ := hrel
          go_wp2_with fail
          go_ret
          exact ⟨rfl, hbw.trans (hb36.mono hbw.size)⟩
      | true =>
        have haw : allRanked (revV v) = true := by rw [rev_all HG.out]; exact ha
        have h1 := fun W (hW : Lies W S (ints v)) => ranks_all (c := m) hW her ha
        have h2 := fun W (hW : Lies W (some ⟨w2.heap.size, 0, none⟩) (ints (revV v))) => ranks_all (c := v.length) hW herw haw
        rw [rev_len] at h2
        rw [loop_empty HG.out ha] at h3
        rw [loop_empty (rev_good HG.out) haw] at h4
        have hl1 := ranks_len v
        have hl2 := ranks_len (revV v)
        rw [rev_len] at hl2
        have HA := Lib.hid ha
        have H1 := Lib.hid h1
        have H2 := Lib.hid h2
        have H3 := Lib.hid h3
        have H4 := Lib.hid h4
        clear h1 h2 h3 h4 her herw ha haw
        go_wp2_with fail
        refine (H1.out _ hB).mono ?_
        rintro e w3 ⟨R3, m3, rfl, hR3, hb3⟩
        go_wp2_with fail
        refine (H2.out _ (hA.below hb3)).mono ?_
        rintro e w4 ⟨R4, m4, rfl, hR4, hb4⟩
        have hb34 := hb3.trans (hb4.mono hb3.size)
        go_wp2_with fail
        refine (H3.out _ (hB.below hb34)).mono ?_
        rintro e w5 ⟨R5, m5, rfl, hR5, hb5⟩
        have hb35 := hb34.trans (hb5.mono hb34.size)
        go_wp2_with fail
        refine (H4.out _ (hA.below hb35)).mono ?_
        rintro e w6 ⟨R6, m6, rfl, hR6, hb6⟩
        have hb36 := hb35.trans (hb6.mono hb35.size)
        have hR3' := ((hR3.below hb4).below hb5).below hb6
        have hR4' := (hR4.below hb5).below hb6
        have hbe : Below w.heap.size w w6 := hbw.trans (hb36.mono hbw.size)
        clear hb3 hb4 hb5 hb6 hb34 hb35 hb36 hR3 hR4 hR5 hR6 H1 H2 H3 H4 hbw hA hB
        go_wp2_with fail
        go_loopw [16] (fun i wr => ∃ k : Nat, k ≤ v.length ∧ i = .int .i64 k ∧ Below w.heap.size w wr ∧ ∃ n, wr = w6.drewN n) (fun i _ => v.length - (intOf i).toNat)
        case atStart => exact ⟨0, by omega, rfl, hbe, 0, rfl⟩
        case round =>
          obtain ⟨k, hk, rfl, hbr, n, rfl⟩ := hrel
          by_cases hlt : k < v.length
          · obtain ⟨b, off, rfl, hb, hcell⟩ := hR3'.at_map (show k < (ranksL v).length by omega)
            obtain ⟨j, hj⟩ : ∃ j, j = v.length - 1 - k := ⟨_, rfl⟩
            have hjk : (v.length : Int) - 1 - (k : Int) = (j : Int) := by omega
            have hjr : v.length - 1 - k < (ranksL (revV v)).length := by omega
            obtain ⟨b2, off2, rfl, hb2, hcell2⟩ := hR4'.at_map (show j < (ranksL (revV v)).length by omega)
            have hee : (ranksL (revV v))[j]'(by omega) = (ranksL v)[k]'(by omega) := by
              subst hj
              exact rev_ranks HG.out HA.out (by omega) (by omega)
            rw [hee] at hcell2
            obtain ⟨x, hx⟩ : ∃ x, x = (ranksL v)[k]'(by omega) := ⟨_, rfl⟩
            rw [← hx] at hcell hcell2
            have t : (x != x) = false := by simp
            have i0 : (0 : Int) ≤ (k : Int) := by omega
            have i1 : (k : Int) < (v.length : Int) := by omega
            have i2 : (0 : Int) ≤ (j : Int) := by omega
            have i3 : (j : Int) < (v.length : Int) := by omega
            have e1 : IntKind.i64.wrap ((v.length : Int) - 1) = (v.length : Int) - 1 := IntWalk.i64_in _ (by omega)
            have e2 : IntKind.i64.wrap ((v.length : Int) - 1 - (k : Int)) = (j : Int) := by rw [IntWalk.i64_in _ (by omega)]; omega
            clear hx hee hjk hj
            go_wp2_with fail
            go_quiet (fail)
            go_wp2_with fail
            refine ⟨⟨k + 1, by omega, by go_num, by first | exact below_drawn hbe _ | exact below_drawn (below_drawn hbe _) _, ?_⟩, by simp [intOf]; omega⟩
            first
              | exact ⟨_, rfl⟩
              | exact ⟨_, (World.drewN_drewN _ _ _)⟩
          · go_wp2_with fail
            go_ret
            exact ⟨rfl, hbr⟩
end Go.Proofs.Ytcjenchkcbnphaa.Gr
