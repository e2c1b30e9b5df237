/- WALK of the law that what was put is taken in order, as long as there is room. Conditions: the arguments read as a byte and a slice of numbers. -/
import Derived.Test.YtlpbnhnnbmgdaaaLaws
namespace Go.Proofs.Ytlpbnhnnbmgdaaa.Q
open Go.Conc Go.RowKit Mem

theorem len_is {q c cap : Nat} {l : List Value} (m : Nat) (w : World) (hQ : QAt w q c cap l) (hm : l.length = m) :
    Calls Try.prog 17 #[.pointer (some ⟨q, 0, none⟩)] w fun e w' => e = .returned (.int .i64 (m : Int)) ∧ w = w' := by
  subst hm; exact len_any w hQ

/-- The first numbers wait. -/
theorem take_snoc_map (xs : List Int) (k : Nat) (h : k < xs.length) : (xs.take (k + 1)).map vi = (xs.take k).map vi ++ [.int .i64 xs[k]] := by
  rw [List.take_succ_eq_append_getElem h, List.map_append]; rfl

set_option maxHeartbeats 2000000 in
theorem order_walk (a0 : Int) (a1 : Option Addr) (len1 cap1 : Nat) (z1 : List Int) (w : World) (w0 : (Lit.int .u8 a0).wf = true) (w1 : IsRow .i64 w a1 len1 cap1 z1) :
    Calls Try.prog 4 #[.int .u8 a0, .slice a1 len1 cap1] w fun e w' => e = .returned (.bool true) ∧ Below w.heap.size w w' := by
  obtain ⟨r, hr, rfl⟩ := wf_byte w0
  obtain ⟨xs0, rfl, hlc, hcap, hX0, _⟩ := ints_of_row w1
  clear w0 w1
  obtain ⟨xs, hxs⟩ : ∃ l, l = xs0.take 40 := ⟨_, rfl⟩
  have hX : Lies w a1 (xs.map vi) := by rw [hxs]; exact hX0.take_map 40
  have HL := Lib.hid (show xs.length = min xs0.length 40 by rw [hxs, List.length_take, Nat.min_comm])
  have g1 : xs.length ≤ 40 := by have := HL.out; omega
  have g2 : xs.length ≤ xs0.length := by have := HL.out; omega
  clear hxs hX0
  obtain ⟨n, hn⟩ : ∃ n : Nat, n = 1 + r % 64 := ⟨_, rfl⟩
  have hn1 : 1 ≤ n := by omega
  have hn2 : n ≤ 64 := by omega
  have hni : 1 + (r : Int) % 64 = (n : Int) := by omega
  have HN := Lib.hid hni
  clear hn hni
  go_enter Try.func4, Try.ntmps4
  go_wp2_with fail
  refine (shown_any _).mono ?_
  rintro e w1 ⟨rfl, hb1⟩
  go_wp2_with fail
  rw [HN.out]
  refine (new_ok n hn1 (by omega) _).mono ?_
  rintro e w2 ⟨q, c, rfl, hQ2, hq, hc, hb2⟩
  have hb3 := hb1.trans (hb2.mono hb1.size)
  have hq' := Nat.le_trans hb1.size hq
  have hc' := Nat.le_trans hb1.size hc
  clear hb1 hb2 hq hc
  go_wp2_with fail
  refine (few_any _ _ _ xs.length hlc hcap HL.out _).mono ?_
  rintro e w' ⟨rfl, rfl⟩
  go_wp2_with fail
  go_loopw [10] (fun i wr => ∃ k : Nat, k ≤ xs.length ∧ i = .int .i64 k ∧ QAt wr q c n ((xs.take (min k n)).map vi) ∧ Below w.heap.size w wr) (fun i _ => xs.length - (intOf i).toNat)
  case atStart => exact ⟨0, by omega, rfl, by simpa using hQ2, hb3⟩
  case round =>
    obtain ⟨k, hk, rfl, hQ, hbr⟩ := hrel
    by_cases hlt : k < xs.length
    · obtain ⟨b, off, rfl, hb, hcell⟩ := (hX.below hbr).at_map hlt
      have hcell' : wr.cell? ⟨b, off + k, none⟩ = some (.int .i64 xs[k]) := hcell
      obtain ⟨y, hy⟩ : ∃ y, y = xs[k] := ⟨_, rfl⟩
      rw [← hy] at hcell'
      have HY := Lib.hid hy
      clear hcell hy
      by_cases hkn : k < n
      · rw [show min k n = k by omega] at hQ
        have HQ := Lib.hid hQ
        clear hQ
        go_wp2_with fail
        refine (put_ok y wr HQ.out (by rw [List.length_map, List.length_take]; omega)).mono ?_
        rintro e w4 ⟨rfl, hQ4, ho4⟩
        rw [HY.out, ← take_snoc_map xs k hlt] at hQ4
        have hb4 := hbr.trans (ho4.below hc')
        go_wp2_with fail
        refine (len_is (k + 1) w4 hQ4 (by rw [List.length_map, List.length_take]; omega)).mono ?_
        rintro e w' ⟨rfl, rfl⟩
        go_wp2_with fail
        refine ⟨⟨k + 1, by omega, by go_num, by rw [show min (k + 1) n = k + 1 by omega]; exact hQ4, hb4⟩, by simp [intOf]; omega⟩
      · have e1 : min k n = n := by omega
        rw [e1] at hQ
        have HQ := Lib.hid hQ
        clear hQ e1
        go_wp2_with fail
        refine (put_full y wr HQ.out (by rw [List.length_map, List.length_take]; omega)).mono ?_
        rintro e w' ⟨rfl, rfl⟩
        go_wp2_with fail
        refine (len_is n wr HQ.out (by rw [List.length_map, List.length_take]; omega)).mono ?_
        rintro e w' ⟨rfl, rfl⟩
        go_wp2_with fail
        refine ⟨⟨k + 1, by omega, by go_num, by rw [show min (k + 1) n = n by omega]; exact HQ.out, hbr⟩, by simp [intOf]; omega⟩
    · have ek : k = xs.length := by omega
      obtain ⟨m, hm⟩ : ∃ m, m = min k n := ⟨_, rfl⟩
      rw [← hm] at hQ
      have m1 : m ≤ xs.length := by omega
      have m2 : m ≤ n := by omega
      have HM := Lib.hid hm
      have HK := Lib.hid ek
      obtain ⟨ts, hts⟩ : ∃ ts, ts = xs.take m := ⟨_, rfl⟩
      rw [← hts] at hQ
      have HT := Lib.hid hts
      have htl : ts.length = m := by rw [hts, List.length_take]; omega
      have HTL := Lib.hid htl
      clear hts htl hm ek
      obtain ⟨wo, rfl⟩ : ∃ wo : World, wo = wr := ⟨_, rfl⟩
      go_wp2_with fail
      go_loopw [12] (fun i wr => ∃ j : Nat, j ≤ m ∧ i = .int .i64 j ∧ QAt wr q c n ((ts.drop j).map vi) ∧ Below w.heap.size w wr) (fun i _ => m - (intOf i).toNat)
      case atStart => exact ⟨0, by omega, rfl, by simpa using hQ, hbr⟩
      case round =>
        obtain ⟨j, hj, rfl, hQj, hbj⟩ := hrel
        by_cases hlt2 : j < m
        · obtain ⟨b, off, rfl, hb, hcell⟩ := hX.at_map (show j < xs.length by omega)
          have hcell' : wr.cell? ⟨b, off + j, none⟩ = some (.int .i64 xs[j]) := (hbj.cell (p := ⟨b, off + j, none⟩) hb).trans hcell
          have hjt : j < ts.length := by rw [HTL.out]; exact hlt2
          have hd := drop_at hjt
          have hx : ts[j] = xs[j] := by
            have e := HT.out
            subst e
            rw [List.getElem_take]
          rw [hd, hx] at hQj
          obtain ⟨y, hy⟩ : ∃ y, y = xs[j] := ⟨_, rfl⟩
          rw [← hy] at hcell' hQj
          have HQ := Lib.hid hQj
          clear hcell hy hd hx hQj hQ
          have t1 : j < xs.length := by omega
          have t2 : j < n := by omega
          go_wp2_with fail
          refine (take_ok (.int .i64 y) wr HQ.out).mono ?_
          rintro e w4 ⟨rfl, hQ4, ho4⟩
          have hb4 := hbj.trans (ho4.below hc')
          have hcell4 : w4.cell? ⟨b, off + j, none⟩ = some (.int .i64 y) := ((ho4.below (B := w.heap.size) hc').cell (p := ⟨b, off + j, none⟩) (Nat.lt_of_lt_of_le hb (Nat.le_refl _))).trans hcell'
          go_wp2_with fail
          refine ⟨⟨j + 1, by omega, by go_num, hQ4, hb4⟩, by simp [intOf]; omega⟩
        · have ej : j = m := by omega
          have hd : (ts.drop j).map vi = [] := by rw [List.drop_eq_nil_of_le (by rw [HTL.out]; omega)]; rfl
          rw [hd] at hQj
          have t3 : ¬ (j < xs.length ∧ j < n) := by have := HM.out; have := HK.out; omega
          have HQ := Lib.hid hQj
          clear hd hQj hQ
          have k1 : ∀ W, QAt W q c n [] → Calls Try.prog 13 #[.pointer (some ⟨q, 0, none⟩)] W fun e w' => ∃ A m, e = .returned (.slice A 0 m) ∧ W.grownBy w' (some c) := fun W hW => (all_any [] W hW (by omega)).mono fun e w' ⟨A, m, h1, _, _, h4⟩ => ⟨A, m, h1, h4⟩
          have K1 := Lib.hid k1
          clear k1
          have hcl := hc'
          by_cases t4 : j < xs.length
          all_goals
            go_wp2_with fail
            refine (take_none wr HQ.out).mono ?_
            rintro e w' ⟨rfl, rfl⟩
            go_wp2_with fail
            refine (len_is 0 wr HQ.out rfl).mono ?_
            rintro e w' ⟨rfl, rfl⟩
            go_wp2_with fail
            refine (K1.out wr HQ.out).mono ?_
            rintro e w5 ⟨A, m', rfl, hg⟩
            go_wp2_with fail
            go_ret
            exact ⟨rfl, hbj.grown hg hbj.size (by intro g hg; injection hg with hg; omega)⟩
end Go.Proofs.Ytlpbnhnnbmgdaaa.Q
