/- CONTRACT of theseustop.TopRing: it answers true. No conditions but the parameters' ranges. -/
import Derived.Test.YtpjoefekhgmlhaaGreatMa37
namespace Go.Proofs.YtpjoefekhgmlhaaGreat.Tp
open Go.RowKit Mem

theorem nodes_info : (Tryz.prog.info? 44).map (fun i => (i.zero, i.size, i.bytes)) = some (some (.slice none 0 0), 1, 24) := by kernel_rfl
/-- So many nodes of the ring are laid. -/
def RingAt (W : World) (g n i : Nat) : Prop := ∃ vs : List Value, vs.length = n ∧ VRow W g vs ∧ ∀ j, j < i → ∃ B, vs[j]? = some (.slice (some ⟨B, 0, none⟩) 1 1) ∧ Lies W (some ⟨B, 0, none⟩) (rcs [ringR n j]) ∧ B ≠ g
theorem RingAt.below {W W' : World} {g n i : Nat} (h : RingAt W g n i) (hb : Below W.heap.size W W') : RingAt W' g n i := by
  obtain ⟨vs, h1, h2, h3⟩ := h
  exact ⟨vs, h1, h2.below hb h2.lt, fun j hj => by obtain ⟨B, e, hl, hn⟩ := h3 j hj; exact ⟨B, e, hl.below hb, hn⟩⟩
theorem RingAt.step {W : World} {g n i : Nat} (h : RingAt W g n i) (hi : i < n) (hg : g < W.heap.size) (cs : Array Value) (t : TypeId) (hcs : cs.toList = rcs [ringR n i]) : RingAt ((W.setCell ⟨g, i, none⟩ (.slice (some ⟨W.heap.size, 0, none⟩) 1 1)).alloc (.cells cs t)) g n (i + 1) := by
  obtain ⟨vs, h1, h2, h3⟩ := h
  have hb := bal (W.setCell ⟨g, i, none⟩ (.slice (some ⟨W.heap.size, 0, none⟩) 1 1)) (.cells cs t)
  have hv := (h2.set_ i (.slice (some ⟨W.heap.size, 0, none⟩) 1 1)).below hb (by simpa using hg)
  refine ⟨vs.set i (.slice (some ⟨W.heap.size, 0, none⟩) 1 1), by simp [h1], hv, fun j hj => ?_⟩
  by_cases e : j = i
  · subst e
    refine ⟨W.heap.size, List.getElem?_set_self (by omega), ?_, by omega⟩
    rw [← hcs]
    exact lies_newset W _ _ cs t
  · obtain ⟨B, e1, hl, hn⟩ := h3 j (by omega)
    refine ⟨B, by rw [List.getElem?_set_ne (by omega)]; exact e1, ?_, hn⟩
    exact (lies_set hl (fun a ha => by injection ha with ha; rw [← ha]; exact hn)).below hb
theorem RingAt.net {W : World} {g n : Nat} (h : RingAt W g n n) : NetAt W (some ⟨g, 0, none⟩) (ringNet n) := by
  obtain ⟨vs, h1, h2, h3⟩ := h
  refine ⟨vs, by rw [h1, ring_len], h2.lies, fun i hi => ?_⟩
  obtain ⟨B, e, hl, -⟩ := h3 i (by rw [ring_len] at hi; exact hi)
  rw [ring_at hi]
  exact ⟨_, _, e, hl, Nat.le_refl 1, show (1 : Nat) ≤ 9223372036854775807 by omega⟩
theorem RingAt.line {W : World} {g n : Nat} (h : RingAt W g n n) (h0 : 0 < n) (hg : g < W.heap.size) (cs : Array Value) (t : TypeId) (hcs : cs.toList = rcs [⟨0, 0, 2, 0⟩]) : NetAt ((W.setCell ⟨g, n - 1, none⟩ (.slice (some ⟨W.heap.size, 0, none⟩) 1 1)).alloc (.cells cs t)) (some ⟨g, 0, none⟩) (lineNet n) := by
  obtain ⟨vs, h1, h2, h3⟩ := h
  have hb := bal (W.setCell ⟨g, n - 1, none⟩ (.slice (some ⟨W.heap.size, 0, none⟩) 1 1)) (.cells cs t)
  have hv := (h2.set_ (n - 1) (.slice (some ⟨W.heap.size, 0, none⟩) 1 1)).below hb (by simpa using hg)
  refine ⟨vs.set (n - 1) (.slice (some ⟨W.heap.size, 0, none⟩) 1 1), by rw [List.length_set, h1, line_len], hv.lies, fun i hi => ?_⟩
  have hi' : i < n := by rw [line_len] at hi; exact hi
  rw [line_at hi]
  by_cases e : i = n - 1
  · rw [if_pos e, e]
    refine ⟨_, _, List.getElem?_set_self (by omega), ?_, Nat.le_refl 1, show (1 : Nat) ≤ 9223372036854775807 by omega⟩
    show Lies _ _ (rcs [⟨0, 0, 2, 0⟩])
    rw [← hcs]
    exact lies_newset W _ _ cs t
  · rw [if_neg e]
    obtain ⟨B, e1, hl, hn⟩ := h3 i hi'
    exact ⟨_, _, by rw [List.getElem?_set_ne (by omega)]; exact e1, (lies_set hl (fun a ha => by injection ha with ha; rw [← ha]; exact hn)).below hb, Nat.le_refl 1, show (1 : Nat) ≤ 9223372036854775807 by omega⟩
theorem gps_len (l : List Nat) : (l.flatMap gp).length ≤ 2 * l.length := by
  induction l with
  | nil => simp
  | cons x l ih =>
    have := gp_len x
    rw [List.flatMap_cons, List.length_append, List.length_cons]
    omega
theorem ring_in {n : Nat} (hn : n ≤ 256) : (certIn n (ringC n)).length ≤ 1000000 := by
  rw [certIn_trace rfl]
  have h1 := gp_len n
  have h2 := gp_len (ringC n).trace.length
  have h3 := gps_len (ringC n).trace
  have h4 : (ringC n).trace.length = n := by simp [ringC]
  have h5 : (be 1 (ringC n).verdict).length = 1 := rfl
  have h6 : (be 4 (ringC n).dest).length = 4 := rfl
  simp only [List.length_append, List.length_nil, h5, h6]
  omega
set_option maxRecDepth 100000 in
set_option maxHeartbeats 8000000 in
theorem topring_any (k b : Nat) (hk : k < 256) (hb : b < 4294967296) (w : World) :
    Calls Tryz.prog 4 #[.int .u8 (k : Int), .int .u32 (b : Int)] w fun e w' => e = .returned (.bool true) ∧ Below w.heap.size w w' := by
  have hsh := shown_true w
  obtain ⟨n, hn⟩ : ∃ n : Nat, n = 256 - k % 64 := ⟨_, rfl⟩
  have hn0 : 0 < n := by omega
  have hn1 : n ≤ 256 := by omega
  have hnk : (256 : Int) - (k : Int) % 64 = (n : Int) := by omega
  have HSH := Lib.hid hsh
  have HN := Lib.hid hn
  obtain ⟨K, hK⟩ : ∃ K : Int, K = (k : Int) := ⟨_, rfl⟩
  rw [← hK] at hnk ⊢
  have hK0 : 0 ≤ K := by omega
  have hK1 : K < 256 := by omega
  have HNK := Lib.hid hnk
  clear hsh hn hK hnk
  go_enter Tryz.func4, Tryz.ntmps4
  go_wp2_with fail
  refine (HSH.out).mono ?_
  rintro e w1 ⟨rfl, hb1⟩
  go_upto_region 3 with fail
  rw [HNK.out]
  have hmk := run_make_row' (P := Tryz.prog) 22 44 (.slice none 0 0) 24 Tryz.underlying22 nodes_info rfl .i64 .i64 n (by omega) (by omega)
  obtain ⟨mk, hmkd⟩ : ∃ mk, mk = Obj.cells (madeCells #[.slice none 0 0] n) 44 := ⟨_, rfl⟩
  have hrow := VRow.made w1 (.slice none 0 0) n 44
  rw [← hmkd] at hmk hrow
  obtain ⟨w2, hw2⟩ : ∃ w2, w2 = w1.alloc mk := ⟨_, rfl⟩
  obtain ⟨w3, hw3⟩ : ∃ w3, w3 = w2.alloc (.cells #[.slice (some ⟨w1.heap.size, 0, none⟩) n n] 24) := ⟨_, rfl⟩
  have s2 : w2.heap.size = w1.heap.size + 1 := by rw [hw2]; simp
  have b2 : Below w1.heap.size w1 w2 := by rw [hw2]; exact bal _ _
  have b3 : Below w2.heap.size w2 w3 := by rw [hw3]; exact bal _ _
  rw [← hw2] at hrow
  have hr3 : RingAt w3 w1.heap.size n 0 := ⟨_, by simp, hrow.below b3 hrow.lt, fun j hj => absurd hj (by omega)⟩
  have hx3 : VRow w3 (w1.heap.size + 1) [.slice (some ⟨w1.heap.size, 0, none⟩) n n] := by rw [hw3, ← s2]; exact VRow.new w2 #[.slice (some ⟨w1.heap.size, 0, none⟩) n n] _
  have hb3 := hb1.trans ((b2.trans (b3.mono b2.size)).mono hb1.size)
  rw [hw2] at hw3
  have HW3 := Lib.hid hw3
  have HR3 := Lib.hid hr3
  have HX3 := Lib.hid hx3
  have HB3 := Lib.hid hb3
  have hlt3 : w1.heap.size + 1 < w3.heap.size := hx3.lt
  clear hmkd hrow hw2 hw3 s2 b2 b3 hr3 hx3 hb3
  go_wp2_with fail
  rw [← HW3.out]
  clear hmk HW3
  go_loopw [8] (fun s8 wr => ∃ i : Nat, i ≤ n ∧ s8 = .int .i64 i ∧ Hid (RingAt wr w1.heap.size n i) ∧ Hid (VRow wr (w1.heap.size + 1) [.slice (some ⟨w1.heap.size, 0, none⟩) n n]) ∧ Hid (Below w.heap.size w wr)) (fun s8 _ => n - (intOf s8).toNat)
  case atStart => exact ⟨0, by omega, rfl, HR3, HX3, HB3⟩
  case round =>
    clear HR3 HX3 HB3
    obtain ⟨i, hi, rfl, HR, HX, HB⟩ := hrel
    by_cases hlt : i < n
    · have hx := (HX.out.get (i := 0) rfl).1
      have hxl := HX.out.lt
      obtain ⟨vs, hvl, hvr, -⟩ := HR.out
      obtain ⟨hc, hf⟩ := hvr.get (i := i) (List.getElem?_eq_getElem (by omega))
      obtain ⟨u, hu⟩ : ∃ u, u = vs[i]'(by omega) := ⟨_, rfl⟩
      rw [← hu] at hc
      have hcl := hvr.lt
      obtain ⟨r, hr⟩ : ∃ r, r = (i + 1) % n := ⟨_, rfl⟩
      have hrem : Int.tmod ((i : Int) + 1) (n : Int) = (r : Int) := by rw [hr]; exact (Int.ofNat_tmod (i + 1) n).symm
      have i0 : (0 : Int) ≤ (i : Int) := by omega
      have i1 : (i : Int) < (n : Int) := by omega
      have n0 : ((n : Int) == 0) = false := by rw [beq_eq_false_iff_ne]; omega
      have n1 : ¬ (n : Int) = 0 := by omega
      have hrl : r < n := by rw [hr]; exact Nat.mod_lt _ hn0
      have hst := HR.out.step hlt hcl #[.int .u32 0, .int .i64 0, .int .i64 1, .int .i64 (r : Int)] 43 (by rw [hr]; rfl)
      have hX2 := (HX.out.keep (w' := wr.setCell ⟨w1.heap.size, i, none⟩ (.slice (some ⟨wr.heap.size, 0, none⟩) 1 1)) (by simp) (Below.heap_setCell wr ⟨w1.heap.size, i, none⟩ _ _ (by show w1.heap.size + 1 ≠ w1.heap.size; omega))).below (bal _ (.cells #[.int .u32 0, .int .i64 0, .int .i64 1, .int .i64 (r : Int)] 43)) (by simpa using hxl)
      have hB2 := (HB.out.setCell (p := ⟨w1.heap.size, i, none⟩) hb1.size (.slice (some ⟨wr.heap.size, 0, none⟩) 1 1)).alloc (by simpa using HB.out.size) (.cells #[.int .u32 0, .int .i64 0, .int .i64 1, .int .i64 (r : Int)] 43)
      have HST := Lib.hid (hst.below (below_drew (Below.refl _ _)))
      have HX2 := Lib.hid hX2.drew
      have HB2 := Lib.hid (below_drew hB2)
      clear hu hvl hvr hr hst hX2 hB2
      go_wp2_with fail
      go_region
      go_wp2_with fail
      refine ⟨⟨i + 1, by omega, by go_num, HST, HX2, HB2⟩, by simp [intOf]; omega⟩
    · obtain rfl : i = n := by omega
      obtain ⟨wo, rfl⟩ : ∃ wo : World, wo = wr := ⟨_, rfl⟩
      have hx := (HX.out.get (i := 0) rfl).1
      have hnet := HR.out.net
      have han := ring_anet hn0 hn1 (some ⟨w1.heap.size, 0, none⟩) i wo hnet
      rw [ring_len] at han
      have HAN := Lib.hid han
      clear han hnet
      go_wp2_with fail
      refine (HAN.out).mono ?_
      rintro e w4 ⟨PA, TB, cA, cB, rfl, -, hTB, hTN, hb4⟩
      have hdl : (ringC i).trace.length = i := by simp [ringC]
      have hpl : (ringC i).parts.length = 0 := rfl
      have hvd : (((ringC i).verdict : Nat) : Int) = 2 := rfl
      have hds : (((ringC i).dest : Nat) : Int) = 0 := rfl
      rw [hdl, hpl, hvd, hds]
      obtain ⟨w5, hw5⟩ : ∃ w5, w5 = w4.alloc (.cells #[.int .i64 2, .slice PA 0 cA, .int .u32 0, .slice TB i cB] 31) := ⟨_, rfl⟩
      have b5 : Below w4.heap.size w4 w5 := by rw [hw5]; exact bal _ _
      have hk5 : VRow w5 w4.heap.size [.int .i64 2, .slice PA 0 cA, .int .u32 0, .slice TB i cB] := by rw [hw5]; exact VRow.new w4 #[.int .i64 2, .slice PA 0 cA, .int .u32 0, .slice TB i cB] _
      have hb5 := hb4.trans (b5.mono hb4.size)
      have hX5 := HX.out.below hb5 HX.out.lt
      have hR5 := HR.out.below hb5
      have hx5 := (hX5.get (i := 0) rfl).1
      have hnp := nput_any (some ⟨w1.heap.size, 0, none⟩) i (ringNet i) w5 hR5.net (ring_ok hn0 hn1) (fun l hl => by rw [ring_one i l hl]; omega)
      rw [ring_len] at hnp
      rw [hw5] at hx5
      have HW5 := Lib.hid hw5
      have HK5 := Lib.hid hk5
      have HX5 := Lib.hid hX5
      have HR5 := Lib.hid hR5
      have HTB := Lib.hid (hTB.below b5)
      have HTN : Hid (∀ a, TB = some a → wo.heap.size ≤ a.block) := Lib.hid hTN
      have HB5 := Lib.hid (HB.out.trans (hb5.mono HB.out.size))
      have HNP := Lib.hid hnp
      have hw45 : wo.heap.size ≤ w4.heap.size := hb4.size
      have hgl : w1.heap.size + 1 < wo.heap.size := HX.out.lt
      clear hx hTB hTN hb4 hdl hpl hvd hds hw5 b5 hk5 hb5 hX5 hR5 hnp HAN HX HR HB
      go_wp2_with fail
      rw [← HW5.out]
      clear hx5
      refine (HNP.out).mono ?_
      rintro e w6 ⟨R1, m1, rfl, hL1, hb6, hm1, hm1'⟩
      rw [bytes_len] at hm1 ⊢
      obtain ⟨M1, hM1⟩ : ∃ M1, M1 = (netB (ringNet i)).length := ⟨_, rfl⟩
      rw [← hM1] at hm1 ⊢
      have hta := tanalyze_any R1 m1 M1 (ringNet i) (ringC i) w6 (ring_ok hn0 hn1) (fun l hl => by rw [ring_one i l hl]; omega) (ring_anet hn0 hn1) (by rw [ring_len]; exact ring_certOk hn0 hn1) (by rw [ring_len]; exact ring_in hn1) hM1.symm hL1 hm1 hm1'
      rw [ring_len] at hta
      have HTA := Lib.hid hta
      have HM1 := Lib.hid (And.intro hM1 (And.intro hm1 hm1'))
      have HL1 := Lib.hid hL1
      have HB6 := Lib.hid hb6
      clear hL1 hb6 hm1 hm1' hM1 hta HNP HW5
      go_wp2_with fail
      refine (HTA.out).mono ?_
      rintro e w7 ⟨R2, m2, rfl, hL2, hb7, hm2, hm2'⟩
      rw [bytes_len] at hm2 ⊢
      obtain ⟨M2, hM2⟩ : ∃ M2, M2 = (certB i (ringC i)).length := ⟨_, rfl⟩
      rw [← hM2] at hm2 ⊢
      have hb67 := HB6.out.trans (hb7.mono HB6.out.size)
      have k1 := tcheck_any R1 R2 m1 m2 M1 M2 i (ringNet i) [0] (ringC i) w7 (ring_ok hn0 hn1) (fun l hl => by rw [ring_one i l hl]; omega) (ring_cutsOf hn0 hn1) (by simp) (by simp) (ring_certOk hn0 hn1) hn1 (ring_in hn1) HM1.out.1.symm (HL1.out.below hb7) HM1.out.2.1 HM1.out.2.2 hM2.symm hL2 hm2 hm2'
      rw [ring_ans hn0 hn1] at k1
      have K1 := Lib.hid k1
      have HB7 := Lib.hid hb67
      obtain ⟨c0, -⟩ := (HK5.out.below hb67 HK5.out.lt).get (i := 0) rfl
      obtain ⟨c3, -⟩ := (HK5.out.below hb67 HK5.out.lt).get (i := 3) rfl
      clear hb67 k1 hb7 hL2 hm2 hm2' hM2 HM1 HL1 HB6 HTA
      go_wp2_with fail
      refine (K1.out).mono ?_
      rintro e w8 ⟨rfl, hb8⟩
      have hb58 := HB7.out.trans (hb8.mono HB7.out.size)
      have hx8 := ((HX5.out.below hb58 HX5.out.lt).get (i := 0) rfl).1
      have hrd := round_any (some ⟨w1.heap.size, 0, none⟩) i (ringNet i) b w8 (HR5.out.below hb58).net (ring_ok hn0 hn1) hb
      rw [ring_len, ring_round hn0 hb] at hrd
      have HRD := Lib.hid hrd
      have HB8 := Lib.hid hb58
      clear c0 c3 hb58 hb8 hrd K1 HB7
      go_wp2_with fail
      refine (HRD.out).mono ?_
      rintro e w9 ⟨rfl, hb9⟩
      have hb59 := HB8.out.trans (hb9.mono HB8.out.size)
      have hX9 := HX5.out.below hb59 HX5.out.lt
      have hR9 := HR5.out.below hb59
      have hK9 := HK5.out.below hb59 HK5.out.lt
      have hx9 := (hX9.get (i := 0) rfl).1
      obtain ⟨vs, hvl, hvr, -⟩ := hR9
      have hR9 := HR5.out.below hb59
      obtain ⟨q9, f9⟩ := hvr.get (i := i - 1) (List.getElem?_eq_getElem (by omega))
      obtain ⟨u, hu⟩ : ∃ u, u = vs[i - 1]'(by omega) := ⟨_, rfl⟩
      rw [← hu] at q9
      have hgl9 : w1.heap.size < w9.heap.size := hvr.lt
      have hcast : ((i : Int) - 1) = ((i - 1 : Nat) : Int) := by omega
      obtain ⟨wa, hwa⟩ : ∃ wa, wa = (w9.setCell ⟨w1.heap.size, i - 1, none⟩ (.slice (some ⟨w9.heap.size, 0, none⟩) 1 1)).alloc (.cells #[.int .u32 0, .int .i64 0, .int .i64 2, .int .i64 0] 43) := ⟨_, rfl⟩
      have hNA : NetAt wa (some ⟨w1.heap.size, 0, none⟩) (lineNet i) := by rw [hwa]; exact hR9.line hn0 hgl9 #[.int .u32 0, .int .i64 0, .int .i64 2, .int .i64 0] 43 rfl
      have hsz9 : (w9.setCell ⟨w1.heap.size, i - 1, none⟩ (.slice (some ⟨w9.heap.size, 0, none⟩) 1 1)).heap.size = w9.heap.size := by simp
      have halA : Below w9.heap.size (w9.setCell ⟨w1.heap.size, i - 1, none⟩ (.slice (some ⟨w9.heap.size, 0, none⟩) 1 1)) wa := by
        have h0 := bal (w9.setCell ⟨w1.heap.size, i - 1, none⟩ (.slice (some ⟨w9.heap.size, 0, none⟩) 1 1)) (.cells #[.int .u32 0, .int .i64 0, .int .i64 2, .int .i64 0] 43)
        rw [hsz9] at h0
        rw [hwa]; exact h0
      have hkA : ∀ g', g' < w9.heap.size → g' ≠ w1.heap.size → wa.heap[g']? = w9.heap[g']? := fun g' h1 h2 => (halA.block g' h1).trans (Below.heap_setCell w9 ⟨w1.heap.size, i - 1, none⟩ _ g' h2)
      have hsA : w9.heap.size ≤ wa.heap.size := by have := halA.size; omega
      have hXA := hX9.keep hsA (hkA _ hX9.lt (by omega))
      have hKA := hK9.keep hsA (hkA _ hK9.lt (by omega))
      have hTA : Lies wa TB (nums (ringC i).trace) := lies_stay (HTB.out.below hb59) hsA fun hn a ha => hkA _ (lies_block (HTB.out.below hb59) hn a ha) (by have := HTN.out a ha; omega)
      have hBA : Below w.heap.size w wa := by rw [hwa]; exact (((HB5.out.trans (hb59.mono HB5.out.size)).setCell (p := ⟨w1.heap.size, i - 1, none⟩) hb1.size _).alloc (by have := (HB5.out.trans (hb59.mono HB5.out.size)).size; simpa using this) _)
      have hxA := (hXA.get (i := 0) rfl).1
      have han := line_anet hn0 hn1 (some ⟨w1.heap.size, 0, none⟩) i wa hNA
      rw [line_len] at han
      rw [hwa] at hxA
      have HWA := Lib.hid hwa
      have HNA := Lib.hid hNA
      have HXA := Lib.hid hXA
      have HKA := Lib.hid hKA
      have HTA := Lib.hid hTA
      have HBA := Lib.hid hBA
      have HAN := Lib.hid han
      clear hb59 hX9 hR9 hK9 hvl hvr hu hx8 hb9 HRD HB8 hwa hNA hsz9 halA hkA hXA hKA hTA hBA han HTB HX5 HR5 HK5 HB5
      go_wp2_with fail
      rw [← HWA.out]
      clear hxA hx9 q9 f9 hcast
      refine (HAN.out).mono ?_
      rintro e wb ⟨QA, UB, dA, dB, rfl, hQA, -, -, hbb⟩
      have hpl : (lineC i).parts.length = 1 := rfl
      have htl : (lineC i).trace.length = 0 := rfl
      have hvd : (((lineC i).verdict : Nat) : Int) = 1 := rfl
      have hds : (((lineC i).dest : Nat) : Int) = 0 := rfl
      rw [hpl, htl, hvd, hds]
      obtain ⟨pb, po, PR, pc, hQe, hpb, hp0, hp1, hp2, hpr, -⟩ := hQA.at_ (show 0 < (lineC i).parts.length by rw [hpl]; omega)
      have hprl : (lineC i).parts[0].ranks.length = i := by simp [lineC]
      rw [hprl] at hp2
      have hpr' : Lies wb PR (nums ((List.range i).map fun j => i - 1 - j)) := hpr
      rw [Nat.zero_mul, Nat.add_zero] at hp2
      obtain ⟨wd, hwd⟩ : ∃ wd, wd = wb.alloc (.cells #[.int .i64 1, .slice QA 1 dA, .int .u32 0, .slice UB 0 dB] 31) := ⟨_, rfl⟩
      have bd : Below wb.heap.size wb wd := by rw [hwd]; exact bal _ _
      have hDd : VRow wd wb.heap.size [.int .i64 1, .slice QA 1 dA, .int .u32 0, .slice UB 0 dB] := by rw [hwd]; exact VRow.new wb #[.int .i64 1, .slice QA 1 dA, .int .u32 0, .slice UB 0 dB] _
      have bad := hbb.trans (bd.mono hbb.size)
      have hpd := (bd.cell (p := ⟨pb, po + 2, none⟩) hpb).trans hp2
      obtain ⟨d0, -⟩ := hDd.get (i := 0) rfl
      obtain ⟨d1, -⟩ := hDd.get (i := 1) rfl
      have d0' := d0
      have d1' := d1
      have hpd' := hpd
      rw [hwd] at d0' d1' hpd'
      have HWD := Lib.hid hwd
      have HDD := Lib.hid hDd
      have HPR := Lib.hid (hpr'.below bd)
      have HQD := Lib.hid (hQA.below bd)
      have HXD := Lib.hid (HXA.out.below bad HXA.out.lt)
      have HKD := Lib.hid (HKA.out.below bad HKA.out.lt)
      have HTD := Lib.hid (HTA.out.below bad)
      have HND := Lib.hid (HNA.out.below bad)
      have HBD := Lib.hid (HBA.out.trans (bad.mono HBA.out.size))
      have hpbd : pb < wd.heap.size := Nat.lt_of_lt_of_le hpb bd.size
      have HPD := Lib.hid hpd
      clear hpl htl hvd hds hprl hpr hpr' hp0 hp1 hp2 hwd bd hDd bad hpd d0 d1 hQA hbb hpb HAN HWA HXA HKA HTA HNA HBA
      subst hQe
      go_wp2_with fail
      rw [← HWD.out]
      clear d0' d1' hpd'
      go_loopw [17] (fun s17 wr => ∃ j : Nat, j ≤ i ∧ s17 = .int .i64 j ∧ Hid (wr = wd)) (fun s17 _ => i - (intOf s17).toNat)
      case atStart => exact ⟨0, by omega, rfl, Lib.hid rfl⟩
      case round =>
        obtain ⟨j, hj, rfl, HE⟩ := hrel
        obtain rfl := HE.out
        by_cases hlj : j < i
        · obtain ⟨tb, tof, hTe, htb, htc⟩ := Lies.at_map HTD.out (show j < (ringC i).trace.length by simp [ringC]; exact hlj)
          have htj : (ringC i).trace[j]'(by simp [ringC]; exact hlj) = j := by simp [ringC]
          rw [htj] at htc
          obtain ⟨rb, ro, hRe, hrb, hrc⟩ := Lies.at_map HPR.out (show j < ((List.range i).map fun j => i - 1 - j).length by simpa using hlj)
          have hrj : ((List.range i).map fun j => i - 1 - j)[j]'(by simpa using hlj) = i - 1 - j := by simp
          rw [hrj] at hrc
          rw [show ((i - 1 - j : Nat) : Int) = (i : Int) - 1 - (j : Int) by omega] at hrc
          obtain ⟨c3, -⟩ := HKD.out.get (i := 3) rfl
          obtain ⟨d1, -⟩ := HDD.out.get (i := 1) rfl
          have hpd := HPD.out
          have j0 : (0 : Int) ≤ (j : Int) := by omega
          have j1 : (j : Int) < (i : Int) := by omega
          clear htj hrj
          subst hTe hRe
          go_wp2_with fail
          refine ⟨⟨j + 1, by omega, by go_num, Lib.hid trivial⟩, by simp [intOf]; omega⟩
        · have hcv : CertAt wr (.agg #[.int .i64 1, .slice (some ⟨pb, po, none⟩) 1 dA, .int .u32 0, .slice UB 0 dB]) (lineC i) := ⟨_, _, _, _, rfl, HQD.out, Lies.nil _ _⟩
          have hcv2 := fun W (hW : Below wr.heap.size wr W) => (show CertAt W (.agg #[.int .i64 2, .slice PA 0 cA, .int .u32 0, .slice TB i cB]) (ringC i) from ⟨PA, TB, cA, cB, by simp [ringC], ⟨[], rfl, Lies.nil _ _, fun i hi => absurd hi (by simp [ringC])⟩, HTD.out.below hW⟩)
          have k1 := cnet_any (some ⟨w1.heap.size, 0, none⟩) i i (lineNet i) [0] _ (lineC i) wr (line_cutsOf hn0 hn1) HND.out (line_ok hn0 hn1) hcv (by simp) (by simp) (line_certOk hn0 hn1) hn1
          have k2 := fun W (hW : Below wr.heap.size wr W) => cnet_any (some ⟨w1.heap.size, 0, none⟩) i i (lineNet i) [0] _ (ringC i) W (line_cutsOf hn0 hn1) (HND.out.below hW) (line_ok hn0 hn1) (hcv2 W hW) (by simp) (by simp) (ring_certOk hn0 hn1) hn1
          rw [line_ans hn0 hn1, line_len] at k1
          rw [line_ring_ans hn0 hn1, line_len] at k2
          have hr2 := fun W (hW : Below wr.heap.size wr W) => HKD.out.below hW HKD.out.lt
          have hx2 := fun W (hW : Below wr.heap.size wr W) => HXD.out.below hW HXD.out.lt
          obtain ⟨x0, -⟩ := HXD.out.get (i := 0) rfl
          obtain ⟨d0, -⟩ := HDD.out.get (i := 0) rfl
          obtain ⟨d1, -⟩ := HDD.out.get (i := 1) rfl
          obtain ⟨d2, -⟩ := HDD.out.get (i := 2) rfl
          obtain ⟨d3, -⟩ := HDD.out.get (i := 3) rfl
          have K1 := Lib.hid k1
          have K2 := Lib.hid k2
          have R2 := Lib.hid hr2
          have X2 := Lib.hid hx2
          clear hcv hcv2 k1 k2 hr2 hx2
          go_wp2_with fail
          refine (K1.out).mono ?_
          rintro e we ⟨rfl, hbe⟩
          obtain ⟨x0', -⟩ := (X2.out we hbe).get (i := 0) rfl
          obtain ⟨r0, -⟩ := (R2.out we hbe).get (i := 0) rfl
          obtain ⟨r1, -⟩ := (R2.out we hbe).get (i := 1) rfl
          obtain ⟨r2, -⟩ := (R2.out we hbe).get (i := 2) rfl
          obtain ⟨r3, -⟩ := (R2.out we hbe).get (i := 3) rfl
          have HBE := Lib.hid hbe
          clear hbe x0 d0 d1 d2 d3
          go_wp2_with fail
          refine (K2.out we HBE.out).mono ?_
          rintro e wf ⟨rfl, hbf⟩
          have HBF := Lib.hid (HBD.out.trans ((HBE.out.trans (hbf.mono HBE.out.size)).mono HBD.out.size))
          clear hbf r0 r1 r2 r3 x0'
          go_wp2_with fail
          go_ret
          exact ⟨rfl, HBF.out⟩
theorem topring_row (a0 a1 : Int) (h0 : (Lit.int .u8 a0).wf = true) (h1 : (Lit.int .u32 a1).wf = true) (w : World) :
    Calls Tryz.prog 4 #[.int .u8 a0, .int .u32 a1] w fun e w' => e = .returned (.bool true) ∧ Below w.heap.size w w' := by
  obtain ⟨k, hk, rfl⟩ := wf_byte h0
  obtain ⟨b, hb, rfl⟩ := wf_u32 h1
  exact topring_any k b hk hb w
end Go.Proofs.YtpjoefekhgmlhaaGreat.Tp
