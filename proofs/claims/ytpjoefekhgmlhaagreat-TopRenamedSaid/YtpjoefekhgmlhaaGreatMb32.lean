/- CONTRACT of check.Net, of certificates that may be for some number of nodes. · CONTRACT of theseustop.round: does an address go round. Conditions: the network may be. -/
import Derived.Test.YtpjoefekhgmlhaaGreatMb31
import Derived.Test.YtpjoefekhgmlhaaGreatMb24
import Derived.Test.YtpjoefekhgmlhaaGreatMb14
import Derived.Test.YtpjoefekhgmlhaaGreatMb27
namespace Go.Proofs.YtpjoefekhgmlhaaGreat.Tp
open Go.RowKit Mem

/-- What check.Net answers: the verdict and the code. -/
def ansN (net : List (List RuleT)) (l : List Nat) (n0 : Nat) (c : CertT) : Nat × Int :=
  if cmayE n0 net.length c = 0 then
    if c.verdict = 1 then (if partsB net l c.parts then (1, 0) else (0, 16))
    else (if traceB net c.dest c.trace then (2, 0) else (0, 17))
  else (0, cmayE n0 net.length c)
abbrev ansV (a : Nat × Int) : Value := .agg #[.int .i64 (a.1 : Int), .int .i64 a.2]
theorem loopsE_zero {nodes : Nat} {l : List Nat} (h : loopsE nodes l = 0) : ¬ nodes < l.length ∧ outB nodes l = false := by
  unfold loopsE at h
  by_cases h1 : nodes < l.length
  · rw [if_pos h1] at h; cases h
  · rw [if_neg h1] at h
    cases ho : outB nodes l with
    | true => rw [ho] at h; cases h
    | false => exact ⟨h1, rfl⟩
theorem outB_false {n : Nat} {l : List Nat} (h : outB n l = false) : ∀ x ∈ l, x < n := by
  intro x hx
  unfold outB at h
  rw [List.any_eq_false] at h
  have := h x hx
  simp at this
  omega
def NetPost (w : World) (a : Nat × Int) (e : Ending) (w' : World) : Prop := e = .returned (ansV a) ∧ Below w.heap.size w w'
theorem VRow.set2 {w : World} {g : Nat} {x y : Value} (h : VRow w g [x, y]) (a b : Value) : VRow ((w.setCell ⟨g, 0, none⟩ a).setCell ⟨g, 0 + 1, none⟩ b) g [a, b] := (h.set_ 0 a).set_ 1 b
theorem below2 {B : Nat} {w w' : World} (h : Below B w w') {g : Nat} (hg : B ≤ g) (a b : Value) : Below B w ((w'.setCell ⟨g, 0, none⟩ a).setCell ⟨g, 0 + 1, none⟩ b) := (h.setCell (p := ⟨g, 0, none⟩) hg a).setCell (p := ⟨g, 0 + 1, none⟩) hg b
set_option maxRecDepth 100000 in
set_option maxHeartbeats 2000000 in
theorem cnet_any (N : Option Addr) (cN n0 : Nat) (net : List (List RuleT)) (l : List Nat) (v : Value) (c : CertT) (w : World) (hc : CutsOf net l) (hN : NetAt w N net) (h : NetOk net) (hv : CertAt w v c) (hl : l.length ≤ 900000) (hb : ∀ a ∈ l, a < 4294967296) (hok : CertOk n0 c) (hn0 : n0 ≤ 256) :
    Calls Tryz.prog 9 #[.agg #[.slice N net.length cN], v] w (NetPost w (ansN net l n0 c)) := by
  have hcm := fun W (hW : Below w.heap.size w W) => cmay_any v n0 net.length c W (hv.below hW) hok hn0
  obtain ⟨A, B, cA, cB, rfl, hA, hB⟩ := hv
  obtain ⟨wa, hwa⟩ : ∃ wa, wa = w.alloc (.cells #[.slice N net.length cN] 24) := ⟨_, rfl⟩
  obtain ⟨wb, hwb⟩ : ∃ wb, wb = wa.alloc (.cells #[.int .i64 (c.verdict : Int), .slice A c.parts.length cA, .int .u32 (c.dest : Int), .slice B c.trace.length cB] 31) := ⟨_, rfl⟩
  obtain ⟨w1, hw1⟩ : ∃ w1, w1 = wb.alloc (.cells #[.int .i64 0, .int .i64 0] 36) := ⟨_, rfl⟩
  have sa : wa.heap.size = w.heap.size + 1 := by rw [hwa]; simp
  have sb : wb.heap.size = w.heap.size + 1 + 1 := by rw [hwb]; simp [sa]
  have s1 : w1.heap.size = w.heap.size + 1 + 1 + 1 := by rw [hw1]; simp [sb]
  have ba : Below w.heap.size w wa := by rw [hwa]; exact (Below.refl _ _).alloc (Nat.le_refl _) _
  have bb : Below wa.heap.size wa wb := by rw [hwb]; exact (Below.refl _ _).alloc (Nat.le_refl _) _
  have bc : Below wb.heap.size wb w1 := by rw [hw1]; exact (Below.refl _ _).alloc (Nat.le_refl _) _
  have bac : Below wa.heap.size wa w1 := bb.trans (bc.mono bb.size)
  have hb1 : Below w.heap.size w w1 := ba.trans (bac.mono ba.size)
  have hxn0 : wa.cell? ⟨w.heap.size, 0, none⟩ = some (.slice N net.length cN) := by rw [hwa, cell_of_row _ _ 0 _ _ (0, 0) (heap_alloc_new w _)]; rfl
  have hxn := (bac.cell (p := ⟨w.heap.size, 0, none⟩) (by rw [sa]; exact Nat.lt_succ_self _)).trans hxn0
  have hy : ∀ i u, #[.int .i64 (c.verdict : Int), .slice A c.parts.length cA, .int .u32 (c.dest : Int), .slice B c.trace.length cB][i]? = some u → wb.cell? ⟨w.heap.size + 1, i, none⟩ = some u := fun i u hu => by
    rw [hwb, ← sa, cell_of_row _ _ i _ _ (0, 0) (heap_alloc_new wa _)]; exact hu
  have hz : ∀ i u, #[.int .i64 (c.verdict : Int), .slice A c.parts.length cA, .int .u32 (c.dest : Int), .slice B c.trace.length cB][i]? = some u → w1.cell? ⟨w.heap.size + 1, i, none⟩ = some u := fun i u hu =>
    (bc.cell (p := ⟨w.heap.size + 1, i, none⟩) (by rw [sb]; exact Nat.lt_succ_self _)).trans (hy i u hu)
  have hx0 : w1.cell? ⟨w.heap.size + 1, 0, none⟩ = some (.int .i64 (c.verdict : Int)) := hz 0 _ rfl
  have hx1 : w1.cell? ⟨w.heap.size + 1, 1, none⟩ = some (.slice A c.parts.length cA) := hz 1 _ rfl
  have hx2 : w1.cell? ⟨w.heap.size + 1, 2, none⟩ = some (.int .u32 (c.dest : Int)) := hz 2 _ rfl
  have hx3 : w1.cell? ⟨w.heap.size + 1, 3, none⟩ = some (.slice B c.trace.length cB) := hz 3 _ rfl
  have hxr : VRow w1 (w.heap.size + 1 + 1) [.int .i64 0, .int .i64 0] := by
    rw [hw1, ← sb]; exact VRow.new wb #[.int .i64 0, .int .i64 0] 36
  have hnm := nmay_any N cN net w1 (hN.below hb1) h
  have hcm1 := fun W (hW : Below w1.heap.size w1 W) => hcm W (hb1.trans (hW.mono hb1.size))
  have hNW := fun W (hW : Below w1.heap.size w1 W) => hN.below (hb1.trans (hW.mono hb1.size))
  have hAW := fun W (hW : Below w1.heap.size w1 W) => hA.below (hb1.trans (hW.mono hb1.size))
  have hBW := fun W (hW : Below w1.heap.size w1 W) => hB.below (hb1.trans (hW.mono hb1.size))
  rw [hwb, hwa] at hw1
  clear hxn0 hy hz hcm ba bb bc bac hN hA hB hwb hwa sa sb
  have HW1 := Lib.hid hw1
  have HB1 := Lib.hid hb1
  have HX := Lib.hid hxr
  have HNM := Lib.hid hnm
  have HCM := Lib.hid hcm1
  have HXN := Lib.hid hxn
  have HX0 := Lib.hid hx0
  have HX1 := Lib.hid hx1
  have HX2 := Lib.hid hx2
  have HX3 := Lib.hid hx3
  have HNW := Lib.hid hNW
  have HAW := Lib.hid hAW
  have HBW := Lib.hid hBW
  have g0 : w.heap.size < w1.heap.size := by rw [s1]; omega
  have g1 : w.heap.size + 1 < w1.heap.size := by rw [s1]; omega
  have g2 : w.heap.size + 1 + 1 < w1.heap.size := by rw [s1]; omega
  have ha : ∀ code, cmayE n0 net.length c = code → code ≠ 0 → ansN net l n0 c = (0, code) := fun code e h0 => by unfold ansN; rw [e, if_neg h0]
  by_cases h0 : cmayE n0 net.length c = 0
  · rw [h0] at HCM
    rcases hok with ⟨e1, hps, -, -⟩ | ⟨e1, hps, hd, htr, hln, hlt⟩
    · have en : n0 = net.length := by
        unfold cmayE at h0
        rw [if_pos e1] at h0
        by_cases en : n0 = net.length
        · exact en
        · rw [if_neg en] at h0; cases h0
      subst en
      have hpt := fun W (hW : Below w1.heap.size w1 W) => parts_any N A cN cA net l c.parts W hc (hNW W hW) h (hAW W hW) hl hb hps
      have hans : ansN net l net.length c = if partsB net l c.parts then (1, 0) else (0, 16) := by unfold ansN; rw [if_pos h0, if_pos e1]
      rw [hans]
      obtain ⟨pb, hpb⟩ : ∃ pb, pb = partsB net l c.parts := ⟨_, rfl⟩
      rw [← hpb] at hpt ⊢
      have HPT := Lib.hid hpt
      have tv1 : ((c.verdict : Int) == 1) = true := by rw [e1]; rfl
      have tv2 : ((c.verdict : Int) == 2) = false := by rw [e1]; rfl
      have E1 := Lib.hid e1
      clear hpt hpb hans hps
      clear e1 ha hcm1 hnm hw1 hxr h0 h hc hn0 hNW hAW hBW hb hl hx0 hx1 hx2 hx3 hxn hb1
      cases pb with
      | true => 
        go_enter Tryz.func9, Tryz.ntmps9
        go_wp2_with fail
        rw [← HW1.out]
        refine (HNM.out).mono ?_
        rintro e w2 ⟨rfl, hb2⟩
        have hx0 := (hb2.cell (p := ⟨w.heap.size + 1, 0, none⟩) g1).trans HX0.out
        have hxn := (hb2.cell (p := ⟨w.heap.size, 0, none⟩) g0).trans HXN.out
        have hx1 := (hb2.cell (p := ⟨w.heap.size + 1, 1, none⟩) g1).trans HX1.out
        have hx2 := (hb2.cell (p := ⟨w.heap.size + 1, 2, none⟩) g1).trans HX2.out
        have hx3 := (hb2.cell (p := ⟨w.heap.size + 1, 3, none⟩) g1).trans HX3.out
        have HB2 := Lib.hid hb2
        clear hb2
        go_wp2_with fail
        refine (HCM.out _ HB2.out).mono ?_
        rintro e w3 ⟨rfl, hb3⟩
        have hb3 := HB2.out.trans (hb3.mono HB2.out.size)
        clear hx0 hx1 hx2 hx3 hxn
        have hx0 := (hb3.cell (p := ⟨w.heap.size + 1, 0, none⟩) g1).trans HX0.out
        have hxn := (hb3.cell (p := ⟨w.heap.size, 0, none⟩) g0).trans HXN.out
        have hx1 := (hb3.cell (p := ⟨w.heap.size + 1, 1, none⟩) g1).trans HX1.out
        have hx2 := (hb3.cell (p := ⟨w.heap.size + 1, 2, none⟩) g1).trans HX2.out
        have hx3 := (hb3.cell (p := ⟨w.heap.size + 1, 3, none⟩) g1).trans HX3.out
        have HB3 := Lib.hid hb3
        clear hb3 HB2
        go_wp2_with fail
        refine (HPT.out _ HB3.out).mono ?_
        rintro e w4 ⟨rfl, hb4⟩
        simp only [if_true]
        have hb4 := HB3.out.trans (hb4.mono HB3.out.size)
        clear hx0 hx1 hx2 hx3 hxn
        have hx0 := (hb4.cell (p := ⟨w.heap.size + 1, 0, none⟩) g1).trans HX0.out
        have hr := HX.out.below hb4 g2
        have hf0 := hr.free 0 (by simp)
        have hf1 := hr.free 1 (by simp)
        have hq0 := hr.cell 0 (by simp)
        have hq1 := hr.cell 1 (by simp)
        simp only [List.getElem_cons_zero, List.getElem_cons_succ] at hq0 hq1
        have hs := hr.set2 (.int .i64 (c.verdict : Int)) (.int .i64 0)
        have hbs := below2 (HB1.out.trans (hb4.mono HB1.out.size)) (show w.heap.size ≤ w.heap.size + 1 + 1 by omega) (.int .i64 (c.verdict : Int)) (.int .i64 0)
        have HS := Lib.hid hs
        have HBS := Lib.hid hbs
        clear hr hs hbs
        go_wp2_with fail
        have hz0 := HS.out.cell 0 (by simp)
        have hz1 := HS.out.cell 1 (by simp)
        simp only [List.getElem_cons_zero, List.getElem_cons_succ] at hz0 hz1
        refine bodyPost_ret (v := .agg #[.int .i64 (c.verdict : Int), .int .i64 0]) (by simp [results, Tryz.results9, go_sem, hz0, hz1]) rfl ⟨by rw [E1.out], HBS.out⟩
      | false => 
        go_enter Tryz.func9, Tryz.ntmps9
        go_wp2_with fail
        rw [← HW1.out]
        refine (HNM.out).mono ?_
        rintro e w2 ⟨rfl, hb2⟩
        have hx0 := (hb2.cell (p := ⟨w.heap.size + 1, 0, none⟩) g1).trans HX0.out
        have hxn := (hb2.cell (p := ⟨w.heap.size, 0, none⟩) g0).trans HXN.out
        have hx1 := (hb2.cell (p := ⟨w.heap.size + 1, 1, none⟩) g1).trans HX1.out
        have hx2 := (hb2.cell (p := ⟨w.heap.size + 1, 2, none⟩) g1).trans HX2.out
        have hx3 := (hb2.cell (p := ⟨w.heap.size + 1, 3, none⟩) g1).trans HX3.out
        have HB2 := Lib.hid hb2
        clear hb2
        go_wp2_with fail
        refine (HCM.out _ HB2.out).mono ?_
        rintro e w3 ⟨rfl, hb3⟩
        have hb3 := HB2.out.trans (hb3.mono HB2.out.size)
        clear hx0 hx1 hx2 hx3 hxn
        have hx0 := (hb3.cell (p := ⟨w.heap.size + 1, 0, none⟩) g1).trans HX0.out
        have hxn := (hb3.cell (p := ⟨w.heap.size, 0, none⟩) g0).trans HXN.out
        have hx1 := (hb3.cell (p := ⟨w.heap.size + 1, 1, none⟩) g1).trans HX1.out
        have hx2 := (hb3.cell (p := ⟨w.heap.size + 1, 2, none⟩) g1).trans HX2.out
        have hx3 := (hb3.cell (p := ⟨w.heap.size + 1, 3, none⟩) g1).trans HX3.out
        have HB3 := Lib.hid hb3
        clear hb3 HB2
        go_wp2_with fail
        refine (HPT.out _ HB3.out).mono ?_
        rintro e w4 ⟨rfl, hb4⟩
        simp only [Bool.false_eq_true, if_false]
        have hb4 := HB3.out.trans (hb4.mono HB3.out.size)
        clear hx0 hx1 hx2 hx3 hxn
        have hx0 := (hb4.cell (p := ⟨w.heap.size + 1, 0, none⟩) g1).trans HX0.out
        have hr := HX.out.below hb4 g2
        have hf0 := hr.free 0 (by simp)
        have hf1 := hr.free 1 (by simp)
        have hq0 := hr.cell 0 (by simp)
        have hq1 := hr.cell 1 (by simp)
        simp only [List.getElem_cons_zero, List.getElem_cons_succ] at hq0 hq1
        have hs := hr.set2 (.int .i64 0) (.int .i64 16)
        have hbs := below2 (HB1.out.trans (hb4.mono HB1.out.size)) (show w.heap.size ≤ w.heap.size + 1 + 1 by omega) (.int .i64 0) (.int .i64 16)
        have HS := Lib.hid hs
        have HBS := Lib.hid hbs
        clear hr hs hbs
        go_wp2_with fail
        have hz0 := HS.out.cell 0 (by simp)
        have hz1 := HS.out.cell 1 (by simp)
        simp only [List.getElem_cons_zero, List.getElem_cons_succ] at hz0 hz1
        refine bodyPost_ret (v := .agg #[.int .i64 0, .int .i64 16]) (by simp [results, Tryz.results9, go_sem, hz0, hz1]) rfl ⟨rfl, HBS.out⟩
    · have hz := loopsE_zero (nodes := net.length) (l := c.trace) (by unfold cmayE at h0; rwa [if_neg (by omega)] at h0)
      have htc := fun W (hW : Below w1.heap.size w1 W) => trace_any N B cN cB net c.dest c.trace W (hNW W hW) h (hBW W hW) htr.some_ htr.few (outB_false hz.2) hd
      have hans : ansN net l n0 c = if traceB net c.dest c.trace then (2, 0) else (0, 17) := by unfold ansN; rw [if_pos h0, if_neg (by omega)]
      rw [hans]
      obtain ⟨pb, hpb⟩ : ∃ pb, pb = traceB net c.dest c.trace := ⟨_, rfl⟩
      rw [← hpb] at htc ⊢
      have HPT := Lib.hid htc
      have tv1 : ((c.verdict : Int) == 1) = false := by rw [e1]; rfl
      have tv2 : ((c.verdict : Int) == 2) = true := by rw [e1]; rfl
      have E1 := Lib.hid e1
      clear htc hpb hans hps hd htr hln hlt hz
      clear e1 ha hcm1 hnm hw1 hxr h0 h hc hn0 hNW hAW hBW hb hl hx0 hx1 hx2 hx3 hxn hb1
      cases pb with
      | true => 
        go_enter Tryz.func9, Tryz.ntmps9
        go_wp2_with fail
        rw [← HW1.out]
        refine (HNM.out).mono ?_
        rintro e w2 ⟨rfl, hb2⟩
        have hx0 := (hb2.cell (p := ⟨w.heap.size + 1, 0, none⟩) g1).trans HX0.out
        have hxn := (hb2.cell (p := ⟨w.heap.size, 0, none⟩) g0).trans HXN.out
        have hx1 := (hb2.cell (p := ⟨w.heap.size + 1, 1, none⟩) g1).trans HX1.out
        have hx2 := (hb2.cell (p := ⟨w.heap.size + 1, 2, none⟩) g1).trans HX2.out
        have hx3 := (hb2.cell (p := ⟨w.heap.size + 1, 3, none⟩) g1).trans HX3.out
        have HB2 := Lib.hid hb2
        clear hb2
        go_wp2_with fail
        refine (HCM.out _ HB2.out).mono ?_
        rintro e w3 ⟨rfl, hb3⟩
        have hb3 := HB2.out.trans (hb3.mono HB2.out.size)
        clear hx0 hx1 hx2 hx3 hxn
        have hx0 := (hb3.cell (p := ⟨w.heap.size + 1, 0, none⟩) g1).trans HX0.out
        have hxn := (hb3.cell (p := ⟨w.heap.size, 0, none⟩) g0).trans HXN.out
        have hx1 := (hb3.cell (p := ⟨w.heap.size + 1, 1, none⟩) g1).trans HX1.out
        have hx2 := (hb3.cell (p := ⟨w.heap.size + 1, 2, none⟩) g1).trans HX2.out
        have hx3 := (hb3.cell (p := ⟨w.heap.size + 1, 3, none⟩) g1).trans HX3.out
        have HB3 := Lib.hid hb3
        clear hb3 HB2
        go_wp2_with fail
        refine (HPT.out _ HB3.out).mono ?_
        rintro e w4 ⟨rfl, hb4⟩
        simp only [if_true]
        have hb4 := HB3.out.trans (hb4.mono HB3.out.size)
        clear hx0 hx1 hx2 hx3 hxn
        have hx0 := (hb4.cell (p := ⟨w.heap.size + 1, 0, none⟩) g1).trans HX0.out
        have hr := HX.out.below hb4 g2
        have hf0 := hr.free 0 (by simp)
        have hf1 := hr.free 1 (by simp)
        have hq0 := hr.cell 0 (by simp)
        have hq1 := hr.cell 1 (by simp)
        simp only [List.getElem_cons_zero, List.getElem_cons_succ] at hq0 hq1
        have hs := hr.set2 (.int .i64 (c.verdict : Int)) (.int .i64 0)
        have hbs := below2 (HB1.out.trans (hb4.mono HB1.out.size)) (show w.heap.size ≤ w.heap.size + 1 + 1 by omega) (.int .i64 (c.verdict : Int)) (.int .i64 0)
        have HS := Lib.hid hs
        have HBS := Lib.hid hbs
        clear hr hs hbs
        go_wp2_with fail
        have hz0 := HS.out.cell 0 (by simp)
        have hz1 := HS.out.cell 1 (by simp)
        simp only [List.getElem_cons_zero, List.getElem_cons_succ] at hz0 hz1
        refine bodyPost_ret (v := .agg #[.int .i64 (c.verdict : Int), .int .i64 0]) (by simp [results, Tryz.results9, go_sem, hz0, hz1]) rfl ⟨by rw [E1.out], HBS.out⟩
      | false => 
        go_enter Tryz.func9, Tryz.ntmps9
        go_wp2_with fail
        rw [← HW1.out]
        refine (HNM.out).mono ?_
        rintro e w2 ⟨rfl, hb2⟩
        have hx0 := (hb2.cell (p := ⟨w.heap.size + 1, 0, none⟩) g1).trans HX0.out
        have hxn := (hb2.cell (p := ⟨w.heap.size, 0, none⟩) g0).trans HXN.out
        have hx1 := (hb2.cell (p := ⟨w.heap.size + 1, 1, none⟩) g1).trans HX1.out
        have hx2 := (hb2.cell (p := ⟨w.heap.size + 1, 2, none⟩) g1).trans HX2.out
        have hx3 := (hb2.cell (p := ⟨w.heap.size + 1, 3, none⟩) g1).trans HX3.out
        have HB2 := Lib.hid hb2
        clear hb2
        go_wp2_with fail
        refine (HCM.out _ HB2.out).mono ?_
        rintro e w3 ⟨rfl, hb3⟩
        have hb3 := HB2.out.trans (hb3.mono HB2.out.size)
        clear hx0 hx1 hx2 hx3 hxn
        have hx0 := (hb3.cell (p := ⟨w.heap.size + 1, 0, none⟩) g1).trans HX0.out
        have hxn := (hb3.cell (p := ⟨w.heap.size, 0, none⟩) g0).trans HXN.out
        have hx1 := (hb3.cell (p := ⟨w.heap.size + 1, 1, none⟩) g1).trans HX1.out
        have hx2 := (hb3.cell (p := ⟨w.heap.size + 1, 2, none⟩) g1).trans HX2.out
        have hx3 := (hb3.cell (p := ⟨w.heap.size + 1, 3, none⟩) g1).trans HX3.out
        have HB3 := Lib.hid hb3
        clear hb3 HB2
        go_wp2_with fail
        refine (HPT.out _ HB3.out).mono ?_
        rintro e w4 ⟨rfl, hb4⟩
        simp only [Bool.false_eq_true, if_false]
        have hb4 := HB3.out.trans (hb4.mono HB3.out.size)
        clear hx0 hx1 hx2 hx3 hxn
        have hx0 := (hb4.cell (p := ⟨w.heap.size + 1, 0, none⟩) g1).trans HX0.out
        have hr := HX.out.below hb4 g2
        have hf0 := hr.free 0 (by simp)
        have hf1 := hr.free 1 (by simp)
        have hq0 := hr.cell 0 (by simp)
        have hq1 := hr.cell 1 (by simp)
        simp only [List.getElem_cons_zero, List.getElem_cons_succ] at hq0 hq1
        have hs := hr.set2 (.int .i64 0) (.int .i64 17)
        have hbs := below2 (HB1.out.trans (hb4.mono HB1.out.size)) (show w.heap.size ≤ w.heap.size + 1 + 1 by omega) (.int .i64 0) (.int .i64 17)
        have HS := Lib.hid hs
        have HBS := Lib.hid hbs
        clear hr hs hbs
        go_wp2_with fail
        have hz0 := HS.out.cell 0 (by simp)
        have hz1 := HS.out.cell 1 (by simp)
        simp only [List.getElem_cons_zero, List.getElem_cons_succ] at hz0 hz1
        refine bodyPost_ret (v := .agg #[.int .i64 0, .int .i64 17]) (by simp [results, Tryz.results9, go_sem, hz0, hz1]) rfl ⟨rfl, HBS.out⟩
  · obtain ⟨code, hcode⟩ : ∃ code, code = cmayE n0 net.length c := ⟨_, rfl⟩
    have hans := ha code hcode.symm (by rw [hcode]; exact h0)
    rw [← hcode] at HCM h0
    have t0 : (code == 0) = false := by rw [beq_eq_false_iff_ne]; exact h0
    have t1 : (code != 0) = true := by simp [bne, t0]
    rw [hans]
    clear hcode hans
    clear ha hcm1 hnm hw1 hxr h0 h hok hc hn0 hNW hAW hBW hb hl hx0 hx1 hx2 hx3 hxn hb1
    go_enter Tryz.func9, Tryz.ntmps9
    go_wp2_with fail
    rw [← HW1.out]
    refine (HNM.out).mono ?_
    rintro e w2 ⟨rfl, hb2⟩
    have hx0 := (hb2.cell (p := ⟨w.heap.size + 1, 0, none⟩) g1).trans HX0.out
    have hxn := (hb2.cell (p := ⟨w.heap.size, 0, none⟩) g0).trans HXN.out
    have hx1 := (hb2.cell (p := ⟨w.heap.size + 1, 1, none⟩) g1).trans HX1.out
    have hx2 := (hb2.cell (p := ⟨w.heap.size + 1, 2, none⟩) g1).trans HX2.out
    have hx3 := (hb2.cell (p := ⟨w.heap.size + 1, 3, none⟩) g1).trans HX3.out
    have HB2 := Lib.hid hb2
    clear hb2
    go_wp2_with fail
    refine (HCM.out _ HB2.out).mono ?_
    rintro e w3 ⟨rfl, hb3⟩
    have hb3 := HB2.out.trans (hb3.mono HB2.out.size)
    clear hx0 hx1 hx2 hx3 hxn
    have hx0 := (hb3.cell (p := ⟨w.heap.size + 1, 0, none⟩) g1).trans HX0.out
    have hxn := (hb3.cell (p := ⟨w.heap.size, 0, none⟩) g0).trans HXN.out
    have hx1 := (hb3.cell (p := ⟨w.heap.size + 1, 1, none⟩) g1).trans HX1.out
    have hx2 := (hb3.cell (p := ⟨w.heap.size + 1, 2, none⟩) g1).trans HX2.out
    have hx3 := (hb3.cell (p := ⟨w.heap.size + 1, 3, none⟩) g1).trans HX3.out
    have hr := HX.out.below hb3 g2
    have hf0 := hr.free 0 (by simp)
    have hf1 := hr.free 1 (by simp)
    have hq0 := hr.cell 0 (by simp)
    have hq1 := hr.cell 1 (by simp)
    simp only [List.getElem_cons_zero, List.getElem_cons_succ] at hq0 hq1
    have hs := hr.set2 (.int .i64 0) (.int .i64 code)
    have hbs := below2 (HB1.out.trans (hb3.mono HB1.out.size)) (show w.heap.size ≤ w.heap.size + 1 + 1 by omega) (.int .i64 0) (.int .i64 code)
    have HS := Lib.hid hs
    have HBS := Lib.hid hbs
    clear hr hs hbs
    clear hb3 hx1 hx2 hx3 hxn
    go_wp2_with fail
    have hz0 := HS.out.cell 0 (by simp)
    have hz1 := HS.out.cell 1 (by simp)
    simp only [List.getElem_cons_zero, List.getElem_cons_succ] at hz0 hz1
    refine bodyPost_ret (v := .agg #[.int .i64 0, .int .i64 code]) (by simp [results, Tryz.results9, go_sem, hz0, hz1]) rfl ⟨rfl, HBS.out⟩
end Go.Proofs.YtpjoefekhgmlhaaGreat.Tp

namespace Go.Proofs.YtpjoefekhgmlhaaGreat.Tp
open Go.RowKit Mem

/-- Does an address go round, from any node. -/
def roundB (net : List (List RuleT)) (a : Nat) : Bool := (List.range net.length).any (Gr.cycB (vecL net a))
theorem nxt_step {net : List (List RuleT)} {a u : Nat} (hu : u < net.length) : Gr.nxt (vecL net a) u = stepN net a u := by
  unfold Gr.nxt stepN
  have h1 : (vecL net a)[u]? = some (goesI net[u] a) := by simp [vecL, hu]
  rw [h1, List.getElem?_eq_getElem hu]
  simp only
  unfold goesI
  cases nextL net[u] a with
  | none => simp
  | some x => simp
theorem step_in {net : List (List RuleT)} (h : NetOk net) {a u y : Nat} (hs : stepN net a u = some y) : y < net.length := by
  unfold stepN at hs
  cases e : net[u]? with
  | none => rw [e] at hs; cases hs
  | some l =>
    rw [e] at hs
    simp only at hs
    unfold nextL at hs
    cases e2 : findL l a with
    | none => rw [e2] at hs; cases hs
    | some r =>
      rw [e2] at hs
      simp only at hs
      by_cases h1 : r.act = 1
      · rw [if_pos h1] at hs
        injection hs with hs
        have := ((h.table l (List.mem_of_getElem? e)).rule r (find_mem e2)).act
        omega
      · rw [if_neg h1] at hs; cases hs
theorem iter_last {v : List Int} {k u y : Nat} (h : Gr.iter v k u = some y) : Gr.iter v (k + 1) u = Gr.nxt v y := by
  rw [Gr.iter_add k 1 u, h]
  show Gr.iter v 1 y = _
  unfold Gr.iter
  cases Gr.nxt v y <;> rfl
theorem iter_dead {v : List Int} {k u : Nat} (h : Gr.iter v (k + 1) u = none) (j : Nat) (hj : k ≤ j) : Gr.iter v (j + 1) u = none := by
  rw [show j + 1 = (k + 1) + (j - k) by omega, Gr.iter_add, h]; rfl
theorem cyc_false {v : List Int} {u : Nat} (h : ∀ k, k < v.length → Gr.iter v (k + 1) u ≠ some u) : Gr.cycB v u = false := by
  unfold Gr.cycB
  rw [List.any_eq_false]
  intro k hk
  have := h k (by simpa using hk)
  simpa using this
theorem round_true {net : List (List RuleT)} {a u k : Nat} (hu : u < net.length) (hk : k < net.length) (h : Gr.iter (vecL net a) (k + 1) u = some u) : roundB net a = true := by
  unfold roundB
  rw [List.any_eq_true]
  refine ⟨u, by simpa using hu, ?_⟩
  unfold Gr.cycB
  rw [List.any_eq_true]
  exact ⟨k, by rw [vecL_len]; simpa using hk, by rw [h]; simp⟩
theorem round_false {net : List (List RuleT)} {a : Nat} (h : ∀ u, u < net.length → Gr.cycB (vecL net a) u = false) : roundB net a = false := by
  unfold roundB
  rw [List.any_eq_false]
  intro u hu
  rw [h u (by simpa using hu)]; simp

set_option maxRecDepth 100000 in
set_option maxHeartbeats 4000000 in
theorem round_any (A : Option Addr) (c : Nat) (net : List (List RuleT)) (a : Nat) (w : World) (hN : NetAt w A net) (h : NetOk net) (ha : a < 4294967296) :
    Calls Tryz.prog 10 #[.agg #[.slice A net.length c], .int .u32 (a : Int)] w fun e w' => e = .returned (.bool (roundB net a)) ∧ Below w.heap.size w w' := by
  have hnn := h.nodes
  obtain ⟨w1, hw1⟩ : ∃ w1, w1 = w.alloc (.cells #[.slice A net.length c] 24) := ⟨_, rfl⟩
  have b1 : Below w.heap.size w w1 := by rw [hw1]; exact bal _ _
  have hr1 : VRow w1 w.heap.size [.slice A net.length c] := by rw [hw1]; exact VRow.new w #[.slice A net.length c] _
  have hst := fun W (hW : Below w.heap.size w W) (u : Nat) (hu : u < net.length) => step_any A c net a u W (hN.below hW) h hu ha
  obtain ⟨nn, hne⟩ : ∃ nn, nn = net.length := ⟨_, rfl⟩
  rw [← hne] at hst hr1 hw1 hnn ⊢
  have HST := Lib.hid hst
  have HR1 := Lib.hid hr1
  have HB1 := Lib.hid b1
  have HW1 := Lib.hid hw1
  have HIN := Lib.hid fun u y (hs : stepN net a u = some y) => step_in h hs
  have HNE := Lib.hid hne
  clear hst hr1 b1 hw1 hN h hne
  go_enter Tryz.func10, Tryz.ntmps10
  go_wp2_with fail
  rw [← HW1.out]
  go_loopw [5] (fun s5 wr => ∃ v : Nat, v ≤ nn ∧ s5 = .int .i64 v ∧ Hid (∀ u, u < v → Gr.cycB (vecL net a) u = false) ∧ Hid (Below w1.heap.size w1 wr)) (fun s5 _ => nn - (intOf s5).toNat)
  case atStart => exact ⟨0, by omega, rfl, Lib.hid (fun u hu => absurd hu (by omega)), Lib.hid (Below.refl _ _)⟩
  case round =>
    obtain ⟨v, hv, rfl, HC, HB⟩ := hrel
    have hx := ((HR1.out.below HB.out HR1.out.lt).get (i := 0) rfl).1
    by_cases hlt : v < nn
    · have HV0 : Hid (Gr.iter (vecL net a) 0 v = some v) := Lib.hid rfl
      obtain ⟨wo, rfl⟩ : ∃ wo : World, wo = wr := ⟨_, rfl⟩
      go_wp2_with fail
      go_loopw [6, 7] (fun s6 s7 wr => ∃ (k u : Nat), k ≤ nn ∧ u < nn ∧ s6 = .int .i64 u ∧ s7 = .int .i64 k ∧ Hid (Gr.iter (vecL net a) k v = some u) ∧ Hid (∀ j, j < k → Gr.iter (vecL net a) (j + 1) v ≠ some v) ∧ Hid (Below w1.heap.size w1 wr)) (fun _ s7 _ => nn - (intOf s7).toNat)
      case atStart => exact ⟨0, v, by omega, hlt, rfl, rfl, HV0, Lib.hid (fun j hj => absurd hj (by omega)), HB⟩
      case round =>
        clear HV0 HB hx
        obtain ⟨k, u, hk, hu, rfl, rfl, HI, HNO, HB⟩ := hrel
        have hx := ((HR1.out.below HB.out HR1.out.lt).get (i := 0) rfl).1
        by_cases hlk : k < nn
        · have hwB := HB1.out.trans (HB.out.mono HB1.out.size)
          have hst := HST.out _ hwB u hu
          have hil := iter_last HI.out
          rw [nxt_step (by rw [← HNE.out]; exact hu)] at hil
          cases ho : stepN net a u with
          | none =>
            rw [ho] at hst hil
            simp only [optInt, Option.getD_none, Option.isSome_none] at hst
            have hcf : Gr.cycB (vecL net a) v = false := cyc_false fun j hj => by
              by_cases ej : j < k
              · exact HNO.out j ej
              · rw [iter_dead hil j (by omega)]; simp
            have HC' : Hid (∀ u, u < v + 1 → Gr.cycB (vecL net a) u = false) := Lib.hid fun u hu => by
              by_cases eu : u = v
              · subst eu; exact hcf
              · exact HC.out u (by omega)
            have HST2 := Lib.hid hst
            clear hst hil ho hcf hwB
            go_wp2_with fail
            refine (HST2.out).mono ?_
            rintro e w5 ⟨rfl, hb5⟩
            have HB5 := Lib.hid (HB.out.trans (hb5.mono HB.out.size))
            clear hb5 hx
            go_wp2_with fail
            refine ⟨⟨v + 1, by omega, by go_num, HC', HB5⟩, by simp [intOf]; omega⟩
          | some y =>
            rw [ho] at hst hil
            simp only [optInt, Option.getD_some, Option.isSome_some] at hst
            have hyl := HIN.out u y ho
            rw [← HNE.out] at hyl
            have HST2 := Lib.hid hst
            by_cases hyv : y = v
            · have t1 : ((y : Int) == (v : Int)) = true := by simp [hyv]
              have hrt : roundB net a = true := round_true (by rw [← HNE.out]; exact hlt) (by rw [← HNE.out]; exact hlk) (by rw [hil, hyv])
              have HRT := Lib.hid hrt
              clear hst hil ho hwB hrt hyv
              go_wp2_with fail
              refine (HST2.out).mono ?_
              rintro e w5 ⟨rfl, hb5⟩
              have HB5 := Lib.hid (HB1.out.trans ((HB.out.trans (hb5.mono HB.out.size)).mono HB1.out.size))
              clear hb5 hx
              go_wp2_with fail
              go_ret
              exact ⟨by rw [HRT.out]; rfl, HB5.out⟩
            · have t1 : ((y : Int) == (v : Int)) = false := by rw [beq_eq_false_iff_ne]; omega
              have HI' : Hid (Gr.iter (vecL net a) (k + 1) v = some y) := Lib.hid hil
              have HNO' : Hid (∀ j, j < k + 1 → Gr.iter (vecL net a) (j + 1) v ≠ some v) := Lib.hid fun j hj e => by
                by_cases ej : j < k
                · exact HNO.out j ej e
                · rw [show j = k by omega, hil] at e
                  injection e with e
                  exact hyv e
              clear hst hil ho hwB hyv
              go_wp2_with fail
              refine (HST2.out).mono ?_
              rintro e w5 ⟨rfl, hb5⟩
              have HB5 := Lib.hid (HB.out.trans (hb5.mono HB.out.size))
              clear hb5 hx
              go_wp2_with fail
              refine ⟨⟨k + 1, y, by omega, hyl, rfl, by go_num, HI', HNO', HB5⟩, by simp [intOf]; omega⟩
        · obtain rfl : k = nn := by omega
          have HC' : Hid (∀ u, u < v + 1 → Gr.cycB (vecL net a) u = false) := Lib.hid fun u hu => by
            by_cases eu : u = v
            · subst eu; exact cyc_false fun j hj => HNO.out j (by rw [vecL_len, ← HNE.out] at hj; exact hj)
            · exact HC.out u (by omega)
          go_wp2_with fail
          refine ⟨⟨v + 1, by omega, by go_num, HC', HB⟩, by simp [intOf]; omega⟩
    · obtain rfl : v = nn := by omega
      have hrf : roundB net a = false := round_false fun u hu => HC.out u (by rw [← HNE.out] at hu; exact hu)
      have HRF := Lib.hid hrf
      have HBE := Lib.hid (HB1.out.trans (HB.out.mono HB1.out.size))
      clear hrf
      go_wp2_with fail
      go_ret
      exact ⟨by rw [HRF.out]; rfl, HBE.out⟩
end Go.Proofs.YtpjoefekhgmlhaaGreat.Tp
