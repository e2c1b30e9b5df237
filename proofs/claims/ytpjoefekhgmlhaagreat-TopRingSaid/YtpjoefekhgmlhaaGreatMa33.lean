/- CONTRACT of check.Net, of certificates that may be for some number of nodes.
CONTRACTS of tool.Analyze, tool.Check on the bytes of a network and of a certificate that may be. Conditions: what cuts.Of, analyze.Net answer.
PLAIN: the networks of theseustop.shown, their certificates. No conditions. -/
import Derived.Test.YtpjoefekhgmlhaaGreatMa32
import Derived.Test.YtpjoefekhgmlhaaGreatMa31
import Derived.Test.YtpjoefekhgmlhaaGreatMa21
import Derived.Test.YtpjoefekhgmlhaaGreatMa19
import Derived.Test.YtpjoefekhgmlhaaGreatMa16
namespace Go.Proofs.YtpjoefekhgmlhaaGreat.Tp
open Go.RowKit Mem

/-- What check.Net answers: the verdict and the code. -/
def ansN (net : List (List RuleT)) (l : List Nat) (n0 : Nat) (c : CertT) : Nat × Int :=
  if cmayE n0 net.length c = 0 then
    if c.verdict = 1 then (if partsB net l c.parts then (1, 0) else (0, 16))
    else (if traceB net c.dest c.trace then (2, 0) else (0, 17))
  else (0, cmayE n0 net.length c)
abbrev ansV (a : Nat × Int) : Value := .agg #[.int .i64 (a.1 : Int), .int .i64 a.2]
theorem loopsE_zero {nodes : Nat} {l : List Nat} (h : loopsE nodes l = 0) : ¬ nodes < l.length ∧ outB nodes l = false := by
  unfold loopsE at h
  by_cases h1 : nodes < l.length
  · rw [if_pos h1] at h; cases h
  · rw [if_neg h1] at h
    cases ho : outB nodes l with
    | true => rw [ho] at h; cases h
    | false => exact ⟨h1, rfl⟩
theorem outB_false {n : Nat} {l : List Nat} (h : outB n l = false) : ∀ x ∈ l, x < n := by
  intro x hx
  unfold outB at h
  rw [List.any_eq_false] at h
  have := h x hx
  simp at this
  omega
def NetPost (w : World) (a : Nat × Int) (e : Ending) (w' : World) : Prop := e = .returned (ansV a) ∧ Below w.heap.size w w'
theorem VRow.set2 {w : World} {g : Nat} {x y : Value} (h : VRow w g [x, y]) (a b : Value) : VRow ((w.setCell ⟨g, 0, none⟩ a).setCell ⟨g, 0 + 1, none⟩ b) g [a, b] := (h.set_ 0 a).set_ 1 b
theorem below2 {B : Nat} {w w' : World} (h : Below B w w') {g : Nat} (hg : B ≤ g) (a b : Value) : Below B w ((w'.setCell ⟨g, 0, none⟩ a).setCell ⟨g, 0 + 1, none⟩ b) := (h.setCell (p := ⟨g, 0, none⟩) hg a).setCell (p := ⟨g, 0 + 1, none⟩) hg b
set_option maxRecDepth 100000 in
set_option maxHeartbeats 2000000 in
theorem cnet_any (N : Option Addr) (cN n0 : Nat) (net : List (List RuleT)) (l : List Nat) (v : Value) (c : CertT) (w : World) (hc : CutsOf net l) (hN : NetAt w N net) (h : NetOk net) (hv : CertAt w v c) (hl : l.length ≤ 900000) (hb : ∀ a ∈ l, a < 4294967296) (hok : CertOk n0 c) (hn0 : n0 ≤ 256) :
    Calls Tryz.prog 9 #[.agg #[.slice N net.length cN], v] w (NetPost w (ansN net l n0 c)) := by
  have hcm := fun W (hW : Below w.heap.size w W) => cmay_any v n0 net.length c W (hv.below hW) hok hn0
  obtain ⟨A, B, cA, cB, rfl, hA, hB⟩ := hv
  obtain ⟨wa, hwa⟩ : ∃ wa, wa = w.alloc (.cells #[.slice N net.length cN] 24) := ⟨_, rfl⟩
  obtain ⟨wb, hwb⟩ : ∃ wb, wb = wa.alloc (.cells #[.int .i64 (c.verdict : Int), .slice A c.parts.length cA, .int .u32 (c.dest : Int), .slice B c.trace.length cB] 31) := ⟨_, rfl⟩
  obtain ⟨w1, hw1⟩ : ∃ w1, w1 = wb.alloc (.cells #[.int .i64 0, .int .i64 0] 36) := ⟨_, rfl⟩
  have sa : wa.heap.size = w.heap.size + 1 := by rw [hwa]; simp
  have sb : wb.heap.size = w.heap.size + 1 + 1 := by rw [hwb]; simp [sa]
  have s1 : w1.heap.size = w.heap.size + 1 + 1 + 1 := by rw [hw1]; simp [sb]
  have ba : Below w.heap.size w wa := by rw [hwa]; exact (Below.refl _ _).alloc (Nat.le_refl _) _
  have bb : Below wa.heap.size wa wb := by rw [hwb]; exact (Below.refl _ _).alloc (Nat.le_refl _) _
  have bc : Below wb.heap.size wb w1 := by rw [hw1]; exact (Below.refl _ _).alloc (Nat.le_refl _) _
  have bac : Below wa.heap.size wa w1 := bb.trans (bc.mono bb.size)
  have hb1 : Below w.heap.size w w1 := ba.trans (bac.mono ba.size)
  have hxn0 : wa.cell? ⟨w.heap.size, 0, none⟩ = some (.slice N net.length cN) := by rw [hwa, cell_of_row _ _ 0 _ _ (0, 0) (heap_alloc_new w _)]; rfl
  have hxn := (bac.cell (p := ⟨w.heap.size, 0, none⟩) (by rw [sa]; exact Nat.lt_succ_self _)).trans hxn0
  have hy : ∀ i u, #[.int .i64 (c.verdict : Int), .slice A c.parts.length cA, .int .u32 (c.dest : Int), .slice B c.trace.length cB][i]? = some u → wb.cell? ⟨w.heap.size + 1, i, none⟩ = some u := fun i u hu => by
    rw [hwb, ← sa, cell_of_row _ _ i _ _ (0, 0) (heap_alloc_new wa _)]; exact hu
  have hz : ∀ i u, #[.int .i64 (c.verdict : Int), .slice A c.parts.length cA, .int .u32 (c.dest : Int), .slice B c.trace.length cB][i]? = some u → w1.cell? ⟨w.heap.size + 1, i, none⟩ = some u := fun i u hu =>
    (bc.cell (p := ⟨w.heap.size + 1, i, none⟩) (by rw [sb]; exact Nat.lt_succ_self _)).trans (hy i u hu)
  have hx0 : w1.cell? ⟨w.heap.size + 1, 0, none⟩ = some (.int .i64 (c.verdict : Int)) := hz 0 _ rfl
  have hx1 : w1.cell? ⟨w.heap.size + 1, 1, none⟩ = some (.slice A c.parts.length cA) := hz 1 _ rfl
  have hx2 : w1.cell? ⟨w.heap.size + 1, 2, none⟩ = some (.int .u32 (c.dest : Int)) := hz 2 _ rfl
  have hx3 : w1.cell? ⟨w.heap.size + 1, 3, none⟩ = some (.slice B c.trace.length cB) := hz 3 _ rfl
  have hxr : VRow w1 (w.heap.size + 1 + 1) [.int .i64 0, .int .i64 0] := by
    rw [hw1, ← sb]; exact VRow.new wb #[.int .i64 0, .int .i64 0] 36
  have hnm := nmay_any N cN net w1 (hN.below hb1) h
  have hcm1 := fun W (hW : Below w1.heap.size w1 W) => hcm W (hb1.trans (hW.mono hb1.size))
  have hNW := fun W (hW : Below w1.heap.size w1 W) => hN.below (hb1.trans (hW.mono hb1.size))
  have hAW := fun W (hW : Below w1.heap.size w1 W) => hA.below (hb1.trans (hW.mono hb1.size))
  have hBW := fun W (hW : Below w1.heap.size w1 W) => hB.below (hb1.trans (hW.mono hb1.size))
  rw [hwb, hwa] at hw1
  clear hxn0 hy hz hcm ba bb bc bac hN hA hB hwb hwa sa sb
  have HW1 := Lib.hid hw1
  have HB1 := Lib.hid hb1
  have HX := Lib.hid hxr
  have HNM := Lib.hid hnm
  have HCM := Lib.hid hcm1
  have HXN := Lib.hid hxn
  have HX0 := Lib.hid hx0
  have HX1 := Lib.hid hx1
  have HX2 := Lib.hid hx2
  have HX3 := Lib.hid hx3
  have HNW := Lib.hid hNW
  have HAW := Lib.hid hAW
  have HBW := Lib.hid hBW
  have g0 : w.heap.size < w1.heap.size := by rw [s1]; omega
  have g1 : w.heap.size + 1 < w1.heap.size := by rw [s1]; omega
  have g2 : w.heap.size + 1 + 1 < w1.heap.size := by rw [s1]; omega
  have ha : ∀ code, cmayE n0 net.length c = code → code ≠ 0 → ansN net l n0 c = (0, code) := fun code e h0 => by unfold ansN; rw [e, if_neg h0]
  by_cases h0 : cmayE n0 net.length c = 0
  · rw [h0] at HCM
    rcases hok with ⟨e1, hps, -, -⟩ | ⟨e1, hps, hd, htr, hln, hlt⟩
    · have en : n0 = net.length := by
        unfold cmayE at h0
        rw [if_pos e1] at h0
        by_cases en : n0 = net.length
        · exact en
        · rw [if_neg en] at h0; cases h0
      subst en
      have hpt := fun W (hW : Below w1.heap.size w1 W) => parts_any N A cN cA net l c.parts W hc (hNW W hW) h (hAW W hW) hl hb hps
      have hans : ansN net l net.length c = if partsB net l c.parts then (1, 0) else (0, 16) := by unfold ansN; rw [if_pos h0, if_pos e1]
      rw [hans]
      obtain ⟨pb, hpb⟩ : ∃ pb, pb = partsB net l c.parts := ⟨_, rfl⟩
      rw [← hpb] at hpt ⊢
      have HPT := Lib.hid hpt
      have tv1 : ((c.verdict : Int) == 1) = true := by rw [e1]; rfl
      have tv2 : ((c.verdict : Int) == 2) = false := by rw [e1]; rfl
      have E1 := Lib.hid e1
      clear hpt hpb hans hps
      clear e1 ha hcm1 hnm hw1 hxr h0 h hc hn0 hNW hAW hBW hb hl hx0 hx1 hx2 hx3 hxn hb1
      cases pb with
      | true => 
        go_enter Tryz.func9, Tryz.ntmps9
        go_wp2_with fail
        rw [← HW1.out]
        refine (HNM.out).mono ?_
        rintro e w2 ⟨rfl, hb2⟩
        have hx0 := (hb2.cell (p := ⟨w.heap.size + 1, 0, none⟩) g1).trans HX0.out
        have hxn := (hb2.cell (p := ⟨w.heap.size, 0, none⟩) g0).trans HXN.out
        have hx1 := (hb2.cell (p := ⟨w.heap.size + 1, 1, none⟩) g1).trans HX1.out
        have hx2 := (hb2.cell (p := ⟨w.heap.size + 1, 2, none⟩) g1).trans HX2.out
        have hx3 := (hb2.cell (p := ⟨w.heap.size + 1, 3, none⟩) g1).trans HX3.out
        have HB2 := Lib.hid hb2
        clear hb2
        go_wp2_with fail
        refine (HCM.out _ HB2.out).mono ?_
        rintro e w3 ⟨rfl, hb3⟩
        have hb3 := HB2.out.trans (hb3.mono HB2.out.size)
        clear hx0 hx1 hx2 hx3 hxn
        have hx0 := (hb3.cell (p := ⟨w.heap.size + 1, 0, none⟩) g1).trans HX0.out
        have hxn := (hb3.cell (p := ⟨w.heap.size, 0, none⟩) g0).trans HXN.out
        have hx1 := (hb3.cell (p := ⟨w.heap.size + 1, 1, none⟩) g1).trans HX1.out
        have hx2 := (hb3.cell (p := ⟨w.heap.size + 1, 2, none⟩) g1).trans HX2.out
        have hx3 := (hb3.cell (p := ⟨w.heap.size + 1, 3, none⟩) g1).trans HX3.out
        have HB3 := Lib.hid hb3
        clear hb3 HB2
        go_wp2_with fail
        refine (HPT.out _ HB3.out).mono ?_
        rintro e w4 ⟨rfl, hb4⟩
        simp only [if_true]
        have hb4 := HB3.out.trans (hb4.mono HB3.out.size)
        clear hx0 hx1 hx2 hx3 hxn
        have hx0 := (hb4.cell (p := ⟨w.heap.size + 1, 0, none⟩) g1).trans HX0.out
        have hr := HX.out.below hb4 g2
        have hf0 := hr.free 0 (by simp)
        have hf1 := hr.free 1 (by simp)
        have hq0 := hr.cell 0 (by simp)
        have hq1 := hr.cell 1 (by simp)
        simp only [List.getElem_cons_zero, List.getElem_cons_succ] at hq0 hq1
        have hs := hr.set2 (.int .i64 (c.verdict : Int)) (.int .i64 0)
        have hbs := below2 (HB1.out.trans (hb4.mono HB1.out.size)) (show w.heap.size ≤ w.heap.size + 1 + 1 by omega) (.int .i64 (c.verdict : Int)) (.int .i64 0)
        have HS := Lib.hid hs
        have HBS := Lib.hid hbs
        clear hr hs hbs
        go_wp2_with fail
        have hz0 := HS.out.cell 0 (by simp)
        have hz1 := HS.out.cell 1 (by simp)
        simp only [List.getElem_cons_zero, List.getElem_cons_succ] at hz0 hz1
        refine bodyPost_ret (v := .agg #[.int .i64 (c.verdict : Int), .int .i64 0]) (by simp [results, Tryz.results9, go_sem, hz0, hz1]) rfl ⟨by rw [E1.out], HBS.out⟩
      | false => 
        go_enter Tryz.func9, Tryz.ntmps9
        go_wp2_with fail
        rw [← HW1.out]
        refine (HNM.out).mono ?_
        rintro e w2 ⟨rfl, hb2⟩
        have hx0 := (hb2.cell (p := ⟨w.heap.size + 1, 0, none⟩) g1).trans HX0.out
        have hxn := (hb2.cell (p := ⟨w.heap.size, 0, none⟩) g0).trans HXN.out
        have hx1 := (hb2.cell (p := ⟨w.heap.size + 1, 1, none⟩) g1).trans HX1.out
        have hx2 := (hb2.cell (p := ⟨w.heap.size + 1, 2, none⟩) g1).trans HX2.out
        have hx3 := (hb2.cell (p := ⟨w.heap.size + 1, 3, none⟩) g1).trans HX3.out
        have HB2 := Lib.hid hb2
        clear hb2
        go_wp2_with fail
        refine (HCM.out _ HB2.out).mono ?_
        rintro e w3 ⟨rfl, hb3⟩
        have hb3 := HB2.out.trans (hb3.mono HB2.out.size)
        clear hx0 hx1 hx2 hx3 hxn
        have hx0 := (hb3.cell (p := ⟨w.heap.size + 1, 0, none⟩) g1).trans HX0.out
        have hxn := (hb3.cell (p := ⟨w.heap.size, 0, none⟩) g0).trans HXN.out
        have hx1 := (hb3.cell (p := ⟨w.heap.size + 1, 1, none⟩) g1).trans HX1.out
        have hx2 := (hb3.cell (p := ⟨w.heap.size + 1, 2, none⟩) g1).trans HX2.out
        have hx3 := (hb3.cell (p := ⟨w.heap.size + 1, 3, none⟩) g1).trans HX3.out
        have HB3 := Lib.hid hb3
        clear hb3 HB2
        go_wp2_with fail
        refine (HPT.out _ HB3.out).mono ?_
        rintro e w4 ⟨rfl, hb4⟩
        simp only [Bool.false_eq_true, if_false]
        have hb4 := HB3.out.trans (hb4.mono HB3.out.size)
        clear hx0 hx1 hx2 hx3 hxn
        have hx0 := (hb4.cell (p := ⟨w.heap.size + 1, 0, none⟩) g1).trans HX0.out
        have hr := HX.out.below hb4 g2
        have hf0 := hr.free 0 (by simp)
        have hf1 := hr.free 1 (by simp)
        have hq0 := hr.cell 0 (by simp)
        have hq1 := hr.cell 1 (by simp)
        simp only [List.getElem_cons_zero, List.getElem_cons_succ] at hq0 hq1
        have hs := hr.set2 (.int .i64 0) (.int .i64 16)
        have hbs := below2 (HB1.out.trans (hb4.mono HB1.out.size)) (show w.heap.size ≤ w.heap.size + 1 + 1 by omega) (.int .i64 0) (.int .i64 16)
        have HS := Lib.hid hs
        have HBS := Lib.hid hbs
        clear hr hs hbs
        go_wp2_with fail
        have hz0 := HS.out.cell 0 (by simp)
        have hz1 := HS.out.cell 1 (by simp)
        simp only [List.getElem_cons_zero, List.getElem_cons_succ] at hz0 hz1
        refine bodyPost_ret (v := .agg #[.int .i64 0, .int .i64 16]) (by simp [results, Tryz.results9, go_sem, hz0, hz1]) rfl ⟨rfl, HBS.out⟩
    · have hz := loopsE_zero (nodes := net.length) (l := c.trace) (by unfold cmayE at h0; rwa [if_neg (by omega)] at h0)
      have htc := fun W (hW : Below w1.heap.size w1 W) => trace_any N B cN cB net c.dest c.trace W (hNW W hW) h (hBW W hW) htr.some_ htr.few (outB_false hz.2) hd
      have hans : ansN net l n0 c = if traceB net c.dest c.trace then (2, 0) else (0, 17) := by unfold ansN; rw [if_pos h0, if_neg (by omega)]
      rw [hans]
      obtain ⟨pb, hpb⟩ : ∃ pb, pb = traceB net c.dest c.trace := ⟨_, rfl⟩
      rw [← hpb] at htc ⊢
      have HPT := Lib.hid htc
      have tv1 : ((c.verdict : Int) == 1) = false := by rw [e1]; rfl
      have tv2 : ((c.verdict : Int) == 2) = true := by rw [e1]; rfl
      have E1 := Lib.hid e1
      clear htc hpb hans hps hd htr hln hlt hz
      clear e1 ha hcm1 hnm hw1 hxr h0 h hc hn0 hNW hAW hBW hb hl hx0 hx1 hx2 hx3 hxn hb1
      cases pb with
      | true => 
        go_enter Tryz.func9, Tryz.ntmps9
        go_wp2_with fail
        rw [← HW1.out]
        refine (HNM.out).mono ?_
        rintro e w2 ⟨rfl, hb2⟩
        have hx0 := (hb2.cell (p := ⟨w.heap.size + 1, 0, none⟩) g1).trans HX0.out
        have hxn := (hb2.cell (p := ⟨w.heap.size, 0, none⟩) g0).trans HXN.out
        have hx1 := (hb2.cell (p := ⟨w.heap.size + 1, 1, none⟩) g1).trans HX1.out
        have hx2 := (hb2.cell (p := ⟨w.heap.size + 1, 2, none⟩) g1).trans HX2.out
        have hx3 := (hb2.cell (p := ⟨w.heap.size + 1, 3, none⟩) g1).trans HX3.out
        have HB2 := Lib.hid hb2
        clear hb2
        go_wp2_with fail
        refine (HCM.out _ HB2.out).mono ?_
        rintro e w3 ⟨rfl, hb3⟩
        have hb3 := HB2.out.trans (hb3.mono HB2.out.size)
        clear hx0 hx1 hx2 hx3 hxn
        have hx0 := (hb3.cell (p := ⟨w.heap.size + 1, 0, none⟩) g1).trans HX0.out
        have hxn := (hb3.cell (p := ⟨w.heap.size, 0, none⟩) g0).trans HXN.out
        have hx1 := (hb3.cell (p := ⟨w.heap.size + 1, 1, none⟩) g1).trans HX1.out
        have hx2 := (hb3.cell (p := ⟨w.heap.size + 1, 2, none⟩) g1).trans HX2.out
        have hx3 := (hb3.cell (p := ⟨w.heap.size + 1, 3, none⟩) g1).trans HX3.out
        have HB3 := Lib.hid hb3
        clear hb3 HB2
        go_wp2_with fail
        refine (HPT.out _ HB3.out).mono ?_
        rintro e w4 ⟨rfl, hb4⟩
        simp only [if_true]
        have hb4 := HB3.out.trans (hb4.mono HB3.out.size)
        clear hx0 hx1 hx2 hx3 hxn
        have hx0 := (hb4.cell (p := ⟨w.heap.size + 1, 0, none⟩) g1).trans HX0.out
        have hr := HX.out.below hb4 g2
        have hf0 := hr.free 0 (by simp)
        have hf1 := hr.free 1 (by simp)
        have hq0 := hr.cell 0 (by simp)
        have hq1 := hr.cell 1 (by simp)
        simp only [List.getElem_cons_zero, List.getElem_cons_succ] at hq0 hq1
        have hs := hr.set2 (.int .i64 (c.verdict : Int)) (.int .i64 0)
        have hbs := below2 (HB1.out.trans (hb4.mono HB1.out.size)) (show w.heap.size ≤ w.heap.size + 1 + 1 by omega) (.int .i64 (c.verdict : Int)) (.int .i64 0)
        have HS := Lib.hid hs
        have HBS := Lib.hid hbs
        clear hr hs hbs
        go_wp2_with fail
        have hz0 := HS.out.cell 0 (by simp)
        have hz1 := HS.out.cell 1 (by simp)
        simp only [List.getElem_cons_zero, List.getElem_cons_succ] at hz0 hz1
        refine bodyPost_ret (v := .agg #[.int .i64 (c.verdict : Int), .int .i64 0]) (by simp [results, Tryz.results9, go_sem, hz0, hz1]) rfl ⟨by rw [E1.out], HBS.out⟩
      | false => 
        go_enter Tryz.func9, Tryz.ntmps9
        go_wp2_with fail
        rw [← HW1.out]
        refine (HNM.out).mono ?_
        rintro e w2 ⟨rfl, hb2⟩
        have hx0 := (hb2.cell (p := ⟨w.heap.size + 1, 0, none⟩) g1).trans HX0.out
        have hxn := (hb2.cell (p := ⟨w.heap.size, 0, none⟩) g0).trans HXN.out
        have hx1 := (hb2.cell (p := ⟨w.heap.size + 1, 1, none⟩) g1).trans HX1.out
        have hx2 := (hb2.cell (p := ⟨w.heap.size + 1, 2, none⟩) g1).trans HX2.out
        have hx3 := (hb2.cell (p := ⟨w.heap.size + 1, 3, none⟩) g1).trans HX3.out
        have HB2 := Lib.hid hb2
        clear hb2
        go_wp2_with fail
        refine (HCM.out _ HB2.out).mono ?_
        rintro e w3 ⟨rfl, hb3⟩
        have hb3 := HB2.out.trans (hb3.mono HB2.out.size)
        clear hx0 hx1 hx2 hx3 hxn
        have hx0 := (hb3.cell (p := ⟨w.heap.size + 1, 0, none⟩) g1).trans HX0.out
        have hxn := (hb3.cell (p := ⟨w.heap.size, 0, none⟩) g0).trans HXN.out
        have hx1 := (hb3.cell (p := ⟨w.heap.size + 1, 1, none⟩) g1).trans HX1.out
        have hx2 := (hb3.cell (p := ⟨w.heap.size + 1, 2, none⟩) g1).trans HX2.out
        have hx3 := (hb3.cell (p := ⟨w.heap.size + 1, 3, none⟩) g1).trans HX3.out
        have HB3 := Lib.hid hb3
        clear hb3 HB2
        go_wp2_with fail
        refine (HPT.out _ HB3.out).mono ?_
        rintro e w4 ⟨rfl, hb4⟩
        simp only [Bool.false_eq_true, if_false]
        have hb4 := HB3.out.trans (hb4.mono HB3.out.size)
        clear hx0 hx1 hx2 hx3 hxn
        have hx0 := (hb4.cell (p := ⟨w.heap.size + 1, 0, none⟩) g1).trans HX0.out
        have hr := HX.out.below hb4 g2
        have hf0 := hr.free 0 (by simp)
        have hf1 := hr.free 1 (by simp)
        have hq0 := hr.cell 0 (by simp)
        have hq1 := hr.cell 1 (by simp)
        simp only [List.getElem_cons_zero, List.getElem_cons_succ] at hq0 hq1
        have hs := hr.set2 (.int .i64 0) (.int .i64 17)
        have hbs := below2 (HB1.out.trans (hb4.mono HB1.out.size)) (show w.heap.size ≤ w.heap.size + 1 + 1 by omega) (.int .i64 0) (.int .i64 17)
        have HS := Lib.hid hs
        have HBS := Lib.hid hbs
        clear hr hs hbs
        go_wp2_with fail
        have hz0 := HS.out.cell 0 (by simp)
        have hz1 := HS.out.cell 1 (by simp)
        simp only [List.getElem_cons_zero, List.getElem_cons_succ] at hz0 hz1
        refine bodyPost_ret (v := .agg #[.int .i64 0, .int .i64 17]) (by simp [results, Tryz.results9, go_sem, hz0, hz1]) rfl ⟨rfl, HBS.out⟩
  · obtain ⟨code, hcode⟩ : ∃ code, code = cmayE n0 net.length c := ⟨_, rfl⟩
    have hans := ha code hcode.symm (by rw [hcode]; exact h0)
    rw [← hcode] at HCM h0
    have t0 : (code == 0) = false := by rw [beq_eq_false_iff_ne]; exact h0
    have t1 : (code != 0) = true := by simp [bne, t0]
    rw [hans]
    clear hcode hans
    clear ha hcm1 hnm hw1 hxr h0 h hok hc hn0 hNW hAW hBW hb hl hx0 hx1 hx2 hx3 hxn hb1
    go_enter Tryz.func9, Tryz.ntmps9
    go_wp2_with fail
    rw [← HW1.out]
    refine (HNM.out).mono ?_
    rintro e w2 ⟨rfl, hb2⟩
    have hx0 := (hb2.cell (p := ⟨w.heap.size + 1, 0, none⟩) g1).trans HX0.out
    have hxn := (hb2.cell (p := ⟨w.heap.size, 0, none⟩) g0).trans HXN.out
    have hx1 := (hb2.cell (p := ⟨w.heap.size + 1, 1, none⟩) g1).trans HX1.out
    have hx2 := (hb2.cell (p := ⟨w.heap.size + 1, 2, none⟩) g1).trans HX2.out
    have hx3 := (hb2.cell (p := ⟨w.heap.size + 1, 3, none⟩) g1).trans HX3.out
    have HB2 := Lib.hid hb2
    clear hb2
    go_wp2_with fail
    refine (HCM.out _ HB2.out).mono ?_
    rintro e w3 ⟨rfl, hb3⟩
    have hb3 := HB2.out.trans (hb3.mono HB2.out.size)
    clear hx0 hx1 hx2 hx3 hxn
    have hx0 := (hb3.cell (p := ⟨w.heap.size + 1, 0, none⟩) g1).trans HX0.out
    have hxn := (hb3.cell (p := ⟨w.heap.size, 0, none⟩) g0).trans HXN.out
    have hx1 := (hb3.cell (p := ⟨w.heap.size + 1, 1, none⟩) g1).trans HX1.out
    have hx2 := (hb3.cell (p := ⟨w.heap.size + 1, 2, none⟩) g1).trans HX2.out
    have hx3 := (hb3.cell (p := ⟨w.heap.size + 1, 3, none⟩) g1).trans HX3.out
    have hr := HX.out.below hb3 g2
    have hf0 := hr.free 0 (by simp)
    have hf1 := hr.free 1 (by simp)
    have hq0 := hr.cell 0 (by simp)
    have hq1 := hr.cell 1 (by simp)
    simp only [List.getElem_cons_zero, List.getElem_cons_succ] at hq0 hq1
    have hs := hr.set2 (.int .i64 0) (.int .i64 code)
    have hbs := below2 (HB1.out.trans (hb3.mono HB1.out.size)) (show w.heap.size ≤ w.heap.size + 1 + 1 by omega) (.int .i64 0) (.int .i64 code)
    have HS := Lib.hid hs
    have HBS := Lib.hid hbs
    clear hr hs hbs
    clear hb3 hx1 hx2 hx3 hxn
    go_wp2_with fail
    have hz0 := HS.out.cell 0 (by simp)
    have hz1 := HS.out.cell 1 (by simp)
    simp only [List.getElem_cons_zero, List.getElem_cons_succ] at hz0 hz1
    refine bodyPost_ret (v := .agg #[.int .i64 0, .int .i64 code]) (by simp [results, Tryz.results9, go_sem, hz0, hz1]) rfl ⟨rfl, HBS.out⟩
end Go.Proofs.YtpjoefekhgmlhaaGreat.Tp

namespace Go.Proofs.YtpjoefekhgmlhaaGreat.Tp
open Go.RowKit Mem

set_option maxRecDepth 100000 in
set_option maxHeartbeats 2000000 in
theorem tanalyze_any (A : Option Addr) (c n : Nat) (net : List (List RuleT)) (ce : CertT) (w : World) (h : NetOk net) (hs : ∀ l ∈ net, l.length ≤ 2000) (ha : AnetOf net ce) (hok : CertOk net.length ce) (hM : (certIn net.length ce).length ≤ 1000000) (hn : (netB net).length = n) (hA : Lies w A (bytes (netB net))) (hc : n ≤ c) (hc2 : c ≤ 9223372036854775807) :
    Calls Tryz.prog 13 #[.slice A n c] w (VPost w (bytes (certB net.length ce)) 0) := by
  have hnn := h.nodes
  have hnt := ntake_any A n c net w h hs hn hA hc hc2
  have HNT := Lib.hid hnt
  have HAN := Lib.hid ha
  have HOK := Lib.hid hok
  have HM := Lib.hid hM
  clear hnt ha hok hM hA hs h hn
  go_enter Tryz.func13, Tryz.ntmps13
  go_wp2_with fail
  refine (HNT.out).mono ?_
  rintro e w2 ⟨R, m, rfl, hN2, hb2, hm1, hm2⟩
  obtain ⟨w3, hw3⟩ : ∃ w3, w3 = w2.alloc (.cells #[.slice R net.length m] 24) := ⟨_, rfl⟩
  have b3 : Below w2.heap.size w2 w3 := by rw [hw3]; exact bal _ _
  have hr3 : VRow w3 w2.heap.size [.slice R net.length m] := by rw [hw3]; exact VRow.new w2 #[.slice R net.length m] _
  have hx3 := (hr3.get (i := 0) rfl).1
  rw [hw3] at hx3
  have han := HAN.out R m w3 (hN2.below b3)
  have hbw := hb2.trans (b3.mono hb2.size)
  have HW3 := Lib.hid hw3
  have HR3 := Lib.hid hr3
  have HA3 := Lib.hid han
  have HBW := Lib.hid hbw
  clear hN2 hb2 hw3 b3 hr3 han hbw HNT HAN
  go_wp2_with fail
  rw [← HW3.out]
  clear hx3
  refine (HA3.out).mono ?_
  rintro e w4 ⟨PA, TB, cA, cB, rfl, hPA, hTB, -, hb4⟩
  obtain ⟨w5, hw5⟩ : ∃ w5, w5 = w4.alloc (.cells #[.int .i64 (ce.verdict : Int), .slice PA ce.parts.length cA, .int .u32 (ce.dest : Int), .slice TB ce.trace.length cB] 31) := ⟨_, rfl⟩
  have b5 : Below w4.heap.size w4 w5 := by rw [hw5]; exact bal _ _
  have hr5 := (HR3.out.below hb4 HR3.out.lt).below b5 (Nat.lt_of_lt_of_le HR3.out.lt hb4.size)
  have hx5 := (hr5.get (i := 0) rfl).1
  rw [hw5] at hx5
  have hcv : CertAt w5 (.agg #[.int .i64 (ce.verdict : Int), .slice PA ce.parts.length cA, .int .u32 (ce.dest : Int), .slice TB ce.trace.length cB]) ce := ⟨PA, TB, cA, cB, rfl, hPA.below b5, hTB.below b5⟩
  have hcp := cput_any net.length _ ce w5 hcv HOK.out (by omega) HM.out
  have hbw5 := HBW.out.trans ((hb4.trans (b5.mono hb4.size)).mono HBW.out.size)
  obtain ⟨M, hMe⟩ : ∃ M, M = (bytes (certB net.length ce)).length := ⟨_, rfl⟩
  have HME := Lib.hid hMe
  have HW5 := Lib.hid hw5
  have HCP := Lib.hid hcp
  have HB5 := Lib.hid hbw5
  clear hPA hTB hb4 hw5 b5 hr5 hcv hcp hbw5 HA3 HR3 HW3 HBW hMe
  go_wp2_with fail
  rw [← HW5.out]
  refine (HCP.out).mono ?_
  rintro e w6 ⟨R6, m6, rfl, hL6, hb6, hm61, hm62⟩
  rw [← HME.out] at hm61 ⊢
  have HB6 := Lib.hid (HB5.out.trans (hb6.mono HB5.out.size))
  have HL6 := Lib.hid hL6
  clear hb6 hL6 HCP
  go_wp2_with fail
  go_ret2
  exact ⟨R6, m6, by rw [← HME.out]; rfl, HL6.out, HB6.out, by rw [← HME.out]; exact hm61, hm62⟩
/-- What tool.Check answers of a network's bytes and a certificate's. -/
def ansT (net : List (List RuleT)) (l : List Nat) (n0 : Nat) (c : CertT) : Nat × Int := if n0 = net.length then ansN net l n0 c else (0, 1)
set_option maxRecDepth 100000 in
set_option maxHeartbeats 2000000 in
theorem tcheck_any (A B : Option Addr) (cA cB n m n0 : Nat) (net : List (List RuleT)) (l : List Nat) (c : CertT) (w : World) (h : NetOk net) (hs : ∀ l ∈ net, l.length ≤ 2000) (hC : CutsOf net l) (hl : l.length ≤ 900000) (hb : ∀ a ∈ l, a < 4294967296) (hok : CertOk n0 c) (hn0 : n0 ≤ 256) (hM : (certIn n0 c).length ≤ 1000000)
    (hn : (netB net).length = n) (hA : Lies w A (bytes (netB net))) (hcA : n ≤ cA) (hcA2 : cA ≤ 9223372036854775807) (hm : (certB n0 c).length = m) (hB : Lies w B (bytes (certB n0 c))) (hcB : m ≤ cB) (hcB2 : cB ≤ 9223372036854775807) :
    Calls Tryz.prog 14 #[.slice A n cA, .slice B m cB] w (NetPost w (ansT net l n0 c)) := by
  have hnn := h.nodes
  obtain ⟨w1, hw1⟩ : ∃ w1, w1 = w.alloc (.cells #[.int .i64 0, .int .i64 0] 36) := ⟨_, rfl⟩
  have b1 : Below w.heap.size w w1 := by rw [hw1]; exact bal _ _
  have hy1 : VRow w1 w.heap.size [.int .i64 0, .int .i64 0] := by rw [hw1]; exact VRow.new w #[.int .i64 0, .int .i64 0] _
  have hnt := ntake_any A n cA net w1 h hs hn (hA.below b1) hcA hcA2
  have HNT := Lib.hid hnt
  have HW1 := Lib.hid hw1
  have HY1 := Lib.hid hy1
  have HB1 := Lib.hid b1
  have HBB := Lib.hid hB
  have HOK := Lib.hid hok
  have HM := Lib.hid hM
  have HC := Lib.hid hC
  have H := Lib.hid h
  have HL32 := Lib.hid hb
  have HMM := Lib.hid hm
  clear hnt hw1 hy1 b1 hB hok hM hC h hA hs hn hb hm
  go_enter Tryz.func14, Tryz.ntmps14
  go_wp2_with fail
  rw [← HW1.out]
  refine (HNT.out).mono ?_
  rintro e w2 ⟨R, mR, rfl, hN2, hb2, hm1, hm2⟩
  obtain ⟨w3, hw3⟩ : ∃ w3, w3 = w2.alloc (.cells #[.slice R net.length mR] 24) := ⟨_, rfl⟩
  have b3 : Below w2.heap.size w2 w3 := by rw [hw3]; exact bal _ _
  have hr3 : VRow w3 w2.heap.size [.slice R net.length mR] := by rw [hw3]; exact VRow.new w2 #[.slice R net.length mR] _
  have hbw := HB1.out.trans ((hb2.trans (b3.mono hb2.size)).mono HB1.out.size)
  have hy3 := (HY1.out.below hb2 HY1.out.lt).below b3 (Nat.lt_of_lt_of_le HY1.out.lt hb2.size)
  have hct := ctake_any B m cB n0 c w3 HOK.out hn0 HM.out HMM.out (HBB.out.below hbw) hcB hcB2
  have HW3 := Lib.hid hw3
  have HR3 := Lib.hid hr3
  have HN3 := Lib.hid (hN2.below b3)
  have HBW := Lib.hid hbw
  have HY3 := Lib.hid hy3
  have HCT := Lib.hid hct
  clear hN2 hb2 hw3 b3 hr3 hbw hy3 hct HNT HW1 HY1 HBB
  go_wp2_with fail
  rw [← HW3.out]
  refine (HCT.out).mono ?_
  rintro e w4 ⟨v, rfl, ⟨PA, TB, dA, dB, rfl, hPA, hTB⟩, hb4⟩
  obtain ⟨w5, hw5⟩ : ∃ w5, w5 = w4.alloc (.cells #[.int .i64 (c.verdict : Int), .slice PA c.parts.length dA, .int .u32 (c.dest : Int), .slice TB c.trace.length dB] 31) := ⟨_, rfl⟩
  have b5 : Below w4.heap.size w4 w5 := by rw [hw5]; exact bal _ _
  have b35 := hb4.trans (b5.mono hb4.size)
  have hr5 := HR3.out.below b35 HR3.out.lt
  have hy5 := HY3.out.below b35 HY3.out.lt
  have hk5 : VRow w5 w4.heap.size [.int .i64 (c.verdict : Int), .slice PA c.parts.length dA, .int .u32 (c.dest : Int), .slice TB c.trace.length dB] := by rw [hw5]; exact VRow.new w4 #[.int .i64 (c.verdict : Int), .slice PA c.parts.length dA, .int .u32 (c.dest : Int), .slice TB c.trace.length dB] _
  have hcv : CertAt w5 (.agg #[.int .i64 (c.verdict : Int), .slice PA c.parts.length dA, .int .u32 (c.dest : Int), .slice TB c.trace.length dB]) c := ⟨PA, TB, dA, dB, rfl, hPA.below b5, hTB.below b5⟩
  have hcn := cnet_any R mR n0 net l _ c w5 HC.out (HN3.out.below b35) H.out hcv hl HL32.out HOK.out hn0
  have hx5 := (hr5.get (i := 0) rfl).1
  have hb5w := HBW.out.trans (b35.mono HBW.out.size)
  obtain ⟨k0, -⟩ := hk5.get (i := 0) rfl
  obtain ⟨k1, -⟩ := hk5.get (i := 1) rfl
  obtain ⟨k2, -⟩ := hk5.get (i := 2) rfl
  obtain ⟨k3, -⟩ := hk5.get (i := 3) rfl
  obtain ⟨p0, f0⟩ := hy5.get (i := 0) rfl
  have HY5 := Lib.hid hy5
  have HB5 := Lib.hid hb5w
  have HCN := Lib.hid hcn
  rw [hw5] at k0 k1 k2 k3 hx5
  have HW5 := Lib.hid hw5
  clear hPA hTB hb4 b5 b35 hr5 hy5 hk5 hcv hcn hb5w hw5 p0 f0 HW3 HR3 HN3 HBW HY3 HCT
  by_cases hne : n0 = net.length
  · have t1 : ((n0 : Int) != (net.length : Int)) = false := by simp [hne]
    have hans : ansT net l n0 c = ansN net l n0 c := by unfold ansT; rw [if_pos hne]
    obtain ⟨a, hae⟩ : ∃ a, a = ansN net l n0 c := ⟨_, rfl⟩
    rw [← hae] at HCN hans
    have HANS := Lib.hid hans
    clear hne hans hae
    go_wp2_with fail
    rw [← HW5.out]
    refine (HCN.out).mono ?_
    rintro e w6 ⟨rfl, hb6⟩
    have hy6 := HY5.out.below hb6 HY5.out.lt
    have hy7 := hy6.set_ 0 (.int .i64 (a.1 : Int))
    have hy8 := hy7.set_ 1 (.int .i64 a.2)
    obtain ⟨p0, f0⟩ := hy6.get (i := 0) rfl
    obtain ⟨p1, f1⟩ := hy7.get (i := 1) rfl
    have hz := And.intro (hy8.get (i := 0) rfl).1 (hy8.get (i := 1) rfl).1
    have hbe := ((HB5.out.trans (hb6.mono HB5.out.size)).setCell (p := ⟨w.heap.size, 0, none⟩) (Nat.le_refl _) (.int .i64 (a.1 : Int))).setCell (p := ⟨w.heap.size, 1, none⟩) (Nat.le_refl _) (.int .i64 a.2)
    have HZ := Lib.hid hz
    have HBE := Lib.hid hbe
    clear hy6 hy7 hy8 hz hbe hb6 hx5 k0 k1 k2 k3 HY5 HB5 HCN HW5
    go_wp2_with fail
    obtain ⟨z0, z1⟩ := HZ.out
    exact bodyPost_ret (v := .agg #[.int .i64 (a.1 : Int), .int .i64 a.2]) (by simp [results, Tryz.results14, go_sem, z0, z1]) rfl ⟨by rw [HANS.out], HBE.out⟩
  · have t1 : ((n0 : Int) != (net.length : Int)) = true := by simp; omega
    have hans : ansT net l n0 c = (0, 1) := by unfold ansT; rw [if_neg hne]
    have HANS := Lib.hid hans
    have hy6 := HY5.out
    have hy7 := hy6.set_ 0 (.int .i64 0)
    have hy8 := hy7.set_ 1 (.int .i64 1)
    obtain ⟨p0, f0⟩ := hy6.get (i := 0) rfl
    obtain ⟨p1, f1⟩ := hy7.get (i := 1) rfl
    have hz := And.intro (hy8.get (i := 0) rfl).1 (hy8.get (i := 1) rfl).1
    have hbe := (HB5.out.setCell (p := ⟨w.heap.size, 0, none⟩) (Nat.le_refl _) (.int .i64 0)).setCell (p := ⟨w.heap.size, 1, none⟩) (Nat.le_refl _) (.int .i64 1)
    have HZ := Lib.hid hz
    have HBE := Lib.hid hbe
    rw [HW5.out] at p0 f0 p1 f1
    clear hy6 hy7 hy8 hz hbe hne hans k0 k1 k2 k3 HY5 HB5 HCN
    go_wp2_with fail
    rw [← HW5.out]
    obtain ⟨z0, z1⟩ := HZ.out
    exact bodyPost_ret (v := .agg #[.int .i64 0, .int .i64 1]) (by simp [results, Tryz.results14, go_sem, z0, z1]) rfl ⟨by rw [HANS.out]; rfl, HBE.out⟩
end Go.Proofs.YtpjoefekhgmlhaaGreat.Tp

namespace Go.Proofs.YtpjoefekhgmlhaaGreat.Tp
open Go.RowKit Mem

def netS1 : List (List RuleT) := [[⟨0, 0, 1, 1⟩], [⟨0, 0, 1, 2⟩], [⟨0, 0, 2, 0⟩, ⟨2147483648, 1, 1, 0⟩]]
def netS2 : List (List RuleT) := [[⟨0, 0, 1, 1⟩], [⟨0, 0, 1, 2⟩], [⟨0, 0, 2, 0⟩]]
def ceS1 : CertT := ⟨2, [], 2147483648, [0, 1, 2]⟩
def ceS2 : CertT := ⟨1, [⟨0, 4294967295, [2, 1, 0]⟩], 0, []⟩
theorem table_one {n : Nat} {r : RuleT} (h : RuleOk n r) : TableOk n [r] := ⟨fun x hx => by simp at hx; rw [hx]; exact h, fun i hi => absurd hi (by simp)⟩
theorem table_two {n : Nat} {r s : RuleT} (h : RuleOk n r) (h2 : RuleOk n s) (hp : pcmp s.a s.len r.a r.len = 1) : TableOk n [r, s] := by
  refine ⟨fun x hx => ?_, fun i hi => ?_⟩
  · simp at hx; rcases hx with rfl | rfl <;> assumption
  · have : i = 0 := by simp at hi; omega
    subst this
    exact hp
theorem netS1_ok : NetOk netS1 := by
  refine ⟨by decide, by decide, fun l hl => ?_⟩
  simp only [netS1, List.mem_cons, List.not_mem_nil, or_false] at hl
  rcases hl with rfl | rfl | rfl
  · exact table_one ⟨by decide, by decide, by decide, by decide⟩
  · exact table_one ⟨by decide, by decide, by decide, by decide⟩
  · exact table_two ⟨by decide, by decide, by decide, by decide⟩ ⟨by decide, by decide, by decide, by decide⟩ (by decide)
theorem netS2_ok : NetOk netS2 := by
  refine ⟨by decide, by decide, fun l hl => ?_⟩
  simp only [netS2, List.mem_cons, List.not_mem_nil, or_false] at hl
  rcases hl with rfl | rfl | rfl
  · exact table_one ⟨by decide, by decide, by decide, by decide⟩
  · exact table_one ⟨by decide, by decide, by decide, by decide⟩
  · exact table_one ⟨by decide, by decide, by decide, by decide⟩
theorem cuts_is {net : List (List RuleT)} {l : List Nat} (h : dedN (ptsN net) = l) (hs : l.Pairwise fun x y => decide (x ≤ y) = true) : cutsL net = l := by
  unfold cutsL; rw [h]; exact List.mergeSort_of_pairwise hs
theorem cutsS1 : cutsL netS1 = [0, 2147483648] := cuts_is (by kernel_rfl) (by decide)
theorem cutsS2 : cutsL netS2 = [0] := cuts_is (by kernel_rfl) (by decide)
theorem certS1 : anCert (atomsTo netS1 [0, 2147483648]) = ceS1 := by kernel_rfl
theorem certS2 : anCert (atomsTo netS2 [0]) = ceS2 := by kernel_rfl
theorem ans11 : ansT netS1 [0, 2147483648] 3 ceS1 = (2, 0) := by kernel_rfl
theorem ans22 : ansT netS2 [0] 3 ceS2 = (1, 0) := by kernel_rfl
theorem ans12 : (ansT netS1 [0, 2147483648] 3 ceS2).1 = 0 := by kernel_rfl
end Go.Proofs.YtpjoefekhgmlhaaGreat.Tp
