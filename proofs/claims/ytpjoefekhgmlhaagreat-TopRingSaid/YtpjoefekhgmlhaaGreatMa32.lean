/- CONTRACT of check.Trace. Conditions: the network may be; the trace's numbers are nodes.
CONTRACTS: cover.All, check.parts, check.Net, of certificates that may be for some number of nodes. -/
import Derived.Test.YtpjoefekhgmlhaaGreatMa17
import Derived.Test.YtpjoefekhgmlhaaGreatMa27
import Derived.Test.YtpjoefekhgmlhaaGreatMa18
import Derived.StillTailTactics
namespace Go.Proofs.YtpjoefekhgmlhaaGreat.Tp
open Go.RowKit Mem

/-- The node behind place i of a trace. -/
def behind (l : List Nat) (i : Nat) : Nat := if i + 1 < l.length then l.getD (i + 1) 0 else l.getD 0 0
def traceB (net : List (List RuleT)) (dest : Nat) (l : List Nat) : Bool := (List.range l.length).all fun i => stepN net dest (l.getD i 0) == some (behind l i)
theorem traceB_of {net : List (List RuleT)} {dest : Nat} {l : List Nat} (h : ∀ i, i < l.length → stepN net dest (l.getD i 0) = some (behind l i)) : traceB net dest l = true := by
  unfold traceB
  rw [List.all_eq_true]
  intro i hi
  rw [h i (List.mem_range.1 hi)]
  simp
theorem traceB_no {net : List (List RuleT)} {dest : Nat} {l : List Nat} {i : Nat} (hi : i < l.length) (h : stepN net dest (l.getD i 0) ≠ some (behind l i)) : traceB net dest l = false := by
  cases hf : traceB net dest l with
  | false => rfl
  | true =>
    unfold traceB at hf
    rw [List.all_eq_true] at hf
    have := hf i (List.mem_range.2 hi)
    exact absurd (by simpa using this) h
def TracePost (b : Bool) (w : World) (e : Ending) (w' : World) : Prop := e = .returned (.int .i64 (if b then 0 else 17)) ∧ Below w.heap.size w w'

set_option maxRecDepth 100000 in
set_option maxHeartbeats 2000000 in
theorem trace_any (A B : Option Addr) (c d : Nat) (net : List (List RuleT)) (dest : Nat) (l : List Nat) (w : World) (hN : NetAt w A net) (h : NetOk net) (hB : Lies w B (nums l)) (h0 : 0 < l.length) (hln : l.length ≤ 256) (hl : ∀ v ∈ l, v < net.length) (hd : dest < 4294967296) :
    Calls Tryz.prog 26 #[.agg #[.slice A net.length c], .int .u32 (dest : Int), .slice B l.length d] w (TracePost (traceB net dest l) w) := by
  have hnn := h.nodes
  have H := Lib.hid h
  have HL := Lib.hid hl
  obtain ⟨fb, hfb⟩ : ∃ fb, fb = traceB net dest l := ⟨_, rfl⟩
  rw [← hfb]
  have HFB := Lib.hid hfb
  have t0 : ((l.length : Int) == 0) = false := by rw [beq_eq_false_iff_ne]; omega
  have hb0 : Below w.heap.size w (w.alloc (.cells #[.slice A net.length c] 24)) := (Below.refl _ _).alloc (Nat.le_refl _) _
  have hst := steps_any A c net _ (hN.below hb0)
  have HST := Lib.hid hst
  have HB0 := Lib.hid hb0
  clear h hl hfb hst hb0 hN
  go_enter Tryz.func26, Tryz.ntmps26
  go_wp2_with fail
  refine (HST.out).mono ?_
  rintro e w2 ⟨f, rfl, hf, hb2⟩
  obtain ⟨g, N, cN, rfl, hg, hgc, hN⟩ := hf
  have hb2w := HB0.out.trans (hb2.mono HB0.out.size)
  have hbx : Below w2.heap.size w2 (w2.alloc (.cells #[.int .i64 (net.length : Int), .func (.func 101) #[] #[.pointer (some ⟨g, 0, none⟩)]] 123)) := (Below.refl _ _).alloc (Nat.le_refl _) _
  have hx1 : (w2.alloc (.cells #[.int .i64 (net.length : Int), .func (.func 101) #[] #[.pointer (some ⟨g, 0, none⟩)]] 123)).cell? ⟨w2.heap.size, 1, none⟩ = some (.func (.func 101) #[] #[.pointer (some ⟨g, 0, none⟩)]) := by rw [cell_of_row _ _ 1 _ _ (0, 0) (heap_alloc_new w2 _)]; rfl
  have hgx : w2.heap.size < (w2.alloc (.cells #[.int .i64 (net.length : Int), .func (.func 101) #[] #[.pointer (some ⟨g, 0, none⟩)]] 123)).heap.size := by simp
  have hb1 := hb2w.trans (hbx.mono hb2w.size)
  have hN1 := hN.below hbx
  have hgc1 := (hbx.cell (p := ⟨g, 0, none⟩) hg).trans hgc
  have hg1 : g < (w2.alloc (.cells #[.int .i64 (net.length : Int), .func (.func 101) #[] #[.pointer (some ⟨g, 0, none⟩)]] 123)).heap.size := Nat.lt_of_lt_of_le hg hbx.size
  have hB1 := hB.below hb1
  clear hb2 hN hgc hg hbx hB HST HB0 hb2w
  go_wp2_with fail
  generalize w2.alloc (.cells #[.int .i64 (net.length : Int), .func (.func 101) #[] #[.pointer (some ⟨g, 0, none⟩)]] 123) = w1 at *
  go_loopw [20] (fun i wr => ∃ k : Nat, k ≤ l.length ∧ i = .int .i64 k ∧ Hid (∀ j, j < k → stepN net dest (l.getD j 0) = some (behind l j)) ∧ Below w1.heap.size w1 wr) (fun i _ => l.length - (intOf i).toNat)
  case atStart => exact ⟨0, by omega, rfl, Lib.hid (fun j h => absurd h (by omega)), Below.refl _ _⟩
  case round =>
    obtain ⟨k, hk, rfl, HALL, hbr⟩ := hrel
    by_cases hlt : k < l.length
    · obtain ⟨b, off, hBe, hb, hc0⟩ := Lies.at_map hB1 hlt
      obtain ⟨b', off', hBe', hb', hc1⟩ := Lies.at_map hB1 h0
      rw [hBe] at hBe'
      injection hBe' with hBe'
      injection hBe' with e1 e2 _
      subst e1 e2
      have hk0 := (hbr.cell (p := ⟨b, off + k, none⟩) hb).trans hc0
      have h00 := (hbr.cell (p := ⟨b, off + 0, none⟩) hb).trans hc1
      rw [Nat.add_zero] at h00
      have hxr1 := (hbr.cell (p := ⟨w2.heap.size, 1, none⟩) hgx).trans hx1
      have hvl := HL.out _ (List.getElem_mem hlt)
      have hget : l.getD k 0 = l[k] := by simp [List.getD, hlt]
      have hget0 : l.getD 0 0 = l[0] := by simp [List.getD, h0]
      have hst := stepf_any N cN g net dest l[k] wr ((hbr.cell (p := ⟨g, 0, none⟩) hg1).trans hgc1) (hN1.below hbr) H.out hvl hd
      have hbe : ∀ nx : Nat, behind l k = nx → (stepN net dest l[k] = some nx → ∀ j, j < k + 1 → stepN net dest (l.getD j 0) = some (behind l j)) ∧ (stepN net dest l[k] ≠ some nx → fb = false) := fun nx e => by
        refine ⟨fun hs j hj => ?_, fun hs => ?_⟩
        · by_cases ej : j = k
          · subst ej; rw [hget, e, hs]
          · exact HALL.out j (by omega)
        · rw [HFB.out]; exact traceB_no hlt (by rw [hget, e]; exact hs)
      obtain ⟨nx, hnx⟩ : ∃ nx, nx = behind l k := ⟨_, rfl⟩
      obtain ⟨hyes, hno⟩ := hbe nx hnx.symm
      obtain ⟨x, hx⟩ : ∃ x, x = l[k] := ⟨_, rfl⟩
      obtain ⟨x0, hx0⟩ : ∃ x0, x0 = l[0] := ⟨_, rfl⟩
      rw [← hx] at hk0 hst hyes hno
      rw [← hx0] at h00 hget0
      have HYES := Lib.hid hyes
      have HNO := Lib.hid hno
      have HBB := Lib.hid hB1
      by_cases hlast : k + 1 < l.length
      · obtain ⟨b'', off'', hBe'', hb'', hc2⟩ := Lies.at_map hB1 hlast
        rw [hBe] at hBe''
        injection hBe'' with hBe''
        injection hBe'' with e1 e2 _
        subst e1 e2
        have hk1 := (hbr.cell (p := ⟨b, off + (k + 1), none⟩) hb).trans hc2
        have hbh : l[k + 1] = nx := by rw [hnx]; unfold behind; rw [if_pos hlast]; simp [List.getD, hlast]
        rw [hbh] at hk1
        subst hBe
        clear hc0 hc1 hc2 hx hx0 hget hget0 hbh hnx hbe hyes hno hB1 hvl
        cases ho : stepN net dest x with
        | none =>
          have hf := HNO.out (by rw [ho]; simp)
          rw [ho] at hst
          have HST := Lib.hid hst
          have HF := Lib.hid hf
          clear hst ho hf
          go_wp2_with fail
          refine (HST.out).mono ?_
          rintro e w3 ⟨rfl, hb3⟩
          simp only [Option.isSome_none]
          go_wp2_with fail
          go_ret
          exact ⟨by rw [HF.out]; rfl, hb1.trans ((hbr.trans (hb3.mono hbr.size)).mono hb1.size)⟩
        | some z =>
          rw [ho] at hst
          have HST := Lib.hid hst
          by_cases hz : z = nx
          · subst hz
            have hf := HYES.out ho
            have t1 : ((z : Int) != (z : Int)) = false := by simp
            have HF := Lib.hid hf
            clear hst ho hf
            go_wp2_with fail
            refine (HST.out).mono ?_
            rintro e w3 ⟨rfl, hb3⟩
            simp only [optInt, Option.isSome_some, Option.getD_some]
            go_wp2_with fail
            refine ⟨⟨k + 1, by omega, by go_num, Lib.hid HF.out, hbr.trans (hb3.mono hbr.size)⟩, by simp [intOf]; omega⟩
          · have hf := HNO.out (by rw [ho]; intro e; injection e with e; exact hz e)
            have t1 : ((z : Int) != (nx : Int)) = true := by simp; omega
            have HF := Lib.hid hf
            clear hst ho hf hz
            go_wp2_with fail
            refine (HST.out).mono ?_
            rintro e w3 ⟨rfl, hb3⟩
            simp only [optInt, Option.isSome_some, Option.getD_some]
            go_wp2_with fail
            go_ret
            exact ⟨by rw [HF.out]; rfl, hb1.trans ((hbr.trans (hb3.mono hbr.size)).mono hb1.size)⟩
      · have hbh : x0 = nx := by rw [hnx]; unfold behind; rw [if_neg hlast, hget0]
        rw [hbh] at h00
        subst hBe
        clear hc0 hc1 hx hx0 hget hget0 hbh hnx hbe hyes hno hB1 hvl
        cases ho : stepN net dest x with
        | none =>
          have hf := HNO.out (by rw [ho]; simp)
          rw [ho] at hst
          have HST := Lib.hid hst
          have HF := Lib.hid hf
          clear hst ho hf
          go_wp2_with fail
          refine (HST.out).mono ?_
          rintro e w3 ⟨rfl, hb3⟩
          simp only [Option.isSome_none]
          go_wp2_with fail
          go_ret
          exact ⟨by rw [HF.out]; rfl, hb1.trans ((hbr.trans (hb3.mono hbr.size)).mono hb1.size)⟩
        | some z =>
          rw [ho] at hst
          have HST := Lib.hid hst
          by_cases hz : z = nx
          · subst hz
            have hf := HYES.out ho
            have t1 : ((z : Int) != (z : Int)) = false := by simp
            have HF := Lib.hid hf
            clear hst ho hf
            go_wp2_with fail
            refine (HST.out).mono ?_
            rintro e w3 ⟨rfl, hb3⟩
            simp only [optInt, Option.isSome_some, Option.getD_some]
            go_wp2_with fail
            refine ⟨⟨k + 1, by omega, by go_num, Lib.hid HF.out, hbr.trans (hb3.mono hbr.size)⟩, by simp [intOf]; omega⟩
          · have hf := HNO.out (by rw [ho]; intro e; injection e with e; exact hz e)
            have t1 : ((z : Int) != (nx : Int)) = true := by simp; omega
            have HF := Lib.hid hf
            clear hst ho hf hz
            go_wp2_with fail
            refine (HST.out).mono ?_
            rintro e w3 ⟨rfl, hb3⟩
            simp only [optInt, Option.isSome_some, Option.getD_some]
            go_wp2_with fail
            go_ret
            exact ⟨by rw [HF.out]; rfl, hb1.trans ((hbr.trans (hb3.mono hbr.size)).mono hb1.size)⟩
    · have hyes : traceB net dest l = true := traceB_of (fun i hi => HALL.out i (by omega))
      rw [← HFB.out] at hyes
      have HYES := Lib.hid hyes
      clear hyes
      go_wp2_with fail
      go_ret
      exact ⟨by rw [HYES.out]; rfl, hb1.trans (hbr.mono hb1.size)⟩
end Go.Proofs.YtpjoefekhgmlhaaGreat.Tp

namespace Go.Proofs.YtpjoefekhgmlhaaGreat.Tp
open Go.RowKit Mem

def AllPost (w : World) (ls : List (List Nat)) (e : Ending) (w' : World) : Prop := ∃ R m, e = .returned (.tuple #[.slice R ls.length m, .int .i64 0]) ∧ RowsAt w' R ls ∧ Below w.heap.size w w'
set_option maxHeartbeats 400000 in
theorem all_any (N A : Option Addr) (cN cA : Nat) (net : List (List RuleT)) (l : List Nat) (ps : List PartT) (w : World) (hc : CutsOf net l) (hN : NetAt w N net) (hA : PartsAt w A ps) (hl : l.length ≤ 1000000) (hb : ∀ a ∈ l, a < 4294967296) (hm : Meets ps) :
    Calls Tryz.prog 60 #[.agg #[.slice N net.length cN], .slice A ps.length cA] w (AllPost w (pointsL l ps)) := by
  have hb0 : Below w.heap.size w (w.alloc (.cells #[.slice N net.length cN] 24)) := (Below.refl _ _).alloc (Nat.le_refl _) _
  have hmt := meet_any A cA ps _ (hA.below hb0) hm
  have hpt := fun W (hW : Below w.heap.size w W) => points_any N A cN cA net l ps W hc (hN.below hW) (hA.below hW) hl hb hm.few
  have HMT := Lib.hid hmt
  have HPT := Lib.hid hpt
  have HB0 := Lib.hid hb0
  clear hmt hpt hb0 hc hN hA hm hb
  go_enter Tryz.func60, Tryz.ntmps60
  go_wp2_with fail
  refine (HMT.out).mono ?_
  rintro e w2 ⟨rfl, hb2⟩
  have hx := box_cell w w2 24 #[.slice N net.length cN] hb2 0 _ rfl
  have hb2w := HB0.out.trans (hb2.mono HB0.out.size)
  have HB2 := Lib.hid hb2w
  clear hb2 hb2w HMT HB0
  go_wp2_with fail
  refine (HPT.out _ HB2.out).mono ?_
  rintro e w3 ⟨R, m, rfl, hR, hb3⟩
  go_wp2_with fail
  go_ret2
  exact ⟨R, m, rfl, hR, HB2.out.trans (hb3.mono HB2.out.size)⟩

/-- Each part falls at its points. -/
def partsB (net : List (List RuleT)) (l : List Nat) (ps : List PartT) : Bool := ps.all fun p => fallB net (insideL l p.f p.t) p.ranks
theorem partsB_of {net : List (List RuleT)} {l : List Nat} {ps : List PartT} (h : ∀ i (hi : i < ps.length), fallB net (insideL l ps[i].f ps[i].t) ps[i].ranks = true) : partsB net l ps = true := by
  unfold partsB; rw [List.all_eq_true]
  intro p hp
  obtain ⟨i, hi, rfl⟩ := List.mem_iff_getElem.1 hp
  exact h i hi
theorem partsB_no {net : List (List RuleT)} {l : List Nat} {ps : List PartT} {i : Nat} (hi : i < ps.length) (h : fallB net (insideL l ps[i].f ps[i].t) ps[i].ranks = false) : partsB net l ps = false := by
  cases hf : partsB net l ps with
  | false => rfl
  | true =>
    unfold partsB at hf
    rw [List.all_eq_true] at hf
    rw [hf _ (List.getElem_mem hi)] at h
    cases h
theorem inside_lt {l : List Nat} {lo hi : Nat} (h : ∀ a ∈ l, a < 4294967296) (hlo : lo < 4294967296) : ∀ a ∈ insideL l lo hi, a < 4294967296 := by
  intro a ha
  unfold insideL at ha
  rcases List.mem_cons.1 ha with rfl | ha
  · exact hlo
  · exact h a (List.mem_filter.1 ha).1
theorem inside_few {l : List Nat} {lo hi : Nat} (h : l.length ≤ 900000) : (insideL l lo hi).length ≤ 1000000 := by
  unfold insideL
  have := List.length_filter_le (fun a => decide (lo < a ∧ a ≤ hi)) l
  simp at this ⊢
  omega

set_option maxRecDepth 100000 in
set_option maxHeartbeats 2000000 in
theorem parts_any (N A : Option Addr) (cN cA : Nat) (net : List (List RuleT)) (l : List Nat) (ps : List PartT) (w : World) (hc : CutsOf net l) (hN : NetAt w N net) (h : NetOk net) (hA : PartsAt w A ps) (hl : l.length ≤ 900000) (hb : ∀ a ∈ l, a < 4294967296) (hm : PartsOk net.length ps) :
    Calls Tryz.prog 25 #[.agg #[.slice N net.length cN], .slice A ps.length cA] w (FallPost (partsB net l ps) w) := by
  have hnn := h.nodes
  have hpsl := hm.meets.few
  obtain ⟨fb, hfb⟩ : ∃ fb, fb = partsB net l ps := ⟨_, rfl⟩
  rw [← hfb]
  have hb0 : Below w.heap.size w (w.alloc (.cells #[.slice N net.length cN] 24)) := (Below.refl _ _).alloc (Nat.le_refl _) _
  have hal := all_any N A cN cA net l ps _ hc (hN.below hb0) (hA.below hb0) (by omega) hb hm.meets
  have hst := fun W (hW : Below w.heap.size w W) => steps_any N cN net W (hN.below hW)
  have hpl : (pointsL l ps).length = ps.length := by simp [pointsL]
  rw [show AllPost (w.alloc (.cells #[.slice N net.length cN] 24)) (pointsL l ps) = fun e w' => ∃ R m, e = .returned (.tuple #[.slice R ps.length m, .int .i64 0]) ∧ RowsAt w' R (pointsL l ps) ∧ Below (w.alloc (.cells #[.slice N net.length cN] 24)).heap.size (w.alloc (.cells #[.slice N net.length cN] 24)) w' by unfold AllPost; rw [hpl]] at hal
  have HFB := Lib.hid hfb
  have HB0 := Lib.hid hb0
  have HAL := Lib.hid hal
  have HST := Lib.hid hst
  have HPL := Lib.hid hpl
  have H := Lib.hid h
  have HM := Lib.hid hm
  have HB := Lib.hid hb
  have HA := Lib.hid hA
  clear hfb hb0 hal hst hpl h hm hb hA hN hc
  go_enter Tryz.func25, Tryz.ntmps25
  go_wp2_with fail
  refine (HAL.out).mono ?_
  rintro e w2 ⟨R, m, rfl, hR, hb2⟩
  have hx := box_cell w w2 24 #[.slice N net.length cN] hb2 0 _ rfl
  have hb2w := HB0.out.trans (hb2.mono HB0.out.size)
  have HB2 := Lib.hid hb2w
  clear hb2 hb2w HAL HB0
  go_wp2_with fail
  refine (HST.out _ HB2.out).mono ?_
  rintro e w3 ⟨f, rfl, hf, hb3⟩
  have hR3 := hR.below hb3
  have hb3w := HB2.out.trans (hb3.mono HB2.out.size)
  have hbx : Below w3.heap.size w3 (w3.alloc (.cells #[.int .i64 (net.length : Int), f] 123)) := (Below.refl _ _).alloc (Nat.le_refl _) _
  obtain ⟨g, Nf, cf, rfl, hg, hgc, hNf⟩ := hf
  have hf : StepFn w3 (.func (.func 101) #[] #[.pointer (some ⟨g, 0, none⟩)]) net := ⟨g, Nf, cf, rfl, hg, hgc, hNf⟩
  have hx0 : (w3.alloc (.cells #[.int .i64 (net.length : Int), .func (.func 101) #[] #[.pointer (some ⟨g, 0, none⟩)]] 123)).cell? ⟨w3.heap.size, 0, none⟩ = some (.int .i64 (net.length : Int)) := by rw [cell_of_row _ _ 0 _ _ (0, 0) (heap_alloc_new w3 _)]; rfl
  have hx1 : (w3.alloc (.cells #[.int .i64 (net.length : Int), .func (.func 101) #[] #[.pointer (some ⟨g, 0, none⟩)]] 123)).cell? ⟨w3.heap.size, 1, none⟩ = some (.func (.func 101) #[] #[.pointer (some ⟨g, 0, none⟩)]) := by rw [cell_of_row _ _ 1 _ _ (0, 0) (heap_alloc_new w3 _)]; rfl
  have hR4 := hR3.below hbx
  have hf4 := hf.below hbx
  have hb4 := hb3w.trans (hbx.mono hb3w.size)
  have hgx : w3.heap.size < (w3.alloc (.cells #[.int .i64 (net.length : Int), .func (.func 101) #[] #[.pointer (some ⟨g, 0, none⟩)]] 123)).heap.size := by simp
  obtain ⟨w4, hw4⟩ : ∃ w4, w4 = w3.alloc (.cells #[.int .i64 (net.length : Int), .func (.func 101) #[] #[.pointer (some ⟨g, 0, none⟩)]] 123) := ⟨_, rfl⟩
  rw [← hw4] at hx0 hx1 hR4 hf4 hb4 hgx
  have HW4 := Lib.hid hw4
  have HF4 := Lib.hid hf4
  have HR4 := Lib.hid hR4
  have HB4 := Lib.hid hb4
  have HX0 := Lib.hid hx0
  have HX1 := Lib.hid hx1
  clear hb3 hb3w hbx hg hgc hNf hf hR hR3 hw4 hf4 hR4 hb4 hx0 hx1 HB2 HST
  go_wp2_with fail
  rw [← HW4.out]
  go_loopw [24] (fun i wr => ∃ k : Nat, k ≤ ps.length ∧ i = .int .i64 k ∧ Hid (∀ j (hj : j < ps.length), j < k → fallB net (insideL l ps[j].f ps[j].t) ps[j].ranks = true) ∧ Below w4.heap.size w4 wr) (fun i _ => ps.length - (intOf i).toNat)
  case atStart => exact ⟨0, by omega, rfl, Lib.hid (fun j hj h => absurd h (by omega)), Below.refl _ _⟩
  case round =>
    obtain ⟨k, hk, rfl, HALL, hbr⟩ := hrel
    have hbrw := HB4.out.trans (hbr.mono HB4.out.size)
    by_cases hlt : k < ps.length
    · obtain ⟨b, off, Rr, cR, hAe, hbb, hc0, hc1, hc2, hr, -⟩ := HA.out.at_ hlt
      have hk0 := (hbrw.cell (p := ⟨b, off + k * 3, none⟩) hbb).trans hc0
      have hk1 := (hbrw.cell (p := ⟨b, off + k * 3 + 1, none⟩) hbb).trans hc1
      have hk2 := (hbrw.cell (p := ⟨b, off + k * 3 + 2, none⟩) hbb).trans hc2
      have hy0 := (hbr.cell (p := ⟨w3.heap.size, 0, none⟩) hgx).trans HX0.out
      have hy1 := (hbr.cell (p := ⟨w3.heap.size, 1, none⟩) hgx).trans HX1.out
      obtain ⟨bR, oR, Bp, cp, hRe, hbR, hcR, hlp⟩ := (HR4.out.below hbr).at_ (show k < (pointsL l ps).length by rw [HPL.out]; exact hlt)
      have hmem := List.getElem_mem hlt
      have hpe : (pointsL l ps)[k]'(by rw [HPL.out]; exact hlt) = insideL l ps[k].f ps[k].t := by simp [pointsL]
      simp only [hpe] at hcR hlp
      have hnum := HM.out.meets.num _ hmem
      have hlen := HM.out.len _ hmem
      obtain ⟨p, hp⟩ : ∃ p, p = ps[k] := ⟨_, rfl⟩
      have hfin : ∀ r, fallB net (insideL l p.f p.t) p.ranks = r → (r = true → ∀ j (hj : j < ps.length), j < k + 1 → fallB net (insideL l ps[j].f ps[j].t) ps[j].ranks = true) ∧ (r = false → fb = false) := fun r hq => by
        refine ⟨fun h j hj hjk => ?_, fun h => ?_⟩
        · by_cases e : j = k
          · subst e; rw [← hp, hq, h]
          · exact HALL.out j hj (by omega)
        · rw [HFB.out]; exact partsB_no hlt (by rw [← hp, hq, h])
      rw [← hp] at hk0 hk1 hk2 hcR hlp hnum hlen hr
      have hfa := fun W (hW : Below wr.heap.size wr W) => fall_any (.func (.func 101) #[] #[.pointer (some ⟨g, 0, none⟩)]) Bp Rr cp cR net (insideL l p.f p.t) p.ranks W ((HF4.out.below hbr).below hW) H.out (hlp.below hW) ((hr.below hbrw).below hW) hlen (inside_lt HB.out hnum.1) (inside_few hl)
      rw [hlen] at hk2 hfa
      obtain ⟨L, hL⟩ : ∃ L, L = (insideL l p.f p.t).length := ⟨_, rfl⟩
      rw [← hL] at hcR hfa
      obtain ⟨r, hr0⟩ : ∃ r, r = fallB net (insideL l p.f p.t) p.ranks := ⟨_, rfl⟩
      obtain ⟨hyes, hno⟩ := hfin r hr0.symm
      rw [← hr0] at hfa
      have HFA := Lib.hid hfa
      have HYES := Lib.hid hyes
      have HNO := Lib.hid hno
      have t1 : ((net.length : Int) != (net.length : Int)) = false := by simp
      have hbw3 : w3.heap.size < wr.heap.size := Nat.lt_of_lt_of_le hgx hbr.size
      have hbwb : b < wr.heap.size := Nat.lt_of_lt_of_le hbb hbrw.size
      have HBR := Lib.hid hbr
      have i0 : (0 : Int) ≤ (k : Int) := by omega
      have i1 : (k : Int) < (ps.length : Int) := by omega
      clear hc0 hc1 hc2 hr hlp hnum hlen hmem hpe hp hfin hL hr0 hyes hno hbr hbrw hfa
      subst hAe hRe
      obtain ⟨w5, hw5⟩ : ∃ w5, w5 = wr.alloc (.cells #[.int .u32 (p.f : Int), .int .u32 (p.t : Int), .slice Rr net.length cR] 51) := ⟨_, rfl⟩
      have hal5 : Below wr.heap.size wr w5 := by rw [hw5]; exact (Below.refl _ _).alloc (Nat.le_refl _) _
      have hz2 : w5.cell? ⟨wr.heap.size, 2, none⟩ = some (.slice Rr net.length cR) := by rw [hw5, cell_of_row _ _ 2 _ _ (0, 0) (heap_alloc_new wr _)]; rfl
      have hz0 := (hal5.cell (p := ⟨w3.heap.size, 0, none⟩) hbw3).trans hy0
      have hz1 := (hal5.cell (p := ⟨w3.heap.size, 1, none⟩) hbw3).trans hy1
      have hzR := (hal5.cell (p := ⟨bR, oR + k, none⟩) hbR).trans hcR
      have HW5 := Lib.hid hw5
      have HAL5 := Lib.hid hal5
      clear hw5 hal5
      go_wp2_with fail
      rw [← HW5.out]
      clear hk0 hk1 hk2 hy0 hy1 hcR
      go_still_tail 7, (by kernel_rfl)
      change wpList _ _ _ _ _ w5.drew
      have hd : Below wr.heap.size wr w5.drew := ⟨HAL5.out.os, HAL5.out.tape, HAL5.out.output, HAL5.out.size, HAL5.out.block⟩
      have HD := Lib.hid hd
      clear hz0 hz1 hz2 hzR hd
      generalize w5.drew = w6 at *
      go_wp2_with fail
      refine (HFA.out _ HD.out).mono ?_
      rintro e w7 ⟨rfl, hb7⟩
      have hb7r := HD.out.trans (hb7.mono HD.out.size)
      have hb7w := HBR.out.trans (hb7r.mono HBR.out.size)
      have HB7 := Lib.hid hb7w
      clear hb7 hb7r hb7w
      cases r with
      | true =>
        have hy := HYES.out rfl
        have HY := Lib.hid hy
        clear hy
        simp only [if_true]
        go_wp2_with fail
        refine ⟨⟨k + 1, by omega, by go_num, Lib.hid HY.out, HB7.out⟩, by simp [intOf]; omega⟩
      | false =>
        have hn := HNO.out rfl
        have HN := Lib.hid hn
        clear hn
        simp only [Bool.false_eq_true, if_false]
        go_wp2_with fail
        go_ret
        exact ⟨by rw [HN.out]; rfl, HB4.out.trans (HB7.out.mono HB4.out.size)⟩
    · have hyes : partsB net l ps = true := partsB_of (fun j hj => HALL.out j hj (by omega))
      rw [← HFB.out] at hyes
      have HYES := Lib.hid hyes
      clear hyes
      go_wp2_with fail
      go_ret
      exact ⟨by rw [HYES.out]; rfl, hbrw⟩
end Go.Proofs.YtpjoefekhgmlhaaGreat.Tp
