/- CONTRACT: who steps to each node (graph.back). Conditions: the vector may be, and has 256 numbers at most. · CONTRACTS of the queue: room is made, what is put waits behind all others, what is taken was the first, how many wait. Conditions: the queue is one that was made so. -/
import Derived.Test.YtpjoefekhgmlhaaGreatMb03
import Derived.ArgAppend
import Derived.Laws.IdiomCopy
import Derived.Test.YtpjoefekhgmlhaaGreatChecked
import Derived.WalkKit
import Derived.Conc.LoneCalls
import Derived.Conc.LoneSelect
import Derived.Conc.LoneSelectN
import Derived.KernelRfl
import Derived.Laws.Rows
import Derived.Lib.Hide
import Derived.Outline
namespace Go.Proofs.YtpjoefekhgmlhaaGreat.Gr
open Go.RowKit Mem

theorem slice_info : (Tryz.prog.info? 29).map (fun i => (i.zero, i.size, i.bytes)) = some (some (.slice none 0 0), 1, 24) := by kernel_rfl
/-- How many of the first k nodes step to each node. -/
def cntL (v : List Int) (k : Nat) : List Nat := (List.range v.length).map fun x => (predsTo v x k).length
theorem cntL_len (v : List Int) (k : Nat) : (cntL v k).length = v.length := by simp [cntL]
theorem cntL_at {v : List Int} {k x : Nat} (hx : x < v.length) : lab (cntL v k) x = (predsTo v x k).length := by
  rw [lab_at (by rw [cntL_len]; exact hx)]; simp [cntL]
theorem cntL_zero (v : List Int) : cntL v 0 = List.replicate v.length 0 := by
  unfold cntL
  apply List.ext_getElem
  · simp
  · intro i h1 h2; simp [predsTo]
theorem cntL_miss {v : List Int} {k : Nat} (h : nxt v k = none) : cntL v (k + 1) = cntL v k := by
  unfold cntL
  apply List.map_congr_left
  intro x _
  rw [predsTo_miss (by rw [h]; simp)]
theorem cntL_hit {v : List Int} {k y : Nat} (h : nxt v k = some y) (hy : y < v.length) : cntL v (k + 1) = (cntL v k).set y (lab (cntL v k) y + 1) := by
  apply List.ext_getElem
  · simp [cntL_len]
  · intro i h1 h2
    rw [List.getElem_set]
    have hi : i < v.length := by rw [cntL_len] at h1; exact h1
    by_cases e : y = i
    · subst e
      rw [if_pos rfl, cntL_at hy]
      simp [cntL, predsTo_hit h]
    · rw [if_neg e]
      simp [cntL, predsTo_miss (v := v) (x := i) (k := k) (by rw [h]; intro e'; injection e' with e'; exact e e')]

/-- The row of slices: of each node below k where its part begins, and how much room it has; so many places are taken. -/
def Parts (w : World) (v : List Int) (g1 g2 m k : Nat) : Prop :=
  ∃ fs : Array Value, w.heap[g2]? = some (.cells fs 29 (0, 0)) ∧ fs.size = v.length ∧
    ∀ x, x < m → ∃ o, fs[x]? = some (.slice (some ⟨g1, o, none⟩) (predsTo v x k).length (preds v x).length) ∧ (0 < (preds v x).length → o = off v x)
/-- The parts' own places. -/
def Filled (v : List Int) (al : List Nat) (k : Nat) : Prop := al.length = v.length ∧ ∀ (x i u : Nat), x < v.length → (predsTo v x k)[i]? = some u → lab al (off v x + i) = u

theorem Parts.cell {w : World} {v : List Int} {g1 g2 m k x : Nat} (h : Parts w v g1 g2 m k) (hx : x < m) : ∃ o, w.cell? ⟨g2, x, none⟩ = some (.slice (some ⟨g1, o, none⟩) (predsTo v x k).length (preds v x).length) ∧ (0 < (preds v x).length → o = off v x) := by
  obtain ⟨fs, h1, _, h3⟩ := h
  obtain ⟨o, ho, hoo⟩ := h3 x hx
  exact ⟨o, by rw [cell_of_row w g2 x fs _ (0, 0) h1]; exact ho, hoo⟩
theorem Parts.any {w : World} {v : List Int} {g1 g2 m k x : Nat} (h : Parts w v g1 g2 m k) (hx : x < v.length) : ∃ u, w.cell? ⟨g2, x, none⟩ = some u := by
  obtain ⟨fs, h1, h2, _⟩ := h
  exact ⟨fs[x], by rw [cell_of_row w g2 x fs _ (0, 0) h1]; exact Array.getElem?_eq_getElem (by omega)⟩
theorem Parts.free {w : World} {v : List Int} {g1 g2 m k : Nat} (h : Parts w v g1 g2 m k) (x : Nat) : w.frozen? ⟨g2, x, none⟩ = false := by
  obtain ⟨fs, h1, _⟩ := h
  exact frozen_of_row w g2 x fs _ h1
theorem Parts.keep {w w' : World} {v : List Int} {g1 g2 m k : Nat} (h : Parts w v g1 g2 m k) (hk : w'.heap[g2]? = w.heap[g2]?) : Parts w' v g1 g2 m k := by
  obtain ⟨fs, h1, h2⟩ := h
  exact ⟨fs, hk.trans h1, h2⟩

theorem Parts.lay {w : World} {v : List Int} {g1 g2 k q at0 : Nat} (h : Parts w v g1 g2 k 0) (hk : k < v.length) (hq : q = (preds v k).length) (ha : at0 = off v k) :
    Parts (w.setCell ⟨g2, k, none⟩ (.slice (if q = 0 then some ⟨g1, 0, none⟩ else some ⟨g1, at0, none⟩) 0 q)) v g1 g2 (k + 1) 0 := by
  obtain ⟨fs, h1, h2, h3⟩ := h
  refine ⟨_, heap_setCell_same w g2 k fs _ _ h1, by simpa using h2, fun x hx => ?_⟩
  rw [Array.getElem?_setIfInBounds]
  by_cases e : k = x
  · subst e
    rw [if_pos rfl, if_pos (by omega)]
    by_cases hq0 : q = 0
    · exact ⟨0, by rw [if_pos hq0, hq]; rfl, fun h => by omega⟩
    · exact ⟨at0, by rw [if_neg hq0, hq]; rfl, fun _ => ha⟩
  · rw [if_neg e]
    exact h3 x (by omega)
theorem Row.far {w : World} {g : Nat} {ls : List Nat} (h : Row w g ls) {p : Addr} (hp : g ≠ p.block) (u : Value) : Row (w.setCell p u) g ls := (heap_setCell_other w p g u hp).trans h

theorem Filled.start (v : List Int) : Filled v (List.replicate v.length 0) 0 := ⟨by simp, fun x i u _ h => by simp [predsTo] at h⟩
theorem Filled.miss {v : List Int} {al : List Nat} {k : Nat} (h : Filled v al k) (hn : nxt v k = none) : Filled v al (k + 1) :=
  ⟨h.1, fun x i u hx hi => h.2 x i u hx (by rw [predsTo_miss (by rw [hn]; simp)] at hi; exact hi)⟩
theorem room_for {v : List Int} {k z : Nat} (hk : k < v.length) (hn : nxt v k = some z) : (predsTo v z k).length < (preds v z).length := by
  have h1 := predsTo_le (v := v) (x := z) (show k + 1 ≤ v.length by omega)
  rw [predsTo_hit hn, List.length_append] at h1
  unfold preds
  simp at h1
  omega
theorem Filled.step {v : List Int} {al : List Nat} {k z : Nat} (h : Filled v al k) (hk : k < v.length) (hn : nxt v k = some z) : Filled v (al.set (off v z + (predsTo v z k).length) k) (k + 1) := by
  have hr := room_for hk hn
  have he := off_end v z
  have hlt : off v z + (predsTo v z k).length < al.length := by rw [h.1]; omega
  refine ⟨by simpa using h.1, fun x i u hx hi => ?_⟩
  rw [lab_set hlt]
  by_cases e : x = z
  · subst e
    rw [predsTo_hit hn] at hi
    by_cases him : i < (predsTo v x k).length
    · rw [if_neg (by omega)]
      rw [List.getElem?_append_left him] at hi
      exact h.2 x i u hx hi
    · have hi' := (List.getElem?_eq_some_iff.1 hi).1
      simp at hi'
      have ei : i = (predsTo v x k).length := by omega
      subst ei
      rw [if_pos rfl]
      simpa using hi
  · rw [predsTo_miss (by rw [hn]; intro e'; injection e' with e'; exact e e'.symm)] at hi
    have hi' := (List.getElem?_eq_some_iff.1 hi).1
    have hi2 := predsTo_le (v := v) (x := x) (show k ≤ v.length by omega)
    rw [if_neg (fun e' => e (off_apart (show i < (preds v x).length from Nat.lt_of_lt_of_le hi' hi2) hr e'))]
    exact h.2 x i u hx hi
theorem Parts.miss {w : World} {v : List Int} {g1 g2 m k : Nat} (h : Parts w v g1 g2 m k) (hn : nxt v k = none) : Parts w v g1 g2 m (k + 1) := by
  obtain ⟨fs, h1, h2, h3⟩ := h
  refine ⟨fs, h1, h2, fun x hx => ?_⟩
  rw [predsTo_miss (by rw [hn]; simp)]
  exact h3 x hx
theorem Parts.step {w : World} {v : List Int} {g1 g2 k z o : Nat} (h : Parts w v g1 g2 v.length k) (hz : z < v.length) (hn : nxt v k = some z) (ho : o = off v z) :
    Parts (w.setCell ⟨g2, z, none⟩ (.slice (some ⟨g1, o, none⟩) ((predsTo v z k).length + 1) (preds v z).length)) v g1 g2 v.length (k + 1) := by
  obtain ⟨fs, h1, h2, h3⟩ := h
  refine ⟨_, heap_setCell_same w g2 z fs _ _ h1, by simpa using h2, fun x hx => ?_⟩
  rw [Array.getElem?_setIfInBounds]
  by_cases e : z = x
  · subst e
    rw [if_pos rfl, if_pos (by omega), predsTo_hit hn, List.length_append]
    exact ⟨o, rfl, fun _ => ho⟩
  · rw [if_neg e, predsTo_miss (by rw [hn]; intro e'; injection e' with e'; exact e e')]
    exact h3 x hx

/-- What is handed back: of each node a slice that reads as those that step to it; all in new memory. -/
def BackPost (v : List Int) (w : World) (e : Ending) (w' : World) : Prop := ∃ g : Nat, e = .returned (.slice (some ⟨g, 0, none⟩) v.length v.length) ∧ w.heap.size ≤ g ∧ Below w.heap.size w w' ∧
  ∀ x, x < v.length → ∃ b o c, w'.cell? ⟨g, x, none⟩ = some (.slice (some ⟨b, o, none⟩) (preds v x).length c) ∧ w.heap.size ≤ b ∧ ∀ (i u : Nat), (preds v x)[i]? = some u → w'.cell? ⟨b, o + i, none⟩ = some (.int .i64 (u : Int))

set_option maxRecDepth 100000 in
set_option maxHeartbeats 2000000 in
theorem back_any (A : Option Addr) (c : Nat) (v : List Int) (w : World) (hA : Lies w A (ints v)) (hl : v.length ≤ 256) (hg : goodB v = true) :
    Calls Tryz.prog 93 #[.slice A v.length c] w (BackPost v w) := by
  have HG := Lib.hid hg
  have hmk := run_make_row' (P := Tryz.prog) 29 3 (.int .i64 0) 8 Tryz.underlying29 int_info rfl .i64 .i64 v.length (by omega) (by omega)
  have hmk2 := run_make_row' (P := Tryz.prog) 56 29 (.slice none 0 0) 24 Tryz.underlying56 slice_info rfl .i64 .i64 v.length (by omega) (by omega)
  clear hg
  go_enter Tryz.func93, Tryz.ntmps93
  go_wp2_with fail
  have hrow0 := Row.made w v.length
  rw [← cntL_zero] at hrow0
  have hb0 : Below w.heap.size w (w.alloc (.cells (madeCells #[.int .i64 0] v.length) 3)) := (Below.refl _ w).alloc (Nat.le_refl _) _
  go_loopw [18] (fun i wr => ∃ k : Nat, k ≤ v.length ∧ i = .int .i64 k ∧ Row wr w.heap.size (cntL v k) ∧ Below w.heap.size w wr) (fun i _ => v.length - (intOf i).toNat)
  case atStart => exact ⟨0, by omega, rfl, hrow0, hb0⟩
  case round =>
    obtain ⟨k, hk, rfl, hR, hbr⟩ := hrel
    by_cases hlt : k < v.length
    · obtain ⟨b, off, rfl, hb, hcell0⟩ := hA.at_map hlt
      have hcell := (hbr.cell (p := ⟨b, off + k, none⟩) hb).trans hcell0
      have hgy := good_at HG.out hlt
      obtain ⟨x, hx⟩ : ∃ x, x = v[k] := ⟨_, rfl⟩
      rw [← hx] at hcell hgy
      obtain ⟨hx1, hx2⟩ := hgy
      have HX := Lib.hid hx
      clear hx hcell0
      by_cases hneg : x = -1
      · have tn : (x != -1) = false := by simp [hneg]
        have hn : cntL v (k + 1) = cntL v k := cntL_miss (nxt_of_neg hlt (by rw [← HX.out, hneg]; decide))
        have HN := Lib.hid hn
        have HNEG := Lib.hid hneg
        clear hn hneg
        go_wp2_with fail
        refine ⟨⟨k + 1, by omega, by go_num, by rw [HN.out]; exact hR, hbr⟩, by simp [intOf]; omega⟩
      · have tn : (x != -1) = true := by simp [hneg]
        have hx0 : 0 ≤ x := by omega
        obtain ⟨z, rfl⟩ := Int.eq_ofNat_of_zero_le hx0
        have hzl : z < v.length := by omega
        have hn : cntL v (k + 1) = (cntL v k).set z (lab (cntL v k) z + 1) := cntL_hit (by rw [nxt_of_nonneg hlt (by rw [← HX.out]; omega), ← HX.out]; simp) hzl
        have hcz := hR.cell (x := z) (by rw [cntL_len]; exact hzl)
        have hfz := hR.free z
        have hset := hR.set_ z (lab (cntL v k) z + 1)
        have hqb : lab (cntL v k) z ≤ 256 := by
          rw [cntL_at hzl]
          exact Nat.le_trans (List.length_filter_le _ _) (by simp; omega)
        rw [← hn] at hset
        have HN := Lib.hid hn
        have HNEG := Lib.hid hneg
        clear hn hneg
        generalize lab (cntL v k) z = q at *
        have ek : ((q + 1 : Nat) : Int) = (q : Int) + 1 := by omega
        rw [ek] at hset
        clear ek
        go_wp2_with fail
        refine ⟨⟨k + 1, by omega, by go_num, hset, hbr.setCell (Nat.le_refl _) _⟩, by simp [intOf]; omega⟩
    · have ek : k = v.length := by omega
      rw [ek] at hR
      clear hrow0 hb0 ek
      obtain ⟨wa, rfl⟩ : ∃ wa : World, wa = wr := ⟨_, rfl⟩
      go_wp2_with fail
      have hR0 : Row ((wa.alloc (.cells (madeCells #[.int .i64 0] v.length) 3)).alloc (.cells (madeCells #[.slice none 0 0] v.length) 29)) w.heap.size (cntL v v.length) := by
        have := hR.lt
        exact (hR.below ((Below.refl _ wa).alloc (Nat.le_refl _) _) this).below ((Below.refl _ _).alloc (Nat.le_refl _) _) (by simp; omega)
      have hR1 : Row ((wa.alloc (.cells (madeCells #[.int .i64 0] v.length) 3)).alloc (.cells (madeCells #[.slice none 0 0] v.length) 29)) wa.heap.size (List.replicate v.length 0) :=
        (Row.made wa v.length).below ((Below.refl _ _).alloc (Nat.le_refl _) _) (by simp)
      have hP0 : Parts ((wa.alloc (.cells (madeCells #[.int .i64 0] v.length) 3)).alloc (.cells (madeCells #[.slice none 0 0] v.length) 29)) v wa.heap.size (wa.heap.size + 1) 0 0 :=
        ⟨_, by simpa only [World.size_alloc] using heap_alloc_new (wa.alloc (.cells (madeCells #[.int .i64 0] v.length) 3)) (.cells (madeCells #[.slice none 0 0] v.length) 29), by simp [madeCells], fun x hx => absurd hx (by omega)⟩
      have hb2 : Below w.heap.size w ((wa.alloc (.cells (madeCells #[.int .i64 0] v.length) 3)).alloc (.cells (madeCells #[.slice none 0 0] v.length) 29)) := (hbr.alloc hbr.size _).alloc (by have := hbr.size; simp; omega) _
      have hg0 : w.heap.size < wa.heap.size := hR.lt
      clear hR hbr hmk hmk2
      go_loopw [8, 39] (fun a i wr => ∃ k : Nat, k ≤ v.length ∧ i = .int .i64 k ∧ a = .int .i64 ((off v k : Nat) : Int) ∧ Row wr w.heap.size (cntL v v.length) ∧ Row wr wa.heap.size (List.replicate v.length 0) ∧ Parts wr v wa.heap.size (wa.heap.size + 1) k 0 ∧ Below w.heap.size w wr) (fun _ i _ => v.length - (intOf i).toNat)
      case atStart => exact ⟨0, by omega, rfl, by rw [off_zero]; rfl, hR0, hR1, hP0, hb2⟩
      case round =>
        obtain ⟨k, hk, rfl, rfl, hR0, hR1, hP, hbr⟩ := hrel
        by_cases hlt : k < v.length
        · have hcz := hR0.cell (x := k) (by rw [cntL_len]; exact hlt)
          rw [cntL_at hlt] at hcz
          have hcz' : wr.cell? ⟨w.heap.size, k, none⟩ = some (.int .i64 (((preds v k).length : Nat) : Int)) := hcz
          have hoe := off_end v k
          have hos := off_succ v k
          obtain ⟨u0, hu0⟩ := hP.any hlt
          have hf0 := hP.free k
          obtain ⟨q, hq⟩ : ∃ q, q = (preds v k).length := ⟨_, rfl⟩
          obtain ⟨at0, hat⟩ : ∃ at0, at0 = off v k := ⟨_, rfl⟩
          rw [← hq] at hcz' hoe hos
          rw [← hat] at hoe hos ⊢
          have HQ := Lib.hid hq
          have HAT := Lib.hid hat
          have HOS := Lib.hid hos
          clear hq hat hos hcz
          have hP2 := hP.lay hlt HQ.out HAT.out
          have HP2 := Lib.hid hP2
          have hbs := fun u => hbr.setCell (p := ⟨wa.heap.size + 1, k, none⟩) (by show w.heap.size ≤ wa.heap.size + 1; omega) u
          have HBS := Lib.hid hbs
          clear hP2 hbs
          go_wp2_with fail
          refine ⟨⟨k + 1, by omega, by go_num, by rw [HOS.out]; go_num, hR0.far (by show w.heap.size ≠ wa.heap.size + 1; omega) _, hR1.far (by show wa.heap.size ≠ wa.heap.size + 1; omega) _, HP2.out, HBS.out _⟩, by simp [intOf]; omega⟩
        · have ek : k = v.length := by omega
          rw [ek] at hP
          clear hR0 hb2 ek
          obtain ⟨wb, rfl⟩ : ∃ wb : World, wb = wr := ⟨_, rfl⟩
          go_wp2_with fail
          obtain ⟨i0, hi, hz0, hz1, hz2⟩ := info_parts int_info
          go_loopw [60] (fun i wr => ∃ (k : Nat) (al : List Nat), k ≤ v.length ∧ i = .int .i64 k ∧ Row wr wa.heap.size al ∧ Filled v al k ∧ Parts wr v wa.heap.size (wa.heap.size + 1) v.length k ∧ Below w.heap.size w wr) (fun i _ => v.length - (intOf i).toNat)
          case atStart => exact ⟨0, _, by omega, rfl, hR1, Filled.start v, hP, hbr⟩
          case round =>
            obtain ⟨k, al, hk, rfl, hRr, hF, hPr, hbk⟩ := hrel
            by_cases hlt3 : k < v.length
            · obtain ⟨b, off0, rfl, hb, hcell0⟩ := hA.at_map hlt3
              have hcell := (hbk.cell (p := ⟨b, off0 + k, none⟩) hb).trans hcell0
              have hgy := good_at HG.out hlt3
              obtain ⟨x, hx⟩ : ∃ x, x = v[k] := ⟨_, rfl⟩
              rw [← hx] at hcell hgy
              obtain ⟨hx1, hx2⟩ := hgy
              have HX := Lib.hid hx
              clear hx hcell0
              by_cases hneg : x = -1
              · have tn : (x != -1) = false := by simp [hneg]
                have hn : nxt v k = none := nxt_of_neg hlt3 (by rw [← HX.out, hneg]; decide)
                have HN := Lib.hid hn
                have HNEG := Lib.hid hneg
                clear hn hneg
                go_wp2_with fail
                refine ⟨⟨k + 1, al, by omega, by go_num, hRr, hF.miss HN.out, hPr.miss HN.out, hbk⟩, by simp [intOf]; omega⟩
              · have tn : (x != -1) = true := by simp [hneg]
                have hx0 : 0 ≤ x := by omega
                obtain ⟨z, rfl⟩ := Int.eq_ofNat_of_zero_le hx0
                have hzl : z < v.length := by omega
                have hn : nxt v k = some z := by rw [nxt_of_nonneg hlt3 (by rw [← HX.out]; omega), ← HX.out]; simp
                have hroom := room_for hlt3 hn
                have hoe := off_end v z
                obtain ⟨o, hpc, hoo⟩ := hPr.cell hzl
                have ho := hoo (by omega)
                have hFs := hF.step hlt3 hn
                have hold : ∀ j u, (ints (nats (predsTo v z k)))[j]? = some u → (wr.alloc (.cells #[.int .i64 (k : Int)] 3)).cell? ⟨wa.heap.size, o + j, none⟩ = some u := fun j u hu => by
                  rw [ints, nats, List.map_map, List.getElem?_map] at hu
                  obtain ⟨y, hy, rfl⟩ := Option.map_eq_some_iff.1 hu
                  have h1 := hF.2 z j y hzl hy
                  have h2 := (List.getElem?_eq_some_iff.1 hy).1
                  have h3 : o + j < al.length := by rw [hF.1]; omega
                  rw [World.cell?_alloc_lt wr _ _ (by exact hRr.lt), hRr.cell h3, ho, h1]; rfl
                have hnew : ∀ j u, [Value.int .i64 (k : Int)][j]? = some u → (wr.alloc (.cells #[.int .i64 (k : Int)] 3)).cell? ((⟨wr.heap.size, 0, none⟩ : Addr).add j) = some u := fun j u hu => by
                  rw [add_plain, cell_of_row _ _ (0 + j) #[.int .i64 (k : Int)] 3 (0, 0) (heap_alloc_new wr _), Nat.zero_add]
                  simpa using hu
                have hRa : Row (wr.alloc (.cells #[.int .i64 (k : Int)] 3)) wa.heap.size al := hRr.below ((Below.refl _ wr).alloc (Nat.le_refl _) _) hRr.lt
                have hsp : ∀ j, j < [Value.int .i64 (k : Int)].length → ((wr.alloc (.cells #[.int .i64 (k : Int)] 3)).cell? ⟨wa.heap.size, o + (predsTo v z k).length * 1 + j, none⟩).isSome = true ∧ (wr.alloc (.cells #[.int .i64 (k : Int)] 3)).frozen? ⟨wa.heap.size, o + (predsTo v z k).length * 1 + j, none⟩ = false := fun j hj => by
                  simp at hj
                  subst hj
                  refine ⟨?_, hRa.free _⟩
                  rw [hRa.cell (by rw [hF.1, ho]; omega)]; rfl
                have hRs := hRa.set_ (o + (predsTo v z k).length) k
                rw [ho] at hRs
                have hPlt : wa.heap.size + 1 < wr.heap.size := by
                  obtain ⟨fs, h1, _⟩ := hPr
                  rcases Nat.lt_or_ge (wa.heap.size + 1) wr.heap.size with h' | h'
                  · exact h'
                  · rw [Array.getElem?_eq_none h'] at h1; cases h1
                have hPa : Parts (wr.alloc (.cells #[.int .i64 (k : Int)] 3)) v wa.heap.size (wa.heap.size + 1) v.length k := hPr.keep (Below.heap_alloc wr _ _ hPlt)
                have hPs : Parts ((wr.alloc (.cells #[.int .i64 (k : Int)] 3)).setCell ⟨wa.heap.size, off v z + (predsTo v z k).length, none⟩ (.int .i64 (k : Int))) v wa.heap.size (wa.heap.size + 1) v.length k :=
                  hPa.keep (heap_setCell_other _ ⟨wa.heap.size, off v z + (predsTo v z k).length, none⟩ (wa.heap.size + 1) _ (by show wa.heap.size + 1 ≠ wa.heap.size; omega))
                obtain ⟨u1, hu1⟩ := hPs.any hzl
                have hf1 := hPs.free z
                have hPt := hPs.step hzl hn ho
                have hRt := hRs.far (p := ⟨wa.heap.size + 1, z, none⟩) (by show wa.heap.size ≠ wa.heap.size + 1; omega) (.slice (some ⟨wa.heap.size, o, none⟩) ((predsTo v z k).length + 1) (preds v z).length)
                have hsz := hbk.size
                have hbt : Below w.heap.size w (((wr.alloc (.cells #[.int .i64 (k : Int)] 3)).setCell ⟨wa.heap.size, off v z + (predsTo v z k).length, none⟩ (.int .i64 (k : Int))).setCell ⟨wa.heap.size + 1, z, none⟩ (.slice (some ⟨wa.heap.size, o, none⟩) ((predsTo v z k).length + 1) (preds v z).length)) :=
                  ((hbk.alloc hsz _).setCell (by show w.heap.size ≤ wa.heap.size; omega) _).setCell (by show w.heap.size ≤ wa.heap.size + 1; omega) _
                have hml : (predsTo v z k).length ≤ 256 := by have := off_end v z; omega
                obtain ⟨m, hm⟩ : ∃ m, m = (predsTo v z k).length := ⟨_, rfl⟩
                obtain ⟨q, hq⟩ : ∃ q, q = (preds v z).length := ⟨_, rfl⟩
                have holen : (ints (nats (predsTo v z k))).length = m := by rw [hm]; simp [ints, nats]
                rw [← ho, ← hm] at hFs hRt hPt hbt hu1 hf1
                rw [← hm, ← hq] at hpc hroom
                rw [← hm] at hsp hml
                rw [← hq] at hPt hRt hbt
                have HRT := Lib.hid hRt
                have HPT := Lib.hid hPt
                have HFS := Lib.hid hFs
                have HBT := Lib.hid hbt
                have HM := Lib.hid hm
                have HO := Lib.hid ho
                have HOL := Lib.hid holen
                have HN := Lib.hid hn
                have HNEG := Lib.hid hneg
                have hq256 : q ≤ 256 := by omega
                clear hRs hPs hPa hRa hPt hRt hFs hbt hm hq ho hn hneg hoo holen hF hoe
                go_wp2_with (at_builtin; go_loud (refine wpList_append_arg _ rfl (.tmp 72) (.tmp 74) 29 rfl 3 i0 _ 1 8 Tryz.underlying29 hi hz0 hz1 hz2 rfl (by omega) wa.heap.size o m q (ints (nats (predsTo v z k))) rfl (by rw [HOL.out, Nat.mul_one]) hold ⟨wr.heap.size, 0, none⟩ 1 1 [.int .i64 (k : Int)] rfl rfl hnew (by intro u hu; simp at hu; subst hu; rfl) (fun _ => hsp) (by simp only [maxLen]; omega) (by omega) (fun _ => ?_) (fun h => absurd hroom (by omega))); rw [Nat.mul_one]; unfold World.setCells World.setCells)
                go_wp2_with fail
                refine ⟨⟨k + 1, al.set (o + m) k, by omega, by go_num, HRT.out, HFS.out, HPT.out, HBT.out⟩, by simp [intOf]; omega⟩
            · have ek : k = v.length := by omega
              subst ek
              have hfin : BackPost v w (.returned (.slice (some ⟨wa.heap.size + 1, 0, none⟩) v.length v.length)) wr := by
                have hsz := hbk.size
                refine ⟨wa.heap.size + 1, rfl, by omega, hbk, fun x hx => ?_⟩
                obtain ⟨o, h1, h2⟩ := hPr.cell hx
                refine ⟨wa.heap.size, o, _, h1, by omega, fun i u hu => ?_⟩
                have h3 := (List.getElem?_eq_some_iff.1 hu).1
                have h4 := hF.2 x i u hx hu
                have h5 := off_end v x
                rw [h2 (by omega), hRr.cell (by rw [hF.1]; omega), h4]
              have HFIN := Lib.hid hfin
              clear hfin hPr hRr hF hP hR1 hP0 hR0
              go_wp2_with fail
              go_ret
              exact HFIN.out
end Go.Proofs.YtpjoefekhgmlhaaGreat.Gr

namespace Go.Proofs.YtpjoefekhgmlhaaGreat.Q
open Go.Conc Go.RowKit

/-- Block q holds a queue: its channel is block c, of room cap, in which l lie, the first one first. -/
def QAt (w : World) (q c cap : Nat) (l : List Value) : Prop :=
  w.heap[q]? = some (.cells #[.chan (some c)] 207 (0, 0)) ∧ l.length ≤ cap ∧ ∃ s r, w.heap[c]? = some (.chan cap l.toArray false s r false)
/-- Nothing but block c has turned. -/
structure Only (c : Nat) (w w' : World) : Prop where
  os : w'.os = w.os
  tape : w'.tape = w.tape
  output : w'.output = w.output
  size : w'.heap.size = w.heap.size
  block : ∀ k, k ≠ c → w'.heap[k]? = w.heap[k]?
theorem Only.below {c B : Nat} {w w' : World} (h : Only c w w') (hB : B ≤ c) : Below B w w' := ⟨h.os, h.tape, h.output, by rw [h.size]; exact Nat.le_refl _, fun k hk => h.block k (by omega)⟩
theorem Only.refl (c : Nat) (w : World) : Only c w w := ⟨rfl, rfl, rfl, rfl, fun _ _ => rfl⟩
theorem Only.trans {c : Nat} {a b d : World} (h : Only c a b) (k : Only c b d) : Only c a d := ⟨k.os.trans h.os, k.tape.trans h.tape, k.output.trans h.output, k.size.trans h.size, fun i hi => (k.block i hi).trans (h.block i hi)⟩

theorem set_only (w : World) (c cap : Nat) (buf : Array Value) (s r : Nat) : Only c w (w.setChan c cap buf false s r false) :=
  ⟨rfl, rfl, rfl, by simp [World.setChan], fun k hk => by simp [World.setChan, Array.getElem?_setIfInBounds_ne (Ne.symm hk)]⟩
theorem QAt.lt {w : World} {q c cap : Nat} {l : List Value} (h : QAt w q c cap l) : q < w.heap.size ∧ c < w.heap.size ∧ q ≠ c := by
  obtain ⟨h1, _, s, r, h2⟩ := h
  refine ⟨?_, ?_, ?_⟩
  · rcases Nat.lt_or_ge q w.heap.size with h' | h'
    · exact h'
    · rw [Array.getElem?_eq_none h'] at h1; cases h1
  · rcases Nat.lt_or_ge c w.heap.size with h' | h'
    · exact h'
    · rw [Array.getElem?_eq_none h'] at h2; cases h2
  · rintro rfl
    rw [h1] at h2; cases h2
theorem QAt.set {w : World} {q c cap : Nat} {l l' : List Value} (h : QAt w q c cap l) (hl : l'.length ≤ cap) (s r : Nat) : QAt (w.setChan c cap l'.toArray false s r false) q c cap l' := by
  obtain ⟨_, hc, hne⟩ := h.lt
  refine ⟨((set_only w c cap l'.toArray s r).block q hne).trans h.1, hl, s, r, heap_setChan w c cap _ _ _ _ _ hc⟩
theorem QAt.keep {w w' : World} {q c cap : Nat} {l : List Value} (h : QAt w q c cap l) (hq : w'.heap[q]? = w.heap[q]?) (hc : w'.heap[c]? = w.heap[c]?) : QAt w' q c cap l := by
  obtain ⟨h1, h2, s, r, h3⟩ := h
  exact ⟨hq.trans h1, h2, s, r, hc.trans h3⟩
theorem QAt.below {w w' : World} {q c cap : Nat} {l : List Value} (h : QAt w q c cap l) (hb : Below w.heap.size w w') : QAt w' q c cap l :=
  h.keep (hb.block q h.lt.1) (hb.block c h.lt.2.1)

theorem res_send (c : Nat) (v z : Value) (k : Int) : commResult #[scase c v z] .select k undef false = .tuple #[goInt k, .bool false] := by
  simp [commResult, scase, List.zipIdx_cons]

section
variable {q c cap : Nat} {l : List Value}
set_option maxRecDepth 100000 in
theorem put_ok (x : Int) (w : World) (hQ : QAt w q c cap l) (hr : l.length < cap) :
    Calls Tryz.prog 92 #[.pointer (some ⟨q, 0, none⟩), .int .i64 x] w fun e w' => e = .returned (.int .i64 0) ∧ QAt w' q c cap (l ++ [.int .i64 x]) ∧ Only c w w' := by
  have hQ' := hQ
  obtain ⟨hq, hl, s, r, hc⟩ := hQ
  have hcell : w.cell? ⟨q, 0, none⟩ = some (.chan (some c)) := cell_of_row w q 0 _ _ _ hq
  have hend : QAt (w.setChan c cap (l ++ [Value.int .i64 x]).toArray false (s + 1) r false) q c cap (l ++ [.int .i64 x]) := hQ'.set (by rw [List.length_append]; exact hr) _ _
  refine calls_of_loneTo fun cs => ?_
  have e : Frame.enter Tryz.prog 92 #[.pointer (some ⟨q, 0, none⟩), .int .i64 x] .normal = (base 92).at ⟨#[.pointer (some ⟨q, 0, none⟩), .int .i64 x, undef, undef, undef, undef, undef, undef, undef, undef, undef, undef, undef], []⟩ [.code (Tryz.f92.body.getD .skip)] := by
    simp [Frame.enter, Frame.at, Tryz.func92, base, Tryz.f92]
  rw [e]
  refine LoneTo.goes (n := 18) ?_
  simp only [Tryz.f92, Option.getD_some]
  s_c stepG_seq
  s_reg
  s_op
  s_c stepG_region_end
  s_c stepG_seq
  s_c stepG_seq
  s_reg
  s_op
  s_op
  s_op
  s_op
  s_c stepG_region_end
  s_reg
  s_op
  s_c stepG_region_end
  s_c stepG_seq
  s_reg
  s_stop
  refine LoneTo.step (step_lone_select_send_room (c := c) (cap := cap) (buf := l.toArray) (s := s) (r := r) (tm := false) (v := .int .i64 x) (z' := .int .i64 0)
    (stepG_comm (cases := #[scase c (.int .i64 x) (.int .i64 0)]) (blocking := false) (shape := .select) (w' := w) rfl rfl (by decide) (by simp [go_sem, execOp, scase, Act.eval])) hc (by simpa using hr)) ?_
  rw [Frame.finish_at]
  walk_nrm
  refine LoneTo.goes (n := 20) ?_
  s_op
  s_op
  s_c stepG_region_end
  s_c stepG_block
  s_cond true
  s_c stepG_seq
  s_reg
  s_op
  s_c stepG_region_end
  s_c stepG_ret'
  s_stop
  exact LoneTo.done ⟨.returned (.int .i64 0), _, rfl, ⟨rfl, hend, set_only _ _ _ _ _ _⟩, rfl, rfl, rfl, rfl, _, Tryz.func92, by simp [results, Tryz.f92, Frame.at]⟩

set_option maxRecDepth 100000 in
theorem put_full (x : Int) (w : World) (hQ : QAt w q c cap l) (hr : l.length = cap) :
    Calls Tryz.prog 92 #[.pointer (some ⟨q, 0, none⟩), .int .i64 x] w fun e w' => e = .returned (.int .i64 13) ∧ w = w' := by
  obtain ⟨hq, hl, s, r, hc⟩ := hQ
  have hcell : w.cell? ⟨q, 0, none⟩ = some (.chan (some c)) := cell_of_row w q 0 _ _ _ hq
  refine calls_of_loneTo fun cs => ?_
  have e : Frame.enter Tryz.prog 92 #[.pointer (some ⟨q, 0, none⟩), .int .i64 x] .normal = (base 92).at ⟨#[.pointer (some ⟨q, 0, none⟩), .int .i64 x, undef, undef, undef, undef, undef, undef, undef, undef, undef, undef, undef], []⟩ [.code (Tryz.f92.body.getD .skip)] := by
    simp [Frame.enter, Frame.at, Tryz.func92, base, Tryz.f92]
  rw [e]
  refine LoneTo.goes (n := 18) ?_
  simp only [Tryz.f92, Option.getD_some]
  s_c stepG_seq
  s_reg
  s_op
  s_c stepG_region_end
  s_c stepG_seq
  s_c stepG_seq
  s_reg
  s_op
  s_op
  s_op
  s_op
  s_c stepG_region_end
  s_reg
  s_op
  s_c stepG_region_end
  s_c stepG_seq
  s_reg
  s_stop
  refine LoneTo.step (step_lone_select_send_full (c := c) (cap := cap) (buf := l.toArray) (s := s) (r := r) (tm := false) (v := .int .i64 x) (z' := .int .i64 0)
    (stepG_comm (cases := #[scase c (.int .i64 x) (.int .i64 0)]) (blocking := false) (shape := .select) (w' := w) rfl rfl (by decide) (by simp [go_sem, execOp, scase, Act.eval])) hc (by simp; omega)) ?_
  rw [Frame.finish_at]
  walk_nrm
  refine LoneTo.goes (n := 20) ?_
  s_op
  s_op
  s_c stepG_region_end
  s_c stepG_block
  s_cond false
  s_c stepG_seq
  s_reg
  s_op
  s_c stepG_region_end
  s_c stepG_ret'
  s_stop
  exact LoneTo.done ⟨.returned (.int .i64 13), _, rfl, ⟨rfl, rfl⟩, rfl, rfl, rfl, rfl, _, Tryz.func92, by simp [results, Tryz.f92, Frame.at]⟩

set_option maxRecDepth 100000 in
theorem take_ok (x : Value) (w : World) (hQ : QAt w q c cap (x :: l)) :
    Calls Tryz.prog 95 #[.pointer (some ⟨q, 0, none⟩)] w fun e w' => e = .returned (.tuple #[x, .int .i64 0]) ∧ QAt w' q c cap l ∧ Only c w w' := by
  have hQ' := hQ
  obtain ⟨hq, hl, s, r, hc⟩ := hQ
  have hcell : w.cell? ⟨q, 0, none⟩ = some (.chan (some c)) := cell_of_row w q 0 _ _ _ hq
  have hb : (x :: l).toArray.extract 1 (x :: l).toArray.size = l.toArray := by simp
  have hend : QAt (w.setChan c cap l.toArray false s (r + 1) false) q c cap l := hQ'.set (by simp at hl; omega) _ _
  refine calls_of_loneTo fun cs => ?_
  have e : Frame.enter Tryz.prog 95 #[.pointer (some ⟨q, 0, none⟩)] .normal = (base 95).at ⟨#[.pointer (some ⟨q, 0, none⟩), undef, undef, undef, undef, undef, undef, undef, undef, undef, undef, undef, undef, undef], []⟩ [.code (Tryz.f95.body.getD .skip)] := by
    simp [Frame.enter, Frame.at, Tryz.func95, base, Tryz.f95]
  rw [e]
  refine LoneTo.goes (n := 18) ?_
  simp only [Tryz.f95, Option.getD_some]
  s_c stepG_seq
  s_reg
  s_op
  s_op
  s_c stepG_region_end
  s_c stepG_seq
  s_reg
  s_op
  s_op
  s_op
  s_op
  s_c stepG_region_end
  s_c stepG_seq
  s_reg
  s_stop
  refine LoneTo.step (step_lone_select_recv_buf (c := c) (cap := cap) (buf := (x :: l).toArray) (closed := false) (s := s) (r := r) (tm := false) (z := .int .i64 0)
    (stepG_comm (cases := #[rcase c (.int .i64 0)]) (blocking := false) (shape := .select) (w' := w) rfl rfl (by decide) (by simp [go_sem, execOp, rcase, Act.eval])) hc (by simp)) ?_
  rw [Frame.finish_at, hb, show (x :: l).toArray.getD 0 undef = x from rfl]
  walk_nrm
  refine LoneTo.goes (n := 24) ?_
  s_op
  s_op
  s_c stepG_region_end
  s_c stepG_block
  s_cond true
  s_c stepG_seq
  s_reg
  s_op
  s_op
  s_c stepG_region_end
  s_c stepG_seq
  s_reg
  s_op
  s_op
  s_op
  s_c stepG_region_end
  s_c stepG_ret'
  s_stop
  exact LoneTo.done ⟨.returned (.tuple #[x, .int .i64 0]), _, rfl, ⟨rfl, hend, set_only _ _ _ _ _ _⟩, rfl, rfl, rfl, rfl, _, Tryz.func95, by simp [results, Tryz.f95, Frame.at]⟩

set_option maxRecDepth 100000 in
theorem take_none (w : World) (hQ : QAt w q c cap []) :
    Calls Tryz.prog 95 #[.pointer (some ⟨q, 0, none⟩)] w fun e w' => e = .returned (.tuple #[.int .i64 0, .int .i64 14]) ∧ w = w' := by
  obtain ⟨hq, hl, s, r, hc⟩ := hQ
  have hcell : w.cell? ⟨q, 0, none⟩ = some (.chan (some c)) := cell_of_row w q 0 _ _ _ hq
  refine calls_of_loneTo fun cs => ?_
  have e : Frame.enter Tryz.prog 95 #[.pointer (some ⟨q, 0, none⟩)] .normal = (base 95).at ⟨#[.pointer (some ⟨q, 0, none⟩), undef, undef, undef, undef, undef, undef, undef, undef, undef, undef, undef, undef, undef], []⟩ [.code (Tryz.f95.body.getD .skip)] := by
    simp [Frame.enter, Frame.at, Tryz.func95, base, Tryz.f95]
  rw [e]
  refine LoneTo.goes (n := 18) ?_
  simp only [Tryz.f95, Option.getD_some]
  s_c stepG_seq
  s_reg
  s_op
  s_op
  s_c stepG_region_end
  s_c stepG_seq
  s_reg
  s_op
  s_op
  s_op
  s_op
  s_c stepG_region_end
  s_c stepG_seq
  s_reg
  s_stop
  refine LoneTo.step (step_lone_select_default (c := c) (cap := cap) (s := s) (r := r) (tm := false) (z := .int .i64 0)
    (stepG_comm (cases := #[rcase c (.int .i64 0)]) (blocking := false) (shape := .select) (w' := w) rfl rfl (by decide) (by simp [go_sem, execOp, rcase, Act.eval])) hc) ?_
  rw [Frame.finish_at]
  walk_nrm
  refine LoneTo.goes (n := 24) ?_
  s_op
  s_op
  s_c stepG_region_end
  s_c stepG_block
  s_cond false
  s_c stepG_seq
  s_reg
  s_op
  s_op
  s_c stepG_region_end
  s_c stepG_ret'
  s_stop
  exact LoneTo.done ⟨.returned (.tuple #[.int .i64 0, .int .i64 14]), _, rfl, ⟨rfl, rfl⟩, rfl, rfl, rfl, rfl, _, Tryz.func95, by simp [results, Tryz.f95, Frame.at]⟩

theorem len_any (w : World) (hQ : QAt w q c cap l) :
    Calls Tryz.prog 94 #[.pointer (some ⟨q, 0, none⟩)] w fun e w' => e = .returned (.int .i64 (l.length : Int)) ∧ w = w' := by
  obtain ⟨hq, hl, s, r, hc⟩ := hQ
  have hcell : w.cell? ⟨q, 0, none⟩ = some (.chan (some c)) := cell_of_row w q 0 _ _ _ hq
  have hlen := fun ty => run_len_chan (P := Tryz.prog) 205 ty Tryz.underlying205 hc
  go_enter Tryz.func94, Tryz.ntmps94
  go_wp2
  go_ret
  exact ⟨by simp, rfl⟩
end

theorem intInfo : ∃ i, Tryz.prog.info? 3 = some i ∧ i.bytes = 8 := by
  have h : (Tryz.prog.info? 3).map (·.bytes) = some 8 := by kernel_rfl
  obtain ⟨i, hi, hb⟩ := Option.map_eq_some_iff.1 h
  exact ⟨i, hi, hb⟩
theorem mk (n : Nat) (hn : n ≤ 4096) (w : World) : (Instr.makeChan 205 (.int .i64 (n : Int))).run Tryz.prog w = .ok (.chan (some w.heap.size)) (w.alloc (.chan n #[] false 0 0 false)) := by
  obtain ⟨i, hi, hb⟩ := intInfo
  simpa using run_makeChan (P := Tryz.prog) (w := w) Tryz.underlying205 hi .i64 n (by omega) (by rw [hb]; omega)

theorem new_ok (n : Nat) (h1 : 1 ≤ n) (h2 : n ≤ 4096) (w : World) :
    Calls Tryz.prog 91 #[.int .i64 (n : Int)] w fun e w' => ∃ q c, e = .returned (.tuple #[.pointer (some ⟨q, 0, none⟩), .int .i64 0]) ∧ QAt w' q c n [] ∧ w.heap.size ≤ q ∧ w.heap.size ≤ c ∧ Below w.heap.size w w' := by
  have hmk := mk n h2
  go_enter Tryz.func91, Tryz.ntmps91
  go_wp2
  go_ret2
  refine ⟨w.heap.size + 1, w.heap.size, rfl, ⟨?_, by simp, 0, 0, ?_⟩, by omega, Nat.le_refl _, ((Below.refl _ w).alloc (Nat.le_refl _) _).alloc (by simp) _⟩
  · have := heap_alloc_new (w.alloc (Obj.chan n #[] false 0 0 false)) (Obj.cells #[Value.chan (some w.heap.size)] 207)
    simpa only [World.size_alloc] using this
  · rw [Below.heap_alloc _ _ _ (by simp)]
    exact heap_alloc_new w _

theorem new_no (n : Int) (h : n < 1 ∨ 4096 < n) (w : World) :
    Calls Tryz.prog 91 #[.int .i64 n] w fun e w' => e = .returned (.tuple #[.pointer none, .int .i64 1]) ∧ w = w' := by
  by_cases h' : n < 1
  · go_enter Tryz.func91, Tryz.ntmps91
    go_wp2
    go_ret2
    exact ⟨rfl, rfl⟩
  · have h2 : 4096 < n := by omega
    go_enter Tryz.func91, Tryz.ntmps91
    go_wp2
    go_ret2
    exact ⟨rfl, rfl⟩
end Go.Proofs.YtpjoefekhgmlhaaGreat.Q
