/- A row of numbers that the call may write. -/
import Derived.Test.YtcjenchkcbnphaaGraphShown
namespace Go.Proofs.Ytcjenchkcbnphaa.Gr
open Go.RowKit Mem

structure WRow (w : World) (g : Nat) (xs : List Int) : Prop where
  lt : g < w.heap.size
  cell : ∀ i (hi : i < xs.length), w.cell? ⟨g, i, none⟩ = some (.int .i64 xs[i])
  free : ∀ i, i < xs.length → w.frozen? ⟨g, i, none⟩ = false
theorem WRow.keep {w w' : World} {g : Nat} {xs : List Int} (h : WRow w g xs) (hs : w.heap.size ≤ w'.heap.size) (hk : w'.heap[g]? = w.heap[g]?) : WRow w' g xs :=
  ⟨Nat.lt_of_lt_of_le h.lt hs, fun i hi => (World.cell?_of_block (w := w) hk).trans (h.cell i hi), fun i hi => (World.frozen?_of_block (w := w) (a := ⟨g, i, none⟩) hk).trans (h.free i hi)⟩
theorem WRow.below {B : Nat} {w w' : World} {g : Nat} {xs : List Int} (h : WRow w g xs) (hb : Below B w w') (hg : g < B) : WRow w' g xs := h.keep hb.size (hb.block g hg)
theorem WRow.set_ {w : World} {g : Nat} {xs : List Int} (h : WRow w g xs) (k : Nat) (x : Int) : WRow (w.setCell ⟨g, k, none⟩ (.int .i64 x)) g (xs.set k x) := by
  refine ⟨by have := h.lt; simpa [World.setCell] using this, fun i hi => ?_, fun i hi => ?_⟩
  · rw [List.length_set] at hi
    rw [List.getElem_set]
    by_cases e : k = i
    · subst e
      rw [if_pos rfl, World.cell?_setCell_same (h := h.cell k hi)]
    · rw [if_neg e, World.cell?_setCell_other (h := by intro e'; injection e' with _ e' _; exact e e')]
      exact h.cell i hi
  · rw [List.length_set] at hi
    rw [World.frozen?_setCell]
    exact h.free i hi
theorem WRow.lies {w : World} {g : Nat} {xs : List Int} (h : WRow w g xs) : Lies w (some ⟨g, 0, none⟩) (ints xs) := fun _ => by
  refine ⟨g, 0, rfl, h.lt, fun i u hu => ?_⟩
  rw [ints, List.getElem?_map] at hu
  obtain ⟨y, hy, rfl⟩ := Option.map_eq_some_iff.1 hu
  obtain ⟨h1, h2⟩ := List.getElem?_eq_some_iff.1 hy
  rw [Nat.zero_add, h.cell i h1, h2]
theorem WRow.made (w : World) (n : Nat) : WRow (w.alloc (.cells (madeCells #[.int .i64 0] n) 3)) w.heap.size (List.replicate n 0) := by
  have h := Row.made w n
  refine ⟨h.lt, fun i hi => ?_, fun i hi => h.free i⟩
  rw [List.length_replicate] at hi
  rw [h.cell (by rw [List.length_replicate]; exact hi)]
  simp [lab, hi]
theorem WRow.new (w : World) (xs : List Int) : WRow (w.alloc (.cells (ints xs).toArray 3)) w.heap.size xs := by
  have hh := heap_alloc_new w (.cells (ints xs).toArray 3)
  refine ⟨by simp, fun i hi => ?_, fun i hi => frozen_of_row _ _ i _ 3 hh⟩
  rw [cell_of_row _ _ i _ 3 (0, 0) hh]
  simp [ints, hi]

/-- A slice of the call's own that reads as xs. -/
def Mine (w : World) (B : Nat) (S : Option Addr) (xs : List Int) : Prop := 0 < xs.length → ∃ g, S = some ⟨g, 0, none⟩ ∧ B ≤ g ∧ WRow w g xs
theorem Mine.lies {w : World} {B : Nat} {S : Option Addr} {xs : List Int} (h : Mine w B S xs) : Lies w S (ints xs) := fun hn => by
  obtain ⟨g, rfl, _, hw⟩ := h (by simpa [ints] using hn)
  exact hw.lies hn
theorem Mine.below {w w' : World} {B : Nat} {S : Option Addr} {xs : List Int} (h : Mine w B S xs) (hb : Below w.heap.size w w') : Mine w' B S xs := fun hn => by
  obtain ⟨g, e, h1, hw⟩ := h hn
  exact ⟨g, e, h1, hw.below hb hw.lt⟩
theorem Mine.of_own {w : World} {B n c : Nat} {S : Option Addr} {xs : List Int} (h : w.ownsRow B 3 1 (.slice S n c) n (ints xs)) : Mine w B S xs := fun hn => by
  rcases h.2 with ⟨e1, e2⟩ | ⟨g, cap, cur, hv, hg, hh, hnc, hm, hs, ht⟩
  · have hl := h.1
    rw [e2] at hl
    simp [ints] at hl
    subst hl
    simp at hn
  · injection hv with hA _ _
    subst hA
    have hlt : g < w.heap.size := by
      rcases Nat.lt_or_ge g w.heap.size with h' | h'
      · exact h'
      · rw [Array.getElem?_eq_none h'] at hh; cases hh
    refine ⟨g, rfl, hg, hlt, fun i hi => ?_, fun i hi => frozen_of_row w g i _ 3 hh⟩
    rw [cell_of_row w g i cur 3 (0, 0) hh]
    have hu : (ints xs)[i]? = some (.int .i64 xs[i]) := by simp [ints, hi]
    rw [← ht, List.getElem?_take] at hu
    split at hu
    · simpa using hu
    · cases hu

/-- Ranks, Loop and Sinks of a slice that reads as a vector that may be. -/
theorem errno_good {v : List Int} (hl : v.length ≤ 256) (hg : goodB v = true) : errno v = 0 := by
  unfold errno; rw [if_neg (by omega), if_pos hg]
theorem ranks_all {A : Option Addr} {c : Nat} {v : List Int} {w : World} (hA : Lies w A (ints v)) (he : errno v = 0) (ha : allRanked v = true) :
    Calls Try.prog 12 #[.slice A v.length c] w (PairPost w (ranksL v) 0) := by
  refine (ranks_yes A c v w hA he).mono fun e w' h => ?_
  rcases h with ⟨_, h⟩ | ⟨h, _⟩
  · exact h
  · rw [ha] at h; cases h
theorem ranks_none {A : Option Addr} {c : Nat} {v : List Int} {w : World} (hA : Lies w A (ints v)) (he : errno v = 0) (ha : allRanked v = false) :
    Calls Try.prog 12 #[.slice A v.length c] w fun e w' => e = .returned (.tuple #[.slice none 0 0, .int .i64 17]) ∧ Below w.heap.size w w' := by
  refine (ranks_yes A c v w hA he).mono fun e w' h => ?_
  rcases h with ⟨h, _⟩ | ⟨_, h⟩
  · rw [ha] at h; cases h
  · exact h
/-- The ranks of any vector that may be, as one answer. -/
def rankErr (v : List Int) : Int := if allRanked v then 0 else 17
def rankOut (v : List Int) : List Int := if allRanked v then ranksL v else []
theorem ranks_both {A : Option Addr} {c : Nat} {v : List Int} {w : World} (hA : Lies w A (ints v)) (he : errno v = 0) :
    Calls Try.prog 12 #[.slice A v.length c] w (PairPost w (rankOut v) (rankErr v)) := by
  refine (ranks_yes A c v w hA he).mono fun e w' h => ?_
  rcases h with ⟨ha, h⟩ | ⟨ha, rfl, hb⟩
  · unfold rankOut rankErr; rw [if_pos ha, if_pos ha]; exact h
  · unfold rankOut rankErr; rw [ha]; exact ⟨none, 0, rfl, fun h => absurd h (by simp), hb⟩
theorem loop_len {v : List Int} (hg : goodB v = true) : (loopL v).length ≤ v.length := by
  unfold loopL
  rw [List.length_map]
  by_cases h : ∃ u, u < v.length ∧ Cyc v u
  · obtain ⟨u, ⟨hu, hc⟩, hl⟩ := least_nat h
    rw [loopOf_some hg hu hc (fun x hx hcx => hl x hx ⟨by omega, hcx⟩)]
    obtain ⟨p, hp, hpl⟩ := hc.per hg hu
    rw [ringOf_eq hg hu hc hp hpl, ringTo_len]; exact hpl
  · rw [loopOf_none hg (fun u hu hc => h ⟨u, hu, hc⟩)]; simp
end Go.Proofs.Ytcjenchkcbnphaa.Gr
