/- WALKS of the document's example of the graph, and of the first 30 numbers of a slice. -/
import Derived.Test.YtcjenchkcbnphaaGraphRanks
import Derived.Test.YtcjenchkcbnphaaRow
namespace Go.Proofs.Ytcjenchkcbnphaa.Gr
open Go.RowKit Mem

theorem ranks_ex (A : Option Addr) (c : Nat) (w : World) (hA : Lies w A (ints [1, -1, 0])) : Calls Try.prog 12 #[.slice A 3 c] w (PairPost w [1, 0, 2] 0) := by
  refine (ranks_yes A c [1, -1, 0] w hA (by decide)).mono fun e w' h => ?_
  rcases h with ⟨_, h⟩ | ⟨h, _⟩
  · have e : ranksL [1, -1, 0] = [1, 0, 2] := by decide
    rw [e] at h; exact h
  · exact absurd h (by decide)
theorem loop_ex (A : Option Addr) (c : Nat) (w : World) (hA : Lies w A (ints [1, 2, 1])) : Calls Try.prog 14 #[.slice A 3 c] w (PairPost w [1, 2] 0) := by
  have h := loop_yes A c [1, 2, 1] w hA (by decide)
  have e : loopL [1, 2, 1] = [1, 2] := by decide
  rw [e] at h; exact h

set_option maxHeartbeats 1000000 in
theorem shown_any (w : World) : Calls Try.prog 10 #[] w fun e w' => e = .returned (.bool true) ∧ Below w.heap.size w w' := by
  go_enter Try.func10, Try.ntmps10
  go_wp2_with fail
  refine (ranks_ex _ _ _ (Lies.new w #[.int .i64 1, .int .i64 (-1), .int .i64 0] 3)).mono ?_
  rintro e w1 ⟨R, m, rfl, hR, hb1⟩
  go_wp2_with fail
  refine (loop_ex _ _ _ (Lies.new w1 #[.int .i64 1, .int .i64 2, .int .i64 1] 3)).mono ?_
  rintro e w2 ⟨L, m2, rfl, hL, hb2⟩
  go_wp2_with fail
  have hs1 := hb1.size
  have hs2 := hb2.size
  simp at hs1 hs2
  have h1 : Below w.heap.size w w1 := ((Below.refl _ w).alloc (Nat.le_refl _) _).trans (hb1.mono (by simp))
  have h2 : Below w.heap.size w w2 := (h1.alloc h1.size _).trans (hb2.mono (by have := h1.size; simp; omega))
  have hR2 : Lies w2 R (ints [1, 0, 2]) := (hR.alloc _).below hb2
  have hr := row_any R (some ⟨w2.heap.size, 0, none⟩) m 3 [1, 0, 2] [1, 0, 2] _ (hR2.alloc _) (Lies.new w2 #[.int .i64 1, .int .i64 0, .int .i64 2] 3) (by simp) (by simp)
  refine hr.mono ?_
  rintro e w3 ⟨rfl, n, rfl⟩
  have h3 : Below w.heap.size w ((w2.alloc (.cells #[.int .i64 1, .int .i64 0, .int .i64 2] 3)).drewN n) := below_drawn (h2.alloc h2.size _) n
  have hL3 : Lies ((w2.alloc (.cells #[.int .i64 1, .int .i64 0, .int .i64 2] 3)).drewN n) L (ints [1, 2]) := (hL.alloc _).drewN n
  generalize ((w2.alloc (.cells #[.int .i64 1, .int .i64 0, .int .i64 2] 3)).drewN n) = w3 at *
  go_wp2_with fail
  have hr2 := row_any L (some ⟨w3.heap.size, 0, none⟩) m2 2 [1, 2] [1, 2] _ (hL3.alloc _) (Lies.new w3 #[.int .i64 1, .int .i64 2] 3) (by simp) (by simp)
  refine hr2.mono ?_
  rintro e w4 ⟨rfl, n4, rfl⟩
  go_wp2_with fail
  go_ret
  exact ⟨rfl, below_drawn (h3.alloc h3.size _) _⟩

set_option maxHeartbeats 400000 in
theorem short_any (A : Option Addr) (n cap m : Nat) (hn : n ≤ cap) (_hc : cap ≤ 9223372036854775807) (hm : m = min n 30) (w : World) :
    Calls Try.prog 11 #[.slice A n cap] w fun e w' => e = .returned (.slice A m cap) ∧ w = w' := by
  have HM := Lib.hid hm
  clear hm
  go_enter Try.func11, Try.ntmps11
  go_wp2
  all_goals
    go_ret
    exact ⟨ret_slice (by have := HM.out; omega), rfl⟩
end Go.Proofs.Ytcjenchkcbnphaa.Gr
