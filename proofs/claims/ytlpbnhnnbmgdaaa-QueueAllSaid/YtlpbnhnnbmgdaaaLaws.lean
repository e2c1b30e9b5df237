/- WALKS of the document's example of the queue, and of the first 40 numbers of a slice. No condition but that the slice's length is at most its capacity. -/
import Derived.Test.YtlpbnhnnbmgdaaaQueueAll
namespace Go.Proofs.Ytlpbnhnnbmgdaaa.Q
open Go.Conc Go.RowKit Mem

set_option maxHeartbeats 400000 in
theorem few_any (A : Option Addr) (n cap m : Nat) (hn : n ≤ cap) (_hc : cap ≤ 9223372036854775807) (hm : m = min n 40) (w : World) :
    Calls Try.prog 10 #[.slice A n cap] w fun e w' => e = .returned (.slice A m cap) ∧ w = w' := by
  have HM := Lib.hid hm
  clear hm
  go_enter Try.func10, Try.ntmps10
  go_wp2
  all_goals
    go_ret
    exact ⟨ret_slice (by have := HM.out; omega), rfl⟩

set_option maxHeartbeats 1000000 in
theorem shown_any (w : World) : Calls Try.prog 7 #[] w fun e w' => e = .returned (.bool true) ∧ Below w.heap.size w w' := by
  go_enter Try.func7, Try.ntmps7
  go_wp2_with fail
  refine (new_ok 1 (by omega) (by omega) _).mono ?_
  rintro e w1 ⟨q, c, rfl, hQ1, hq, hc, hb1⟩
  go_wp2_with fail
  refine (put_ok 7 _ hQ1 (by simp)).mono ?_
  rintro e w2 ⟨rfl, hQ2, ho2⟩
  go_wp2_with fail
  refine (put_full 8 _ hQ2 (by simp)).mono ?_
  rintro e w' ⟨rfl, rfl⟩
  go_wp2_with fail
  refine (take_ok (.int .i64 7) _ hQ2).mono ?_
  rintro e w3 ⟨rfl, hQ3, ho3⟩
  go_wp2_with fail
  refine (take_none _ hQ3).mono ?_
  rintro e w' ⟨rfl, rfl⟩
  go_wp2_with fail
  go_ret
  exact ⟨rfl, (hb1.trans (ho2.below hc)).trans (ho3.below hc)⟩
end Go.Proofs.Ytlpbnhnnbmgdaaa.Q
