/- CONTRACT of the queue's All: it takes all that waits, in order, into a row of its own. Condition: the queue is one that was made, of room 4096 at most, and numbers wait in it. -/
import Derived.Test.YtlpbnhnnbmgdaaaQueue
import Derived.Test.YtlpbnhnnbmgdaaaMem
import Derived.OwnWalk
import Derived.Deep.LoopGhost
namespace Go.Proofs.Ytlpbnhnnbmgdaaa.Q
open Go.Conc Go.RowKit Mem

def vi (n : Int) : Value := .int .i64 n
theorem info_int : (Try.prog.info? 3).map (fun i => (i.zero, i.size, i.bytes)) = some (some (.int .i64 0), 1, 8) := by kernel_rfl
theorem grown_only {c : Nat} {w w' w'' : World} (h : w.grownBy w' (some c)) (k : Only c w' w'') : w.grownBy w'' (some c) :=
  ⟨k.os.trans h.os, k.tape.trans h.tape, k.output.trans h.output, by rw [k.size]; exact h.size, fun i hi hne => (k.block i (fun e => hne (by rw [e]))).trans (h.block i hi hne)⟩
theorem grown_new {c : Nat} {w w' w'' : World} (h : w.grownBy w' (some c)) (k : Below w.heap.size w' w'') : w.grownBy w'' (some c) :=
  ⟨k.os.trans h.os, k.tape.trans h.tape, k.output.trans h.output, Nat.le_trans h.size k.size, fun i hi hne => (k.block i hi).trans (h.block i hi hne)⟩
theorem drop_at {xs : List Int} {k : Nat} (h : k < xs.length) : (xs.drop k).map vi = vi xs[k] :: (xs.drop (k + 1)).map vi := by
  rw [List.drop_eq_getElem_cons h, List.map_cons]

set_option maxHeartbeats 1000000 in
theorem all_any {q c cap : Nat} (xs : List Int) (w : World) (hQ : QAt w q c cap (xs.map vi)) (hcap : cap ≤ 4096) :
    Calls Try.prog 13 #[.pointer (some ⟨q, 0, none⟩)] w fun e w' => ∃ A m, e = .returned (.slice A xs.length m) ∧ Lies w' A (xs.map vi) ∧ QAt w' q c cap [] ∧ w.grownBy w' (some c) := by
  have hxl : xs.length ≤ 4096 := by have := hQ.2.1; simp at this; omega
  have hq := hQ.lt
  obtain ⟨i0, hi, hz0, hz1, hz2⟩ := info_parts info_int
  go_enter Try.func13, Try.ntmps13
  go_wp2_with fail
  go_loopg [3] (xs.length + 1) (fun n v wr => ∃ k : Nat, k + n = xs.length + 1 ∧ 0 < n ∧ QAt wr q c cap ((xs.drop k).map vi) ∧ wr.ownsRow w.heap.size 3 1 v k ((xs.take k).map vi) ∧ w.grownBy wr (some c))
  case atStart => exact ⟨0, by omega, by omega, by simpa using hQ, by simpa using World.ownsRow_nil _ _ _ _, ⟨rfl, rfl, rfl, Nat.le_refl _, fun _ _ _ => rfl⟩⟩
  case round =>
    obtain ⟨k, hk, hpos, hQr, hown, hg⟩ := hrel
    obtain ⟨A, m, rfl, hm1, hm2⟩ := own_form hown
    by_cases hlt : k < xs.length
    · have hd := drop_at hlt
      rw [hd] at hQr
      clear hd
      obtain ⟨y, hy⟩ : ∃ y, y = xs[k] := ⟨_, rfl⟩
      rw [← hy] at hQr
      have HY := Lib.hid hy
      have HQ := Lib.hid hQr
      clear hQr hy
      have hgw := hg.size
      go_wp2_with fail
      refine (take_ok (.int .i64 y) wr HQ.out).mono ?_
      rintro e w1 ⟨rfl, hQ1, ho1⟩
      have hown1 := (hown.kept (w' := w1) (row := some c) ⟨ho1.os, ho1.tape, ho1.output, by rw [ho1.size]; exact Nat.le_refl _, fun i _ hne => ho1.block i (fun e => hne (by rw [e]))⟩ (by
        rcases ho : (Value.slice A k m).ownBlock with _ | g
        · exact .inl rfl
        · refine .inr (fun e => ?_)
          have := (hown.lt g ho).1
          injection e with e
          have := hq.2.1
          omega)).alloc (.cells #[.int .i64 y] 3)
      have hsz : w.heap.size ≤ w1.heap.size := by rw [ho1.size]; exact hgw
      have hlie := Lies.new w1 #[.int .i64 y] 3
      go_wp2_with (at_builtin; refine wpList_append_lies _ rfl (.tmp 14) (.tmp 16) _ rfl w.heap.size 3 i0 _ 1 8 Try.underlying22 hi hz0 hz1 hz2 rfl (by omega) (.slice A k m) k _ rfl hown1 (some ⟨w1.heap.size, 0, none⟩) 1 1 [.int .i64 y] rfl rfl hlie (by intro u hu; simp at hu; subst hu; rfl) (by simp only [maxLen]; omega) (by omega) (by simp; omega) ?_; intro v2 w2 hown2 hg2 hat2)
      have hrow : ∀ g, (Value.slice A k m).ownBlock = some g → w.heap.size ≤ g := fun g h => (hown.lt g h).1
      have hbb : Below w.heap.size w1 w2 := ((Below.refl _ w1).alloc hsz _).grown hg2 (by simp; omega) hrow
      have hQ2 := hQ1.keep (hbb.block q hq.1) (hbb.block c hq.2.1)
      go_roundg (xs.length - k)
      case measure => omega
      case rel => exact ⟨k + 1, by omega, by omega, hQ2, by rw [List.take_succ_eq_append_getElem hlt, List.map_append, ← HY.out]; exact hown2, grown_new (grown_only hg ho1) hbb⟩
    · have hn : xs.drop k = [] := List.drop_eq_nil_of_le (by omega)
      rw [hn] at hQr
      have hkx : k = xs.length := by have := hown.1; simp at this; omega
      have HQ := Lib.hid hQr
      have HK := Lib.hid hkx
      clear hQr hkx hn
      go_wp2_with fail
      refine (take_none wr HQ.out).mono ?_
      rintro e w1 ⟨rfl, rfl⟩
      go_wp2_with fail
      go_ret
      have e := HK.out
      subst e
      rw [List.take_length] at hown
      exact ⟨A, m, rfl, .of_own hown, HQ.out, hg⟩
end Go.Proofs.Ytlpbnhnnbmgdaaa.Q
