/- WALK: the table of the steps of all bytes from 0 on. No condition. -/
import Derived.Test.YtbhnfgknbpddiaaCrcWalks
import Derived.Deep.LoopGhost
import Derived.Laws.Rows
import Derived.Laws.Tables
namespace Go.Proofs.Ytbhnfgknbpddiaa.Crc
open Go.RowKit

def zeros : Array Value := Array.replicate 256 (Value.int .u32 0)
theorem zeros_size : zeros.size = 256 := Array.size_replicate
theorem zeros_mem {v : Value} (h : v ∈ zeros) : v = Value.int .u32 0 := (Array.mem_replicate.1 h).2
theorem zero35 (w : World) : (zeroValue 35).run Try.prog w = .ok (.agg zeros) w := by kernel_rfl
theorem size35 : (Try.prog.info? 35).map (·.size) = some 256 := by kernel_rfl
theorem step_zero (c : Nat) (hc : c < 256) (w : World) :
    Calls Try.prog 14 #[.int .u32 0, .int .u8 (c : Int)] w fun e w' => e = .returned (.int .u32 ((cstep 0 c : Nat) : Int)) ∧ w = w' := step_any 0 c (by omega) hc w

/-- After k rounds: the first k places hold the steps of k and all below. -/
def TabRel (w : World) (k : Nat) (wr : World) : Prop := ∃ cs : Array Value, wr.heap[w.heap.size]? = some (.cells cs 35 (0, 0)) ∧ cs.size = 256 ∧ (∀ v ∈ cs, v.oneCell' = true) ∧ (∀ i, i < k → cs[i]? = some (.int .u32 ((cstep 0 i : Nat) : Int))) ∧ Below w.heap.size w wr
theorem TabRel.start (w : World) : TabRel w 0 (w.alloc (.cells zeros 35)) :=
  ⟨zeros, heap_alloc_new w _, zeros_size, by intro v hv; rw [zeros_mem hv]; rfl, fun i hi => absurd hi (by omega), (Below.refl _ _).alloc (Nat.le_refl _) _⟩
theorem TabRel.cell {w wr : World} {k : Nat} (h : TabRel w k wr) {i : Nat} (hi : i < 256) : ∃ v, wr.cell? ⟨w.heap.size, i, none⟩ = some v := by
  obtain ⟨cs, hh, hs, _⟩ := h
  exact ⟨cs[i], by rw [cell_of_row wr _ i cs 35 (0, 0) hh]; exact Array.getElem?_eq_getElem (by omega)⟩
theorem TabRel.free {w wr : World} {k : Nat} (h : TabRel w k wr) (i : Nat) : wr.frozen? ⟨w.heap.size, i, none⟩ = false := by
  obtain ⟨cs, hh, _⟩ := h
  exact frozen_of_row wr _ i cs 35 hh
theorem TabRel.next {w wr : World} {k : Nat} (h : TabRel w k wr) (hk : k < 256) : TabRel w (k + 1) (wr.setCell ⟨w.heap.size, k, none⟩ (.int .u32 ((cstep 0 k : Nat) : Int))) := by
  obtain ⟨cs, hh, hs, h1, h2, hb⟩ := h
  refine ⟨_, heap_setCell_same wr _ k cs 35 _ hh, by simpa using hs, ?_, ?_, hb.setCell (Nat.le_refl _) _⟩
  · intro v hv
    rcases Array.mem_or_eq_of_mem_setIfInBounds hv with hv | hv
    · exact h1 v hv
    · subst hv; rfl
  · intro i hi
    rw [Array.getElem?_setIfInBounds]
    by_cases e : k = i
    · subst e; rw [if_pos rfl, if_pos (by omega)]
    · rw [if_neg e]; exact h2 i (by omega)

set_option maxRecDepth 100000 in
set_option maxHeartbeats 400000 in
theorem table_any (w : World) :
    Calls Try.prog 16 #[] w fun e w' => ∃ cs : Array Value, e = .returned (.agg cs) ∧ cs.size = 256 ∧ (∀ v ∈ cs, v.oneCell' = true) ∧ (∀ i, i < 256 → cs[i]? = some (.int .u32 ((cstep 0 i : Nat) : Int))) ∧ Below w.heap.size w w' := by
  have hz := zero35
  go_enter Try.func16, Try.ntmps16
  go_wp2
  clear hz
  go_loopw [2] (fun i wr => ∃ k : Nat, k ≤ 256 ∧ i = .int .i64 k ∧ TabRel w k wr) (fun i _ => 256 - (intOf i).toNat)
  case atStart => exact ⟨0, by omega, rfl, TabRel.start w⟩
  case round =>
    obtain ⟨k, hk, rfl, hT⟩ := hrel
    by_cases hlt : k < 256
    · obtain ⟨v0, hc⟩ := hT.cell hlt
      have hf := hT.free k
      have hn := hT.next hlt
      go_wp2_with (go_at_call 14; refine (step_zero k hlt _).mono ?_; rintro e w' ⟨rfl, rfl⟩)
      go_roundw
      case rel => exact ⟨k + 1, by omega, by go_num, hn⟩
      case measure => simp [intOf]; omega
    · obtain rfl : k = 256 := by omega
      obtain ⟨cs, hh, hs, h1, h2, hb⟩ := hT
      have hi : (Try.prog.info? 35).map (·.size) = some cs.size := by rw [hs]; exact size35
      have h1' : cs.all (·.oneCell') = true := by rw [Array.all_eq_true_iff_forall_mem]; exact h1
      have HS := Lib.hid hs
      clear hs
      go_wp2_with (first
        | (with_reducible refine wpList_load_row rfl 35 _ rfl w.heap.size rfl 35 cs (0, 0) _ hh Try.underlying35 rfl hi ?_)
        | (with_reducible refine wpList_store_row rfl 35 _ _ rfl w.heap.size cs rfl rfl 35 cs hh hi rfl h1' ?_))
      have hh' := setRow_heap wr w.heap.size cs cs 35 (0, 0) hh
      refine bodyPost_ret (v := .agg cs) (results_cell_row (p := 0) (ty := 35) rfl _ _ w.heap.size 35 cs (0, 0) _ rfl hh' Try.underlying35 rfl hi) rfl ⟨cs, rfl, HS.out, h1, h2, ?_⟩
      exact hb.trans ⟨rfl, rfl, rfl, by simp, fun i hi => setRow_other _ _ _ _ (by omega)⟩
end Go.Proofs.Ytbhnfgknbpddiaa.Crc
