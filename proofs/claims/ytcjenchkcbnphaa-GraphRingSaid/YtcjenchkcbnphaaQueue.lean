/- CONTRACTS of the queue: room is made, what is put waits behind all others, what is taken was the first, how many wait. Conditions: the queue is one that was made so. -/
import Derived.Test.YtcjenchkcbnphaaChecked
import Derived.WalkKit
import Derived.Conc.LoneCalls
import Derived.Conc.LoneSelect
import Derived.Conc.LoneSelectN
import Derived.KernelRfl
import Derived.Laws.Rows
import Derived.Lib.Hide
import Derived.Outline
namespace Go.Proofs.Ytcjenchkcbnphaa.Q
open Go.Conc Go.RowKit

/-- Block q holds a queue: its channel is block c, of room cap, in which l lie, the first one first. -/
def QAt (w : World) (q c cap : Nat) (l : List Value) : Prop :=
  w.heap[q]? = some (.cells #[.chan (some c)] 48 (0, 0)) ∧ l.length ≤ cap ∧ ∃ s r, w.heap[c]? = some (.chan cap l.toArray false s r false)
/-- Nothing but block c has turned. -/
structure Only (c : Nat) (w w' : World) : Prop where
  os : w'.os = w.os
  tape : w'.tape = w.tape
  output : w'.output = w.output
  size : w'.heap.size = w.heap.size
  block : ∀ k, k ≠ c → w'.heap[k]? = w.heap[k]?
theorem Only.below {c B : Nat} {w w' : World} (h : Only c w w') (hB : B ≤ c) : Below B w w' := ⟨h.os, h.tape, h.output, by rw [h.size]; exact Nat.le_refl _, fun k hk => h.block k (by omega)⟩
theorem Only.refl (c : Nat) (w : World) : Only c w w := ⟨rfl, rfl, rfl, rfl, fun _ _ => rfl⟩
theorem Only.trans {c : Nat} {a b d : World} (h : Only c a b) (k : Only c b d) : Only c a d := ⟨k.os.trans h.os, k.tape.trans h.tape, k.output.trans h.output, k.size.trans h.size, fun i hi => (k.block i hi).trans (h.block i hi)⟩

theorem set_only (w : World) (c cap : Nat) (buf : Array Value) (s r : Nat) : Only c w (w.setChan c cap buf false s r false) :=
  ⟨rfl, rfl, rfl, by simp [World.setChan], fun k hk => by simp [World.setChan, Array.getElem?_setIfInBounds_ne (Ne.symm hk)]⟩
theorem QAt.lt {w : World} {q c cap : Nat} {l : List Value} (h : QAt w q c cap l) : q < w.heap.size ∧ c < w.heap.size ∧ q ≠ c := by
  obtain ⟨h1, _, s, r, h2⟩ := h
  refine ⟨?_, ?_, ?_⟩
  · rcases Nat.lt_or_ge q w.heap.size with h' | h'
    · exact h'
    · rw [Array.getElem?_eq_none h'] at h1; cases h1
  · rcases Nat.lt_or_ge c w.heap.size with h' | h'
    · exact h'
    · rw [Array.getElem?_eq_none h'] at h2; cases h2
  · rintro rfl
    rw [h1] at h2; cases h2
theorem QAt.set {w : World} {q c cap : Nat} {l l' : List Value} (h : QAt w q c cap l) (hl : l'.length ≤ cap) (s r : Nat) : QAt (w.setChan c cap l'.toArray false s r false) q c cap l' := by
  obtain ⟨_, hc, hne⟩ := h.lt
  refine ⟨((set_only w c cap l'.toArray s r).block q hne).trans h.1, hl, s, r, heap_setChan w c cap _ _ _ _ _ hc⟩
theorem QAt.keep {w w' : World} {q c cap : Nat} {l : List Value} (h : QAt w q c cap l) (hq : w'.heap[q]? = w.heap[q]?) (hc : w'.heap[c]? = w.heap[c]?) : QAt w' q c cap l := by
  obtain ⟨h1, h2, s, r, h3⟩ := h
  exact ⟨hq.trans h1, h2, s, r, hc.trans h3⟩
theorem QAt.below {w w' : World} {q c cap : Nat} {l : List Value} (h : QAt w q c cap l) (hb : Below w.heap.size w w') : QAt w' q c cap l :=
  h.keep (hb.block q h.lt.1) (hb.block c h.lt.2.1)

theorem res_send (c : Nat) (v z : Value) (k : Int) : commResult #[scase c v z] .select k undef false = .tuple #[goInt k, .bool false] := by
  simp [commResult, scase, List.zipIdx_cons]

section
variable {q c cap : Nat} {l : List Value}
set_option maxRecDepth 100000 in
theorem put_ok (x : Int) (w : World) (hQ : QAt w q c cap l) (hr : l.length < cap) :
    Calls Try.prog 21 #[.pointer (some ⟨q, 0, none⟩), .int .i64 x] w fun e w' => e = .returned (.int .i64 0) ∧ QAt w' q c cap (l ++ [.int .i64 x]) ∧ Only c w w' := by
  have hQ' := hQ
  obtain ⟨hq, hl, s, r, hc⟩ := hQ
  have hcell : w.cell? ⟨q, 0, none⟩ = some (.chan (some c)) := cell_of_row w q 0 _ _ _ hq
  have hend : QAt (w.setChan c cap (l ++ [Value.int .i64 x]).toArray false (s + 1) r false) q c cap (l ++ [.int .i64 x]) := hQ'.set (by rw [List.length_append]; exact hr) _ _
  refine calls_of_loneTo fun cs => ?_
  have e : Frame.enter Try.prog 21 #[.pointer (some ⟨q, 0, none⟩), .int .i64 x] .normal = (base 21).at ⟨#[.pointer (some ⟨q, 0, none⟩), .int .i64 x, undef, undef, undef, undef, undef, undef, undef, undef, undef, undef, undef], []⟩ [.code (Try.f21.body.getD .skip)] := by
    simp [Frame.enter, Frame.at, Try.func21, base, Try.f21]
  rw [e]
  refine LoneTo.goes (n := 18) ?_
  simp only [Try.f21, Option.getD_some]
  s_c stepG_seq
  s_reg
  s_op
  s_c stepG_region_end
  s_c stepG_seq
  s_c stepG_seq
  s_reg
  s_op
  s_op
  s_op
  s_op
  s_c stepG_region_end
  s_reg
  s_op
  s_c stepG_region_end
  s_c stepG_seq
  s_reg
  s_stop
  refine LoneTo.step (step_lone_select_send_room (c := c) (cap := cap) (buf := l.toArray) (s := s) (r := r) (tm := false) (v := .int .i64 x) (z' := .int .i64 0)
    (stepG_comm (cases := #[scase c (.int .i64 x) (.int .i64 0)]) (blocking := false) (shape := .select) (w' := w) rfl rfl (by decide) (by simp [go_sem, execOp, scase, Act.eval])) hc (by simpa using hr)) ?_
  rw [Frame.finish_at]
  walk_nrm
  refine LoneTo.goes (n := 20) ?_
  s_op
  s_op
  s_c stepG_region_end
  s_c stepG_block
  s_cond true
  s_c stepG_seq
  s_reg
  s_op
  s_c stepG_region_end
  s_c stepG_ret'
  s_stop
  exact LoneTo.done ⟨.returned (.int .i64 0), _, rfl, ⟨rfl, hend, set_only _ _ _ _ _ _⟩, rfl, rfl, rfl, rfl, _, Try.func21, by simp [results, Try.f21, Frame.at]⟩

set_option maxRecDepth 100000 in
theorem put_full (x : Int) (w : World) (hQ : QAt w q c cap l) (hr : l.length = cap) :
    Calls Try.prog 21 #[.pointer (some ⟨q, 0, none⟩), .int .i64 x] w fun e w' => e = .returned (.int .i64 13) ∧ w = w' := by
  obtain ⟨hq, hl, s, r, hc⟩ := hQ
  have hcell : w.cell? ⟨q, 0, none⟩ = some (.chan (some c)) := cell_of_row w q 0 _ _ _ hq
  refine calls_of_loneTo fun cs => ?_
  have e : Frame.enter Try.prog 21 #[.pointer (some ⟨q, 0, none⟩), .int .i64 x] .normal = (base 21).at ⟨#[.pointer (some ⟨q, 0, none⟩), .int .i64 x, undef, undef, undef, undef, undef, undef, undef, undef, undef, undef, undef], []⟩ [.code (Try.f21.body.getD .skip)] := by
    simp [Frame.enter, Frame.at, Try.func21, base, Try.f21]
  rw [e]
  refine LoneTo.goes (n := 18) ?_
  simp only [Try.f21, Option.getD_some]
  s_c stepG_seq
  s_reg
  s_op
  s_c stepG_region_end
  s_c stepG_seq
  s_c stepG_seq
  s_reg
  s_op
  s_op
  s_op
  s_op
  s_c stepG_region_end
  s_reg
  s_op
  s_c stepG_region_end
  s_c stepG_seq
  s_reg
  s_stop
  refine LoneTo.step (step_lone_select_send_full (c := c) (cap := cap) (buf := l.toArray) (s := s) (r := r) (tm := false) (v := .int .i64 x) (z' := .int .i64 0)
    (stepG_comm (cases := #[scase c (.int .i64 x) (.int .i64 0)]) (blocking := false) (shape := .select) (w' := w) rfl rfl (by decide) (by simp [go_sem, execOp, scase, Act.eval])) hc (by simp; omega)) ?_
  rw [Frame.finish_at]
  walk_nrm
  refine LoneTo.goes (n := 20) ?_
  s_op
  s_op
  s_c stepG_region_end
  s_c stepG_block
  s_cond false
  s_c stepG_seq
  s_reg
  s_op
  s_c stepG_region_end
  s_c stepG_ret'
  s_stop
  exact LoneTo.done ⟨.returned (.int .i64 13), _, rfl, ⟨rfl, rfl⟩, rfl, rfl, rfl, rfl, _, Try.func21, by simp [results, Try.f21, Frame.at]⟩

set_option maxRecDepth 100000 in
theorem take_ok (x : Value) (w : World) (hQ : QAt w q c cap (x :: l)) :
    Calls Try.prog 24 #[.pointer (some ⟨q, 0, none⟩)] w fun e w' => e = .returned (.tuple #[x, .int .i64 0]) ∧ QAt w' q c cap l ∧ Only c w w' := by
  have hQ' := hQ
  obtain ⟨hq, hl, s, r, hc⟩ := hQ
  have hcell : w.cell? ⟨q, 0, none⟩ = some (.chan (some c)) := cell_of_row w q 0 _ _ _ hq
  have hb : (x :: l).toArray.extract 1 (x :: l).toArray.size = l.toArray := by simp
  have hend : QAt (w.setChan c cap l.toArray false s (r + 1) false) q c cap l := hQ'.set (by simp at hl; omega) _ _
  refine calls_of_loneTo fun cs => ?_
  have e : Frame.enter Try.prog 24 #[.pointer (some ⟨q, 0, none⟩)] .normal = (base 24).at ⟨#[.pointer (some ⟨q, 0, none⟩), undef, undef, undef, undef, undef, undef, undef, undef, undef, undef, undef, undef, undef], []⟩ [.code (Try.f24.body.getD .skip)] := by
    simp [Frame.enter, Frame.at, Try.func24, base, Try.f24]
  rw [e]
  refine LoneTo.goes (n := 18) ?_
  simp only [Try.f24, Option.getD_some]
  s_c stepG_seq
  s_reg
  s_op
  s_op
  s_c stepG_region_end
  s_c stepG_seq
  s_reg
  s_op
  s_op
  s_op
  s_op
  s_c stepG_region_end
  s_c stepG_seq
  s_reg
  s_stop
  refine LoneTo.step (step_lone_select_recv_buf (c := c) (cap := cap) (buf := (x :: l).toArray) (closed := false) (s := s) (r := r) (tm := false) (z := .int .i64 0)
    (stepG_comm (cases := #[rcase c (.int .i64 0)]) (blocking := false) (shape := .select) (w' := w) rfl rfl (by decide) (by simp [go_sem, execOp, rcase, Act.eval])) hc (by simp)) ?_
  rw [Frame.finish_at, hb, show (x :: l).toArray.getD 0 undef = x from rfl]
  walk_nrm
  refine LoneTo.goes (n := 24) ?_
  s_op
  s_op
  s_c stepG_region_end
  s_c stepG_block
  s_cond true
  s_c stepG_seq
  s_reg
  s_op
  s_op
  s_c stepG_region_end
  s_c stepG_seq
  s_reg
  s_op
  s_op
  s_op
  s_c stepG_region_end
  s_c stepG_ret'
  s_stop
  exact LoneTo.done ⟨.returned (.tuple #[x, .int .i64 0]), _, rfl, ⟨rfl, hend, set_only _ _ _ _ _ _⟩, rfl, rfl, rfl, rfl, _, Try.func24, by simp [results, Try.f24, Frame.at]⟩

set_option maxRecDepth 100000 in
theorem take_none (w : World) (hQ : QAt w q c cap []) :
    Calls Try.prog 24 #[.pointer (some ⟨q, 0, none⟩)] w fun e w' => e = .returned (.tuple #[.int .i64 0, .int .i64 14]) ∧ w = w' := by
  obtain ⟨hq, hl, s, r, hc⟩ := hQ
  have hcell : w.cell? ⟨q, 0, none⟩ = some (.chan (some c)) := cell_of_row w q 0 _ _ _ hq
  refine calls_of_loneTo fun cs => ?_
  have e : Frame.enter Try.prog 24 #[.pointer (some ⟨q, 0, none⟩)] .normal = (base 24).at ⟨#[.pointer (some ⟨q, 0, none⟩), undef, undef, undef, undef, undef, undef, undef, undef, undef, undef, undef, undef, undef], []⟩ [.code (Try.f24.body.getD .skip)] := by
    simp [Frame.enter, Frame.at, Try.func24, base, Try.f24]
  rw [e]
  refine LoneTo.goes (n := 18) ?_
  simp only [Try.f24, Option.getD_some]
  s_c stepG_seq
  s_reg
  s_op
  s_op
  s_c stepG_region_end
  s_c stepG_seq
  s_reg
  s_op
  s_op
  s_op
  s_op
  s_c stepG_region_end
  s_c stepG_seq
  s_reg
  s_stop
  refine LoneTo.step (step_lone_select_default (c := c) (cap := cap) (s := s) (r := r) (tm := false) (z := .int .i64 0)
    (stepG_comm (cases := #[rcase c (.int .i64 0)]) (blocking := false) (shape := .select) (w' := w) rfl rfl (by decide) (by simp [go_sem, execOp, rcase, Act.eval])) hc) ?_
  rw [Frame.finish_at]
  walk_nrm
  refine LoneTo.goes (n := 24) ?_
  s_op
  s_op
  s_c stepG_region_end
  s_c stepG_block
  s_cond false
  s_c stepG_seq
  s_reg
  s_op
  s_op
  s_c stepG_region_end
  s_c stepG_ret'
  s_stop
  exact LoneTo.done ⟨.returned (.tuple #[.int .i64 0, .int .i64 14]), _, rfl, ⟨rfl, rfl⟩, rfl, rfl, rfl, rfl, _, Try.func24, by simp [results, Try.f24, Frame.at]⟩

theorem len_any (w : World) (hQ : QAt w q c cap l) :
    Calls Try.prog 23 #[.pointer (some ⟨q, 0, none⟩)] w fun e w' => e = .returned (.int .i64 (l.length : Int)) ∧ w = w' := by
  obtain ⟨hq, hl, s, r, hc⟩ := hQ
  have hcell : w.cell? ⟨q, 0, none⟩ = some (.chan (some c)) := cell_of_row w q 0 _ _ _ hq
  have hlen := fun ty => run_len_chan (P := Try.prog) 46 ty Try.underlying46 hc
  go_enter Try.func23, Try.ntmps23
  go_wp2
  go_ret
  exact ⟨by simp, rfl⟩
end

theorem intInfo : ∃ i, Try.prog.info? 3 = some i ∧ i.bytes = 8 := by
  have h : (Try.prog.info? 3).map (·.bytes) = some 8 := by kernel_rfl
  obtain ⟨i, hi, hb⟩ := Option.map_eq_some_iff.1 h
  exact ⟨i, hi, hb⟩
theorem mk (n : Nat) (hn : n ≤ 4096) (w : World) : (Instr.makeChan 46 (.int .i64 (n : Int))).run Try.prog w = .ok (.chan (some w.heap.size)) (w.alloc (.chan n #[] false 0 0 false)) := by
  obtain ⟨i, hi, hb⟩ := intInfo
  simpa using run_makeChan (P := Try.prog) (w := w) Try.underlying46 hi .i64 n (by omega) (by rw [hb]; omega)

theorem new_ok (n : Nat) (h1 : 1 ≤ n) (h2 : n ≤ 4096) (w : World) :
    Calls Try.prog 20 #[.int .i64 (n : Int)] w fun e w' => ∃ q c, e = .returned (.tuple #[.pointer (some ⟨q, 0, none⟩), .int .i64 0]) ∧ QAt w' q c n [] ∧ w.heap.size ≤ q ∧ w.heap.size ≤ c ∧ Below w.heap.size w w' := by
  have hmk := mk n h2
  go_enter Try.func20, Try.ntmps20
  go_wp2
  go_ret2
  refine ⟨w.heap.size + 1, w.heap.size, rfl, ⟨?_, by simp, 0, 0, ?_⟩, by omega, Nat.le_refl _, ((Below.refl _ w).alloc (Nat.le_refl _) _).alloc (by simp) _⟩
  · have := heap_alloc_new (w.alloc (Obj.chan n #[] false 0 0 false)) (Obj.cells #[Value.chan (some w.heap.size)] 48)
    simpa only [World.size_alloc] using this
  · rw [Below.heap_alloc _ _ _ (by simp)]
    exact heap_alloc_new w _

theorem new_no (n : Int) (h : n < 1 ∨ 4096 < n) (w : World) :
    Calls Try.prog 20 #[.int .i64 n] w fun e w' => e = .returned (.tuple #[.pointer none, .int .i64 1]) ∧ w = w' := by
  by_cases h' : n < 1
  · go_enter Try.func20, Try.ntmps20
    go_wp2
    go_ret2
    exact ⟨rfl, rfl⟩
  · have h2 : 4096 < n := by omega
    go_enter Try.func20, Try.ntmps20
    go_wp2
    go_ret2
    exact ⟨rfl, rfl⟩
end Go.Proofs.Ytcjenchkcbnphaa.Q
