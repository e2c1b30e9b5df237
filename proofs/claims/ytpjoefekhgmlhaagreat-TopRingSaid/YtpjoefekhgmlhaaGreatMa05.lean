/- CONTRACTS of the queue: room is made, what is put waits behind all others, what is taken was the first, how many wait. Conditions: the queue is one that was made so.
CONTRACT: the ranks (graph.Ranks). Conditions: the vector lies in memory. -/
import Derived.Test.YtpjoefekhgmlhaaGreatChecked
import Derived.WalkKit
import Derived.Conc.LoneCalls
import Derived.Conc.LoneSelect
import Derived.Conc.LoneSelectN
import Derived.KernelRfl
import Derived.Laws.Rows
import Derived.Lib.Hide
import Derived.Outline
import Derived.Test.YtpjoefekhgmlhaaGreatMa04
namespace Go.Proofs.YtpjoefekhgmlhaaGreat.Q
open Go.Conc Go.RowKit

/-- Block q holds a queue: its channel is block c, of room cap, in which l lie, the first one first. -/
def QAt (w : World) (q c cap : Nat) (l : List Value) : Prop :=
  w.heap[q]? = some (.cells #[.chan (some c)] 207 (0, 0)) ∧ l.length ≤ cap ∧ ∃ s r, w.heap[c]? = some (.chan cap l.toArray false s r false)
/-- Nothing but block c has turned. -/
structure Only (c : Nat) (w w' : World) : Prop where
  os : w'.os = w.os
  tape : w'.tape = w.tape
  output : w'.output = w.output
  size : w'.heap.size = w.heap.size
  block : ∀ k, k ≠ c → w'.heap[k]? = w.heap[k]?
theorem Only.below {c B : Nat} {w w' : World} (h : Only c w w') (hB : B ≤ c) : Below B w w' := ⟨h.os, h.tape, h.output, by rw [h.size]; exact Nat.le_refl _, fun k hk => h.block k (by omega)⟩
theorem Only.refl (c : Nat) (w : World) : Only c w w := ⟨rfl, rfl, rfl, rfl, fun _ _ => rfl⟩
theorem Only.trans {c : Nat} {a b d : World} (h : Only c a b) (k : Only c b d) : Only c a d := ⟨k.os.trans h.os, k.tape.trans h.tape, k.output.trans h.output, k.size.trans h.size, fun i hi => (k.block i hi).trans (h.block i hi)⟩

theorem set_only (w : World) (c cap : Nat) (buf : Array Value) (s r : Nat) : Only c w (w.setChan c cap buf false s r false) :=
  ⟨rfl, rfl, rfl, by simp [World.setChan], fun k hk => by simp [World.setChan, Array.getElem?_setIfInBounds_ne (Ne.symm hk)]⟩
theorem QAt.lt {w : World} {q c cap : Nat} {l : List Value} (h : QAt w q c cap l) : q < w.heap.size ∧ c < w.heap.size ∧ q ≠ c := by
  obtain ⟨h1, _, s, r, h2⟩ := h
  refine ⟨?_, ?_, ?_⟩
  · rcases Nat.lt_or_ge q w.heap.size with h' | h'
    · exact h'
    · rw [Array.getElem?_eq_none h'] at h1; cases h1
  · rcases Nat.lt_or_ge c w.heap.size with h' | h'
    · exact h'
    · rw [Array.getElem?_eq_none h'] at h2; cases h2
  · rintro rfl
    rw [h1] at h2; cases h2
theorem QAt.set {w : World} {q c cap : Nat} {l l' : List Value} (h : QAt w q c cap l) (hl : l'.length ≤ cap) (s r : Nat) : QAt (w.setChan c cap l'.toArray false s r false) q c cap l' := by
  obtain ⟨_, hc, hne⟩ := h.lt
  refine ⟨((set_only w c cap l'.toArray s r).block q hne).trans h.1, hl, s, r, heap_setChan w c cap _ _ _ _ _ hc⟩
theorem QAt.keep {w w' : World} {q c cap : Nat} {l : List Value} (h : QAt w q c cap l) (hq : w'.heap[q]? = w.heap[q]?) (hc : w'.heap[c]? = w.heap[c]?) : QAt w' q c cap l := by
  obtain ⟨h1, h2, s, r, h3⟩ := h
  exact ⟨hq.trans h1, h2, s, r, hc.trans h3⟩
theorem QAt.below {w w' : World} {q c cap : Nat} {l : List Value} (h : QAt w q c cap l) (hb : Below w.heap.size w w') : QAt w' q c cap l :=
  h.keep (hb.block q h.lt.1) (hb.block c h.lt.2.1)

theorem res_send (c : Nat) (v z : Value) (k : Int) : commResult #[scase c v z] .select k undef false = .tuple #[goInt k, .bool false] := by
  simp [commResult, scase, List.zipIdx_cons]

section
variable {q c cap : Nat} {l : List Value}
set_option maxRecDepth 100000 in
theorem put_ok (x : Int) (w : World) (hQ : QAt w q c cap l) (hr : l.length < cap) :
    Calls Tryz.prog 92 #[.pointer (some ⟨q, 0, none⟩), .int .i64 x] w fun e w' => e = .returned (.int .i64 0) ∧ QAt w' q c cap (l ++ [.int .i64 x]) ∧ Only c w w' := by
  have hQ' := hQ
  obtain ⟨hq, hl, s, r, hc⟩ := hQ
  have hcell : w.cell? ⟨q, 0, none⟩ = some (.chan (some c)) := cell_of_row w q 0 _ _ _ hq
  have hend : QAt (w.setChan c cap (l ++ [Value.int .i64 x]).toArray false (s + 1) r false) q c cap (l ++ [.int .i64 x]) := hQ'.set (by rw [List.length_append]; exact hr) _ _
  refine calls_of_loneTo fun cs => ?_
  have e : Frame.enter Tryz.prog 92 #[.pointer (some ⟨q, 0, none⟩), .int .i64 x] .normal = (base 92).at ⟨#[.pointer (some ⟨q, 0, none⟩), .int .i64 x, undef, undef, undef, undef, undef, undef, undef, undef, undef, undef, undef], []⟩ [.code (Tryz.f92.body.getD .skip)] := by
    simp [Frame.enter, Frame.at, Tryz.func92, base, Tryz.f92]
  rw [e]
  refine LoneTo.goes (n := 18) ?_
  simp only [Tryz.f92, Option.getD_some]
  s_c stepG_seq
  s_reg
  s_op
  s_c stepG_region_end
  s_c stepG_seq
  s_c stepG_seq
  s_reg
  s_op
  s_op
  s_op
  s_op
  s_c stepG_region_end
  s_reg
  s_op
  s_c stepG_region_end
  s_c stepG_seq
  s_reg
  s_stop
  refine LoneTo.step (step_lone_select_send_room (c := c) (cap := cap) (buf := l.toArray) (s := s) (r := r) (tm := false) (v := .int .i64 x) (z' := .int .i64 0)
    (stepG_comm (cases := #[scase c (.int .i64 x) (.int .i64 0)]) (blocking := false) (shape := .select) (w' := w) rfl rfl (by decide) (by simp [go_sem, execOp, scase, Act.eval])) hc (by simpa using hr)) ?_
  rw [Frame.finish_at]
  walk_nrm
  refine LoneTo.goes (n := 20) ?_
  s_op
  s_op
  s_c stepG_region_end
  s_c stepG_block
  s_cond true
  s_c stepG_seq
  s_reg
  s_op
  s_c stepG_region_end
  s_c stepG_ret'
  s_stop
  exact LoneTo.done ⟨.returned (.int .i64 0), _, rfl, ⟨rfl, hend, set_only _ _ _ _ _ _⟩, rfl, rfl, rfl, rfl, _, Tryz.func92, by simp [results, Tryz.f92, Frame.at]⟩

set_option maxRecDepth 100000 in
theorem put_full (x : Int) (w : World) (hQ : QAt w q c cap l) (hr : l.length = cap) :
    Calls Tryz.prog 92 #[.pointer (some ⟨q, 0, none⟩), .int .i64 x] w fun e w' => e = .returned (.int .i64 13) ∧ w = w' := by
  obtain ⟨hq, hl, s, r, hc⟩ := hQ
  have hcell : w.cell? ⟨q, 0, none⟩ = some (.chan (some c)) := cell_of_row w q 0 _ _ _ hq
  refine calls_of_loneTo fun cs => ?_
  have e : Frame.enter Tryz.prog 92 #[.pointer (some ⟨q, 0, none⟩), .int .i64 x] .normal = (base 92).at ⟨#[.pointer (some ⟨q, 0, none⟩), .int .i64 x, undef, undef, undef, undef, undef, undef, undef, undef, undef, undef, undef], []⟩ [.code (Tryz.f92.body.getD .skip)] := by
    simp [Frame.enter, Frame.at, Tryz.func92, base, Tryz.f92]
  rw [e]
  refine LoneTo.goes (n := 18) ?_
  simp only [Tryz.f92, Option.getD_some]
  s_c stepG_seq
  s_reg
  s_op
  s_c stepG_region_end
  s_c stepG_seq
  s_c stepG_seq
  s_reg
  s_op
  s_op
  s_op
  s_op
  s_c stepG_region_end
  s_reg
  s_op
  s_c stepG_region_end
  s_c stepG_seq
  s_reg
  s_stop
  refine LoneTo.step (step_lone_select_send_full (c := c) (cap := cap) (buf := l.toArray) (s := s) (r := r) (tm := false) (v := .int .i64 x) (z' := .int .i64 0)
    (stepG_comm (cases := #[scase c (.int .i64 x) (.int .i64 0)]) (blocking := false) (shape := .select) (w' := w) rfl rfl (by decide) (by simp [go_sem, execOp, scase, Act.eval])) hc (by simp; omega)) ?_
  rw [Frame.finish_at]
  walk_nrm
  refine LoneTo.goes (n := 20) ?_
  s_op
  s_op
  s_c stepG_region_end
  s_c stepG_block
  s_cond false
  s_c stepG_seq
  s_reg
  s_op
  s_c stepG_region_end
  s_c stepG_ret'
  s_stop
  exact LoneTo.done ⟨.returned (.int .i64 13), _, rfl, ⟨rfl, rfl⟩, rfl, rfl, rfl, rfl, _, Tryz.func92, by simp [results, Tryz.f92, Frame.at]⟩

set_option maxRecDepth 100000 in
theorem take_ok (x : Value) (w : World) (hQ : QAt w q c cap (x :: l)) :
    Calls Tryz.prog 95 #[.pointer (some ⟨q, 0, none⟩)] w fun e w' => e = .returned (.tuple #[x, .int .i64 0]) ∧ QAt w' q c cap l ∧ Only c w w' := by
  have hQ' := hQ
  obtain ⟨hq, hl, s, r, hc⟩ := hQ
  have hcell : w.cell? ⟨q, 0, none⟩ = some (.chan (some c)) := cell_of_row w q 0 _ _ _ hq
  have hb : (x :: l).toArray.extract 1 (x :: l).toArray.size = l.toArray := by simp
  have hend : QAt (w.setChan c cap l.toArray false s (r + 1) false) q c cap l := hQ'.set (by simp at hl; omega) _ _
  refine calls_of_loneTo fun cs => ?_
  have e : Frame.enter Tryz.prog 95 #[.pointer (some ⟨q, 0, none⟩)] .normal = (base 95).at ⟨#[.pointer (some ⟨q, 0, none⟩), undef, undef, undef, undef, undef, undef, undef, undef, undef, undef, undef, undef, undef], []⟩ [.code (Tryz.f95.body.getD .skip)] := by
    simp [Frame.enter, Frame.at, Tryz.func95, base, Tryz.f95]
  rw [e]
  refine LoneTo.goes (n := 18) ?_
  simp only [Tryz.f95, Option.getD_some]
  s_c stepG_seq
  s_reg
  s_op
  s_op
  s_c stepG_region_end
  s_c stepG_seq
  s_reg
  s_op
  s_op
  s_op
  s_op
  s_c stepG_region_end
  s_c stepG_seq
  s_reg
  s_stop
  refine LoneTo.step (step_lone_select_recv_buf (c := c) (cap := cap) (buf := (x :: l).toArray) (closed := false) (s := s) (r := r) (tm := false) (z := .int .i64 0)
    (stepG_comm (cases := #[rcase c (.int .i64 0)]) (blocking := false) (shape := .select) (w' := w) rfl rfl (by decide) (by simp [go_sem, execOp, rcase, Act.eval])) hc (by simp)) ?_
  rw [Frame.finish_at, hb, show (x :: l).toArray.getD 0 undef = x from rfl]
  walk_nrm
  refine LoneTo.goes (n := 24) ?_
  s_op
  s_op
  s_c stepG_region_end
  s_c stepG_block
  s_cond true
  s_c stepG_seq
  s_reg
  s_op
  s_op
  s_c stepG_region_end
  s_c stepG_seq
  s_reg
  s_op
  s_op
  s_op
  s_c stepG_region_end
  s_c stepG_ret'
  s_stop
  exact LoneTo.done ⟨.returned (.tuple #[x, .int .i64 0]), _, rfl, ⟨rfl, hend, set_only _ _ _ _ _ _⟩, rfl, rfl, rfl, rfl, _, Tryz.func95, by simp [results, Tryz.f95, Frame.at]⟩

set_option maxRecDepth 100000 in
theorem take_none (w : World) (hQ : QAt w q c cap []) :
    Calls Tryz.prog 95 #[.pointer (some ⟨q, 0, none⟩)] w fun e w' => e = .returned (.tuple #[.int .i64 0, .int .i64 14]) ∧ w = w' := by
  obtain ⟨hq, hl, s, r, hc⟩ := hQ
  have hcell : w.cell? ⟨q, 0, none⟩ = some (.chan (some c)) := cell_of_row w q 0 _ _ _ hq
  refine calls_of_loneTo fun cs => ?_
  have e : Frame.enter Tryz.prog 95 #[.pointer (some ⟨q, 0, none⟩)] .normal = (base 95).at ⟨#[.pointer (some ⟨q, 0, none⟩), undef, undef, undef, undef, undef, undef, undef, undef, undef, undef, undef, undef, undef], []⟩ [.code (Tryz.f95.body.getD .skip)] := by
    simp [Frame.enter, Frame.at, Tryz.func95, base, Tryz.f95]
  rw [e]
  refine LoneTo.goes (n := 18) ?_
  simp only [Tryz.f95, Option.getD_some]
  s_c stepG_seq
  s_reg
  s_op
  s_op
  s_c stepG_region_end
  s_c stepG_seq
  s_reg
  s_op
  s_op
  s_op
  s_op
  s_c stepG_region_end
  s_c stepG_seq
  s_reg
  s_stop
  refine LoneTo.step (step_lone_select_default (c := c) (cap := cap) (s := s) (r := r) (tm := false) (z := .int .i64 0)
    (stepG_comm (cases := #[rcase c (.int .i64 0)]) (blocking := false) (shape := .select) (w' := w) rfl rfl (by decide) (by simp [go_sem, execOp, rcase, Act.eval])) hc) ?_
  rw [Frame.finish_at]
  walk_nrm
  refine LoneTo.goes (n := 24) ?_
  s_op
  s_op
  s_c stepG_region_end
  s_c stepG_block
  s_cond false
  s_c stepG_seq
  s_reg
  s_op
  s_op
  s_c stepG_region_end
  s_c stepG_ret'
  s_stop
  exact LoneTo.done ⟨.returned (.tuple #[.int .i64 0, .int .i64 14]), _, rfl, ⟨rfl, rfl⟩, rfl, rfl, rfl, rfl, _, Tryz.func95, by simp [results, Tryz.f95, Frame.at]⟩

theorem len_any (w : World) (hQ : QAt w q c cap l) :
    Calls Tryz.prog 94 #[.pointer (some ⟨q, 0, none⟩)] w fun e w' => e = .returned (.int .i64 (l.length : Int)) ∧ w = w' := by
  obtain ⟨hq, hl, s, r, hc⟩ := hQ
  have hcell : w.cell? ⟨q, 0, none⟩ = some (.chan (some c)) := cell_of_row w q 0 _ _ _ hq
  have hlen := fun ty => run_len_chan (P := Tryz.prog) 205 ty Tryz.underlying205 hc
  go_enter Tryz.func94, Tryz.ntmps94
  go_wp2
  go_ret
  exact ⟨by simp, rfl⟩
end

theorem intInfo : ∃ i, Tryz.prog.info? 3 = some i ∧ i.bytes = 8 := by
  have h : (Tryz.prog.info? 3).map (·.bytes) = some 8 := by kernel_rfl
  obtain ⟨i, hi, hb⟩ := Option.map_eq_some_iff.1 h
  exact ⟨i, hi, hb⟩
theorem mk (n : Nat) (hn : n ≤ 4096) (w : World) : (Instr.makeChan 205 (.int .i64 (n : Int))).run Tryz.prog w = .ok (.chan (some w.heap.size)) (w.alloc (.chan n #[] false 0 0 false)) := by
  obtain ⟨i, hi, hb⟩ := intInfo
  simpa using run_makeChan (P := Tryz.prog) (w := w) Tryz.underlying205 hi .i64 n (by omega) (by rw [hb]; omega)

theorem new_ok (n : Nat) (h1 : 1 ≤ n) (h2 : n ≤ 4096) (w : World) :
    Calls Tryz.prog 91 #[.int .i64 (n : Int)] w fun e w' => ∃ q c, e = .returned (.tuple #[.pointer (some ⟨q, 0, none⟩), .int .i64 0]) ∧ QAt w' q c n [] ∧ w.heap.size ≤ q ∧ w.heap.size ≤ c ∧ Below w.heap.size w w' := by
  have hmk := mk n h2
  go_enter Tryz.func91, Tryz.ntmps91
  go_wp2
  go_ret2
  refine ⟨w.heap.size + 1, w.heap.size, rfl, ⟨?_, by simp, 0, 0, ?_⟩, by omega, Nat.le_refl _, ((Below.refl _ w).alloc (Nat.le_refl _) _).alloc (by simp) _⟩
  · have := heap_alloc_new (w.alloc (Obj.chan n #[] false 0 0 false)) (Obj.cells #[Value.chan (some w.heap.size)] 207)
    simpa only [World.size_alloc] using this
  · rw [Below.heap_alloc _ _ _ (by simp)]
    exact heap_alloc_new w _

theorem new_no (n : Int) (h : n < 1 ∨ 4096 < n) (w : World) :
    Calls Tryz.prog 91 #[.int .i64 n] w fun e w' => e = .returned (.tuple #[.pointer none, .int .i64 1]) ∧ w = w' := by
  by_cases h' : n < 1
  · go_enter Tryz.func91, Tryz.ntmps91
    go_wp2
    go_ret2
    exact ⟨rfl, rfl⟩
  · have h2 : 4096 < n := by omega
    go_enter Tryz.func91, Tryz.ntmps91
    go_wp2
    go_ret2
    exact ⟨rfl, rfl⟩
end Go.Proofs.YtpjoefekhgmlhaaGreat.Q

namespace Go.Proofs.YtpjoefekhgmlhaaGreat.Gr
open Go.RowKit Mem

/-- The ends, as places. -/
def endsTo (v : List Int) (k : Nat) : List Nat := (List.range k).filter fun u => (nxt v u).isNone
theorem sinks_nats (v : List Int) : sinks v = nats (endsTo v v.length) := rfl
theorem mem_endsTo {v : List Int} {k x : Nat} : x ∈ endsTo v k ↔ x < k ∧ nxt v x = none := by
  unfold endsTo; rw [List.mem_filter, List.mem_range]; simp
theorem Kahn.start (v : List Int) : Kahn v [] (endsTo v v.length) [] (List.replicate v.length 0) := by
  refine ⟨by simp, List.nodup_range.filter _, fun x hx => ?_, fun x hx => ?_, fun x hx => ?_, fun x hx hn => ?_, fun x y hy => absurd hy (by simp), by simp, fun u hu => absurd hu (by simp)⟩
  · exact (mem_endsTo.1 (by simpa using hx)).1
  · obtain ⟨h1, h2⟩ := mem_endsTo.1 (show x ∈ endsTo v v.length by simpa using hx)
    have : lab (List.replicate v.length 0) x = 0 := by simp [lab, h1]
    rw [this]
    exact ⟨h1, h2⟩
  · exact .inl (mem_endsTo.1 (show x ∈ endsTo v v.length by simpa using hx)).2
  · simpa using mem_endsTo.2 ⟨hx, hn⟩
theorem endsTo_len (v : List Int) : (endsTo v v.length).length ≤ v.length := by
  unfold endsTo; exact Nat.le_trans (List.length_filter_le _ _) (by simp)

/-- From block B on all cells read the same. -/
def Above (B : Nat) (w w' : World) : Prop := ∀ p : Addr, B ≤ p.block → w'.cell? p = w.cell? p
theorem Above.refl (B : Nat) (w : World) : Above B w w := fun _ _ => rfl
theorem Above.set_ {B : Nat} {w w' : World} (h : Above B w w') {q : Addr} (hq : q.block < B) (u : Value) : Above B w (w'.setCell q u) := fun p hp =>
  (World.cell?_of_block (w := w') (Below.heap_setCell w' q u p.block (by omega))).trans (h p hp)
theorem Above.only {B c : Nat} {w w' w'' : World} (h : Above B w w') (k : Q.Only c w' w'') (hc : c < B) : Above B w w'' := fun p hp =>
  (World.cell?_of_block (w := w') (k.block p.block (by omega))).trans (h p hp)
theorem Row.only {w w' : World} {g c : Nat} {ls : List Nat} (h : Row w g ls) (k : Q.Only c w w') (hc : g ≠ c) : Row w' g ls := (k.block g hc).trans h
theorem qat_set {w : World} {q c cap : Nat} {l : List Value} (h : Q.QAt w q c cap l) {p : Addr} (h1 : q ≠ p.block) (h2 : c ≠ p.block) (u : Value) : Q.QAt (w.setCell p u) q c cap l :=
  h.keep (Below.heap_setCell w p u q h1) (Below.heap_setCell w p u c h2)

/-- The ranks, or that there are none. -/
def RanksPost (v : List Int) (w : World) (e : Ending) (w' : World) : Prop :=
  (allRanked v = true ∧ PairPost w (ranksL v) 0 e w') ∨ (allRanked v = false ∧ e = .returned (.tuple #[.slice none 0 0, .int .i64 17]) ∧ Below w.heap.size w w')

theorem ranks_no (A : Option Addr) (c : Nat) (v : List Int) (w : World) (hA : Lies w A (ints v)) (hl : v.length ≤ 9223372036854775807) (he : errno v ≠ 0) :
    Calls Tryz.prog 54 #[.slice A v.length c] w fun e w' => e = .returned (.tuple #[.slice none 0 0, .int .i64 (errno v)]) ∧ w = w' := by
  have hc := Lib.hid (sinks_no A c v w hA hl he)
  have t : (errno v != 0) = true := by simpa using he
  generalize errno v = en at *
  clear he
  go_enter Tryz.func54, Tryz.ntmps54
  go_wp2_with (go_at_call 90; refine (hc.out).mono ?_; rintro e w' ⟨rfl, rfl⟩)
  go_ret2
  exact ⟨rfl, rfl⟩

theorem row_lies {w : World} {g : Nat} {ls : List Nat} (h : Row w g ls) : Lies w (some ⟨g, 0, none⟩) (ints (nats ls)) := fun _ => by
  refine ⟨g, 0, rfl, h.lt, fun i u hu => ?_⟩
  rw [ints, nats, List.map_map, List.getElem?_map] at hu
  obtain ⟨y, hy, rfl⟩ := Option.map_eq_some_iff.1 hu
  have h2 := (List.getElem?_eq_some_iff.1 hy).1
  rw [Nat.zero_add, h.cell h2]
  simp [lab, hy]

set_option maxRecDepth 100000 in
set_option maxHeartbeats 2000000 in
theorem ranks_yes (A : Option Addr) (c : Nat) (v : List Int) (w : World) (hA : Lies w A (ints v)) (he : errno v = 0) :
    Calls Tryz.prog 54 #[.slice A v.length c] w (RanksPost v w) := by
  obtain ⟨hl, hg⟩ := errno_zero he
  have hc : Calls Tryz.prog 90 #[.slice A v.length c] w (PairPost w (sinks v) 0) := sinks_yes A c v w hA he
  have HC := Lib.hid hc
  have HG := Lib.hid hg
  have hmk := run_make_row' (P := Tryz.prog) 29 3 (.int .i64 0) 8 Tryz.underlying29 int_info rfl .i64 .i64 v.length (by omega) (by omega)
  clear hc he hg
  by_cases hz : v.length = 0
  · have t : ((v.length : Int) == 0) = true := by simp [hz]
    have HZ := Lib.hid hz
    clear hz
    go_enter Tryz.func54, Tryz.ntmps54
    go_wp2_with (go_at_call 90; refine (HC.out).mono ?_; rintro e w1 ⟨S, m, rfl, hS, hb1⟩)
    go_ret2
    refine .inl ⟨?_, ?_⟩
    · rw [allRanked_iff HG.out]; intro u hu; have := HZ.out; omega
    · have hr : ranksL v = [] := by unfold ranksL; rw [HZ.out]; rfl
      rw [hr]
      refine ⟨_, _, by rw [HZ.out]; rfl, fun h => absurd h (by simp), hb1.alloc hb1.size _⟩
  · have t : ((v.length : Int) == 0) = false := by rw [beq_eq_false_iff_ne]; omega
    have hq := Q.new_ok v.length (by omega) (by omega)
    have HQ := Lib.hid hq
    have HZ := Lib.hid hz
    clear hz hq
    go_enter Tryz.func54, Tryz.ntmps54
    go_wp2_with (go_at_call 90; refine (HC.out).mono ?_; rintro e w1 ⟨S, m, rfl, hS, hb1⟩)
    go_wp2_with (go_at_call 91; refine (HQ.out _).mono ?_; rintro e w3 ⟨q, ch, rfl, hQ, hqg, hcg, hb3⟩)
    have hR3 : Row w3 w1.heap.size (List.replicate v.length 0) := (Row.made w1 v.length).below hb3 (by simp)
    have hb13 : Below w1.heap.size w1 w3 := ((Below.refl _ w1).alloc (Nat.le_refl _) _).trans (hb3.mono (by simp))
    have hq1 : w1.heap.size < q ∧ w1.heap.size < ch := by simp at hqg hcg; omega
    have hl1 := hb1.size
    clear hb3 hqg hcg hmk HC HQ
    have hsl := endsTo_len v
    have hsn : (sinks v).length = (endsTo v v.length).length := by rw [sinks_nats]; simp [nats]
    rw [hsn]
    have HSN := Lib.hid hsn
    clear hsn
    go_loopw [42] (fun i wr => ∃ k : Nat, k ≤ (endsTo v v.length).length ∧ i = .int .i64 k ∧ Q.QAt wr q ch v.length ((ints (sinks v)).take k) ∧ Row wr w1.heap.size (List.replicate v.length 0) ∧ Below w1.heap.size w1 wr) (fun i _ => (endsTo v v.length).length - (intOf i).toNat)
    case atStart => exact ⟨0, by omega, rfl, hQ, hR3, hb13⟩
    case round =>
      obtain ⟨k, hk, rfl, hQr, hRr, hbr⟩ := hrel
      by_cases hlt : k < (endsTo v v.length).length
      · have hkl : k < (sinks v).length := by rw [HSN.out]; exact hlt
        obtain ⟨b, off, rfl, hb, hcell0⟩ := hS.at_map hkl
        have hcell := (hbr.cell (p := ⟨b, off + k, none⟩) hb).trans hcell0
        have htk : (ints (sinks v)).take (k + 1) = (ints (sinks v)).take k ++ [.int .i64 (sinks v)[k]] := by
          rw [List.take_add_one, List.getElem?_map, List.getElem?_eq_getElem hkl]; rfl
        have hput := Q.put_ok (sinks v)[k] wr hQr (by simp; omega)
        rw [← htk] at hput
        obtain ⟨x, hx⟩ : ∃ x, x = (sinks v)[k] := ⟨_, rfl⟩
        rw [← hx] at hcell hput
        have HPUT := Lib.hid hput
        clear hput hx htk hcell0
        go_wp2_with (go_at_call 92; refine (HPUT.out).mono ?_; rintro e w4 ⟨rfl, hQ4, ho4⟩)
        refine ⟨⟨k + 1, by omega, by go_num, hQ4, hRr.only ho4 (by omega), hbr.trans (ho4.below (by omega))⟩, by simp [intOf]; omega⟩
      · have ek : k = (endsTo v v.length).length := by omega
        have hQa : Q.QAt wr q ch v.length (ints (nats (endsTo v v.length))) := by
          rw [List.take_of_length_le (by simp [HSN.out]; omega)] at hQr; exact hQr
        clear hQr hQ hR3 hb13 ek
        obtain ⟨wp, rfl⟩ : ∃ wp : World, wp = wr := ⟨_, rfl⟩
        have hbp : Below w.heap.size w wp := hb1.trans (hbr.mono hl1)
        have hAp := hA.below hbp
        have hback := back_any A c v wp hAp hl HG.out
        have HBACK := Lib.hid hback
        clear hback
        go_wp2_with (go_at_call 93; refine (HBACK.out).mono ?_; rintro e w4 ⟨g, rfl, hgw, hb4, hfrom⟩)
        have hql := hQa.lt
        have hrl := hRr.lt
        have hQ4 := hQa.below hb4
        have hR4 := hRr.below hb4 hrl
        have hbw4 : Below w.heap.size w w4 := hbp.trans (hb4.mono hbp.size)
        have hK4 := Kahn.start v
        clear hQa hRr hbr hS hb4 HBACK hAp
        go_wp2_with fail
        go_loopw [11] (fun d wr => ∃ D Qs rs : List Nat, d = .int .i64 (D.length : Int) ∧ Kahn v D Qs [] rs ∧ Q.QAt wr q ch v.length (ints (nats Qs)) ∧ Row wr w1.heap.size rs ∧ Above wp.heap.size w4 wr ∧ Below w.heap.size w wr) (fun d _ => v.length - (intOf d).toNat)
        case atStart => exact ⟨[], _, _, rfl, hK4, hQ4, hR4, Above.refl _ _, hbw4⟩
        case round =>
          clear hK4 hQ4 hR4 hbw4
          obtain ⟨D, Qs, rs, rfl, hK, hQr, hR, hab, hbr⟩ := hrel
          have hfew := hK.few
          have hlen := Q.len_any wr hQr
          have hil : (ints (nats Qs)).length = Qs.length := by simp [ints, nats]
          rw [hil] at hlen
          have HLEN := Lib.hid hlen
          have HIL := Lib.hid hil
          have HK := Lib.hid hK
          clear hlen hil hK
          cases Qs with
          | nil =>
            have tg : decide ((0 : Int) < 0) = false := by decide
            by_cases hd : D.length < v.length
            · have hn := Kahn.end_no HK.out HG.out hd
              have HN := Lib.hid hn
              clear hn
              go_wp2_with (go_at_call 94; refine (HLEN.out).mono ?_; rintro e w' ⟨rfl, rfl⟩)
              go_ret2
              exact .inr ⟨HN.out, rfl, hbr⟩
            · have hn := Kahn.end_yes HK.out HG.out hd
              have HN := Lib.hid hn
              clear hn
              go_wp2_with (go_at_call 94; refine (HLEN.out).mono ?_; rintro e w' ⟨rfl, rfl⟩)
              go_ret2
              have hrl := row_lies hR
              have e1 : nats rs = ranksL v := HN.out.2
              rw [e1] at hrl
              have e2 : (ranksL v).length = v.length := by simp [ranksL]
              exact .inl ⟨HN.out.1, _, _, by rw [e2]; rfl, hrl, hbr⟩
          | cons x Qs =>
            have hKt := Kahn.take HK.out HG.out
            have hx : x < v.length := HK.out.lt x (by simp)
            have htake := Q.take_ok (.int .i64 (x : Int)) wr (show Q.QAt wr q ch v.length (.int .i64 (x : Int) :: ints (nats Qs)) from hQr)
            obtain ⟨b, o, cc, hf1, hbb, hf2⟩ := hfrom x hx
            have hKtf := hKt.few
            have HT := Lib.hid htake
            have HKT := Lib.hid hKt
            clear htake hKt HK
            have hdl : D.length + 1 + Qs.length ≤ v.length := by simpa using hKtf
            have tg : decide ((0 : Int) < ((x :: Qs).length : Int)) = true := by rw [decide_eq_true_eq]; simp only [List.length_cons]; omega
            have hpl : (preds v x).length ≤ v.length := by have := off_end v x; omega
            clear hKtf hfew
            go_wp2_with (first | (go_at_call 94; refine (HLEN.out).mono ?_; rintro e w' ⟨rfl, rfl⟩) | (go_at_call 95; refine (HT.out).mono ?_; rintro e w5 ⟨rfl, hQ5, ho5⟩; have hab5 := hab.only ho5 (by omega); have hcg := (hab5 ⟨g, x, none⟩ hgw).trans hf1))
            have hR5 := hR.only ho5 (by omega)
            have hb5 : Below w.heap.size w w5 := hbr.trans (ho5.below (by omega))
            clear hR hab hQr hbr HT HLEN ho5
            go_loopw [67] (fun i wr => ∃ (j : Nat) (Qi rs : List Nat), j ≤ (preds v x).length ∧ i = .int .i64 j ∧ Kahn v (D ++ [x]) Qi ((preds v x).drop j) rs ∧ Q.QAt wr q ch v.length (ints (nats Qi)) ∧ Row wr w1.heap.size rs ∧ Above wp.heap.size w4 wr ∧ Below w.heap.size w wr) (fun i _ => (preds v x).length - (intOf i).toNat)
            case atStart => exact ⟨0, Qs, rs, by omega, rfl, HKT.out, hQ5, hR5, hab5, hb5⟩
            case round =>
              clear hQ5 hR5 hab5 hb5 hcg HKT
              obtain ⟨j, Qi, rs, hj, rfl, hK, hQi, hRi, habi, hbi⟩ := hrel
              by_cases hlt : j < (preds v x).length
              · obtain ⟨u, hu⟩ : ∃ u, u = (preds v x)[j] := ⟨_, rfl⟩
                have hdrop : (preds v x).drop j = u :: (preds v x).drop (j + 1) := by rw [hu]; exact List.drop_eq_getElem_cons hlt
                obtain ⟨hul, hun⟩ := mem_predsTo.1 (show u ∈ predsTo v x v.length by rw [hu]; exact List.getElem_mem hlt)
                rw [hdrop] at hK
                have hroom := hK.room
                have hcu := (habi ⟨b, o + j, none⟩ hbb).trans (hf2 j u (by rw [hu]; exact List.getElem?_eq_getElem hlt))
                have hxr := hK.rank x (by simp)
                have hrb := hxr.bound HG.out
                have hxl : x < rs.length := by rw [hK.len]; exact hx
                have hul2 : u < rs.length := by rw [hK.len]; exact hul
                have hcx := hRi.cell hxl
                have hcu2 := hRi.cell hul2
                have hfu := hRi.free u
                have hKp := hK.put (by simp) hun
                have hRs := hRi.set_ u (lab rs x + 1)
                have hQs := qat_set hQi (p := ⟨w1.heap.size, u, none⟩) (by show q ≠ w1.heap.size; omega) (by show ch ≠ w1.heap.size; omega) (.int .i64 ((lab rs x + 1 : Nat) : Int))
                have hput := Q.put_ok (u : Int) _ hQs (by simp [ints, nats] at hroom ⊢; omega)
                have habs := habi.set_ (q := ⟨w1.heap.size, u, none⟩) (by show w1.heap.size < wp.heap.size; omega) (.int .i64 ((lab rs x + 1 : Nat) : Int))
                have hbs := hbi.setCell (p := ⟨w1.heap.size, u, none⟩) (by show w.heap.size ≤ w1.heap.size; omega) (.int .i64 ((lab rs x + 1 : Nat) : Int))
                obtain ⟨a, ha⟩ : ∃ a, a = lab rs x := ⟨_, rfl⟩
                rw [← ha] at hcx hKp hRs hput habs hbs hrb
                have ea : ((a + 1 : Nat) : Int) = (a : Int) + 1 := by omega
                rw [ea] at hRs hput habs hbs
                have HPUT := Lib.hid hput
                have HKP := Lib.hid hKp
                have HU := Lib.hid hu
                clear hput hKp hu hdrop hun hroom hxr hK ha ea hQs hQi hRi
                go_wp2_with (go_at_call 92; refine (HPUT.out).mono ?_; rintro e w6 ⟨rfl, hQ6, ho6⟩)
                refine ⟨⟨j + 1, Qi ++ [u], _, by omega, by go_num, HKP.out, by simpa [ints, nats] using hQ6, hRs.only ho6 (by omega), habs.only ho6 (by omega), hbs.trans (ho6.below (by omega))⟩, by simp [intOf]; omega⟩
              · rw [List.drop_eq_nil_of_le (by omega)] at hK
                have HK := Lib.hid hK
                clear hK
                go_wp2_with fail
                refine ⟨⟨D ++ [x], Qi, rs, by simp, HK.out, hQi, hRi, habi, hbi⟩, by simp [intOf]; omega⟩
end Go.Proofs.YtpjoefekhgmlhaaGreat.Gr
