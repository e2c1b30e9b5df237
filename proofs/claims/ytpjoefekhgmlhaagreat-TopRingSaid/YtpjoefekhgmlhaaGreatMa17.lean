/- CONTRACTS of certfile's writer: num, group. Conditions: no error before; numbers that fit.
CONTRACTS of check: steps, its function, fall. Conditions: the network may be; one rank of each node. -/
import Derived.Test.YtpjoefekhgmlhaaGreatMa16
import Derived.OneCell
import Derived.Test.YtpjoefekhgmlhaaGreatMa14
import Derived.Laws.EntriesVeiled
namespace Go.Proofs.YtpjoefekhgmlhaaGreat.Tp
open Go.RowKit Mem

/-- Nothing has turned but block g and the row that was own. -/
structure Near (own own' : Option Nat) (g : Nat) (W W' : World) : Prop where
  os : W'.os = W.os
  tape : W'.tape = W.tape
  output : W'.output = W.output
  size : W.heap.size ≤ W'.heap.size
  block : ∀ b, b < W.heap.size → b ≠ g → own ≠ some b → W'.heap[b]? = W.heap[b]?
  grow : own' = own ∨ ∀ b, own' = some b → W.heap.size ≤ b
theorem Near.trans {o1 o2 o3 : Option Nat} {g : Nat} {A B C : World} (h : Near o1 o2 g A B) (k : Near o2 o3 g B C) : Near o1 o3 g A C := by
  refine ⟨k.os.trans h.os, k.tape.trans h.tape, k.output.trans h.output, Nat.le_trans h.size k.size, fun b hb hg ho => ?_, ?_⟩
  · refine (k.block b (Nat.lt_of_lt_of_le hb h.size) hg (fun e => ?_)).trans (h.block b hb hg ho)
    rcases h.grow with h1 | h1
    · rw [h1] at e; exact ho e
    · have := h1 b e; omega
  · rcases k.grow with h2 | h2
    · rcases h.grow with h1 | h1
      · exact .inl (h2.trans h1)
      · exact .inr fun b e => h1 b (h2 ▸ e)
    · exact .inr fun b e => Nat.le_trans h.size (h2 b e)
theorem Near.of_below {own : Option Nat} {g : Nat} {W W' : World} (h : Below W.heap.size W W') : Near own own g W W' :=
  ⟨h.os, h.tape, h.output, h.size, fun b hb _ _ => h.block b hb, .inl rfl⟩
theorem Near.of_grown {own own' : Option Nat} {g : Nat} {W W' : World} (h : W.grownBy W' own) (hat : own' = own ∨ own' = some W.heap.size) : Near own own' g W W' :=
  ⟨h.os, h.tape, h.output, h.size, fun b hb _ ho => h.block b hb (fun e => ho e.symm), hat.imp id fun e b hb => by rw [e] at hb; injection hb with hb; omega⟩
theorem Near.set_ (own : Option Nat) (g k : Nat) (W : World) (v : Value) : Near own own g W (W.setCell ⟨g, k, none⟩ v) :=
  ⟨rfl, rfl, rfl, by simp, fun b _ hg _ => Below.heap_setCell W ⟨g, k, none⟩ v b hg, .inl rfl⟩
theorem Near.below {own own' : Option Nat} {g base : Nat} {W W' : World} (h : Near own own' g W W') (hg : base ≤ g) (ho : ∀ b, own = some b → base ≤ b) (hb : base ≤ W.heap.size) : Below base W W' :=
  ⟨h.os, h.tape, h.output, h.size, fun b hb' => h.block b (by omega) (by omega) (fun e => by have := ho b e; omega)⟩

/-- A writer without an error, in block g, that has written xs. -/
structure WAt (base : Nat) (W : World) (g : Nat) (S : Option Addr) (n cp : Nat) (xs : List Nat) : Prop where
  row : VRow W g [.slice S n cp, .int .i64 0]
  own : W.ownsRow base 5 1 (.slice S n cp) n (bytes xs)
  low : base ≤ g
  apart : (Value.slice S n cp).ownBlock ≠ some g
theorem WAt.below {base : Nat} {W W' : World} {g : Nat} {S : Option Addr} {n cp : Nat} {xs : List Nat} (h : WAt base W g S n cp xs) (hb : Below W.heap.size W W') : WAt base W' g S n cp xs :=
  ⟨h.row.below hb h.row.lt, own_below h.own hb, h.low, h.apart⟩
def WPost (base : Nat) (W : World) (g : Nat) (own : Option Nat) (xs : List Nat) (e : Ending) (W' : World) : Prop :=
  ∃ S n cp, e = .returned (.tuple #[]) ∧ WAt base W' g S n cp xs ∧ Near own (Value.slice S n cp).ownBlock g W W'

/-- Behind an append to what has been written. -/
theorem WAt.step {base : Nat} {W w3 : World} {g : Nat} {S S3 : Option Addr} {n cp m c3 : Nat} {xs ys : List Nat} (h : WAt base W g S n cp xs) (hown : w3.ownsRow base 5 1 (.slice S3 (n + m) c3) (n + m) (bytes xs ++ bytes ys)) (hg : W.grownBy w3 (Value.slice S n cp).ownBlock)
    (hat : (Value.slice S3 (n + m) c3).ownBlock = (Value.slice S n cp).ownBlock ∨ (Value.slice S3 (n + m) c3).ownBlock = some W.heap.size) :
    VRow w3 g [.slice S n cp, .int .i64 0] ∧ WAt base (w3.setCell ⟨g, 0, none⟩ (.slice S3 (n + m) c3)) g S3 (n + m) c3 (xs ++ ys) ∧ Near (Value.slice S n cp).ownBlock (Value.slice S3 (n + m) c3).ownBlock g W (w3.setCell ⟨g, 0, none⟩ (.slice S3 (n + m) c3)) ∧
      (w3.setCell ⟨g, 0, none⟩ (.slice S3 (n + m) c3)).setCell ⟨g, 1, none⟩ (.int .i64 0) = w3.setCell ⟨g, 0, none⟩ (.slice S3 (n + m) c3) := by
  have hr3 : VRow w3 g [.slice S n cp, .int .i64 0] := h.row.keep hg.size (hg.block g h.row.lt (fun e => h.apart e.symm))
  have ha3 : (Value.slice S3 (n + m) c3).ownBlock ≠ some g := by
    rcases hat with e | e
    · rw [e]; exact h.apart
    · rw [e]; intro e2; injection e2 with e2; have := h.row.lt; omega
  have hr4 := hr3.set_ 0 (.slice S3 (n + m) c3)
  have e0 : (w3.setCell ⟨g, 0, none⟩ (.slice S3 (n + m) c3)).cell? ⟨g, 1, none⟩ = some (.int .i64 0) := hr4.cell 1 (by simp)
  refine ⟨hr3, ⟨hr4, ?_, h.low, ha3⟩, (Near.of_grown hg hat).trans (Near.set_ _ g 0 w3 _), setCell_self e0⟩
  rw [bytes_app]
  exact ownsRow_setCell_other hown (a := ⟨g, 0, none⟩) ha3 _

set_option maxRecDepth 100000 in
set_option maxHeartbeats 1000000 in
theorem wnum_any (base g : Nat) (S : Option Addr) (n cp : Nat) (xs : List Nat) (A : Option Addr) (c : Nat) (l : List Nat) (size : Nat) (W : World) (hW : WAt base W g S n cp xs) (hA : Lies W A (Gr.ints (l.map fun x : Nat => (x : Int)))) (hl : l.length ≤ 16) (hs : size = 1 ∨ size = 2 ∨ size = 4) (hb : ∀ x ∈ l, x < 256 ^ size) (hx : n ≤ 10000000) :
    Calls Tryz.prog 75 #[.pointer (some ⟨g, 0, none⟩), .int .i64 (size : Int), .slice A l.length c] W (WPost base W g (Value.slice S n cp).ownBlock (xs ++ rowB size l)) := by
  obtain ⟨i0, hi, hz0, hz1, hz2⟩ := info_parts byte_info
  have hrow := row_bytes A c l size W hA hl hs hb
  have hrl := rowB_len hs l
  obtain ⟨rb, hrb⟩ : ∃ rb, rb = rowB size l := ⟨_, rfl⟩
  obtain ⟨M, hM⟩ : ∃ M, M = rb.length := ⟨_, rfl⟩
  rw [← hrb] at hrow hrl ⊢
  have hM2 : M ≤ 64 := by
    rw [hM, hrl]
    exact Nat.le_trans (Nat.mul_le_mul hl (show size ≤ 4 by omega)) (by omega)
  have hc1 : W.cell? ⟨g, 1, none⟩ = some (.int .i64 0) := hW.row.cell 1 (by simp)
  have HROW := Lib.hid hrow
  have HM := Lib.hid hM
  have HW := Lib.hid hW
  clear hrow hrl hrb hM hs hb hA hW
  go_enter Tryz.func75, Tryz.ntmps75
  go_wp2_with fail
  refine (HROW.out).mono ?_
  rintro e w2 ⟨R, m, rfl, hL, hb2, _, _⟩
  rw [bytes_len, ← HM.out]
  have hW2 := HW.out.below hb2
  have hN2 : Near (Value.slice S n cp).ownBlock (Value.slice S n cp).ownBlock g W w2 := .of_below hb2
  have hd0 : w2.cell? ⟨g, 0, none⟩ = some (.slice S n cp) := hW2.row.cell 0 (by simp)
  have hown := hW2.own
  have hbase : base ≤ w2.heap.size := Nat.le_trans hW2.low (Nat.le_of_lt hW2.row.lt)
  have HL := Lib.hid hL
  have HN2 := Lib.hid hN2
  have HW2 := Lib.hid hW2
  clear hc1 hL hb2 hN2 hW2
  go_wp2_with (at_builtin; refine wpList_append_lies _ rfl (.tmp 23) (.tmp 24) _ rfl base 5 i0 _ 1 1 Tryz.underlying45 hi hz0 hz1 hz2 rfl (by omega) (.slice S n cp) n _ rfl hown R M m (bytes rb) rfl (by rw [bytes_len, HM.out, Nat.mul_one]) HL.out (bytes_one _) (by simp only [maxLen]; omega) (by omega) hbase ?_; intro v3 w3 hown3 hg3 hat3; obtain ⟨S3, c3, rfl, hc3, hc3'⟩ := own_form hown3; obtain ⟨hr3, hW4, hN4, hse⟩ := HW2.out.step hown3 hg3 hat3; have hq0 := hr3.cell 0 (by simp); have hqf := hr3.free 0 (by simp); have hq1 := hW4.row.cell 1 (by simp); have hq1f := hW4.row.free 1 (by simp); simp only [List.getElem_cons_zero, List.getElem_cons_succ] at hq0 hq1; have HW4 := Lib.hid hW4; have HN4 := Lib.hid hN4; have hu0 := hr3.cell 1 (by simp); have hu1 := hr3.free 1 (by simp); simp only [List.getElem_cons_zero, List.getElem_cons_succ] at hu0; clear hW4 hN4 hown3 hg3 hat3 hr3)
  exact bodyPost_end (v := .tuple #[]) (by simp [results, Tryz.results75, go_sem]) rfl ⟨S3, n + M, c3, rfl, HW4.out, HN2.out.trans HN4.out⟩

set_option maxRecDepth 100000 in
set_option maxHeartbeats 1000000 in
theorem wgroup_any (base g : Nat) (S : Option Addr) (n cp : Nat) (xs : List Nat) (A : Option Addr) (c : Nat) (l : List Nat) (W : World) (hW : WAt base W g S n cp xs) (hA : Held W (Value.slice S n cp).ownBlock A (Gr.ints (l.map fun x : Nat => (x : Int)))) (hAg : 0 < l.length → ∀ a, A = some a → a.block ≠ g) (hl : l.length ≤ 10000) (hb : ∀ x ∈ l, x < 16384) (hx : n ≤ 10000000) :
    Calls Tryz.prog 76 #[.pointer (some ⟨g, 0, none⟩), .slice A l.length c] W (WPost base W g (Value.slice S n cp).ownBlock (xs ++ l.flatMap gp)) := by
  obtain ⟨i0, hi, hz0, hz1, hz2⟩ := info_parts byte_info
  have H := Lib.hid hb
  have HW := Lib.hid hW
  have HA := Lib.hid hA
  have HAG := Lib.hid hAg
  clear hb hW hA hAg
  go_enter Tryz.func76, Tryz.ntmps76
  go_wp2_with fail
  go_loopw [10] (fun i wr => ∃ (k : Nat) (S' : Option Addr) (n' cp' : Nat), k ≤ l.length ∧ i = .int .i64 k ∧ Hid (WAt base wr g S' n' cp' (xs ++ (l.take k).flatMap gp)) ∧ n' ≤ n + 2 * k ∧ Hid (Near (Value.slice S n cp).ownBlock (Value.slice S' n' cp').ownBlock g W wr)) (fun i _ => l.length - (intOf i).toNat)
  case atStart => exact ⟨0, S, n, cp, by omega, rfl, Lib.hid (by simpa using HW.out), by omega, Lib.hid (.of_below (Below.refl _ _))⟩
  case round =>
    obtain ⟨k, S', n', cp', hk, rfl, HWr, hn', HNr⟩ := hrel
    by_cases hlt : k < l.length
    · have hlt' : k < (l.map fun x : Nat => (x : Int)).length := by simpa using hlt
      obtain ⟨b, off, hAe, hbb, hcell0⟩ := HA.out.lies.at_map hlt'
      have hpos : 0 < l.length := by omega
      have hcell : wr.cell? ⟨b, off + k, none⟩ = some (.int .i64 (l[k] : Int)) := by
        rw [World.cell?_of_block (w := W) (HNr.out.block b hbb (HAG.out hpos _ hAe) (HA.out.apart (by simpa [Gr.ints] using hpos) _ hAe)), hcell0, List.getElem_map]
      have hx := H.out _ (List.getElem_mem hlt)
      have hnx : xs ++ (l.take (k + 1)).flatMap gp = xs ++ (l.take k).flatMap gp ++ gp l[k] := by rw [List.take_succ_eq_append_getElem hlt, List.flatMap_append, List.append_assoc]; simp
      obtain ⟨x, hxe⟩ : ∃ x, x = l[k] := ⟨_, rfl⟩
      rw [← hxe] at hcell hx hnx
      have hgp := gput_any x hx wr
      have hg2 := gp_len x
      obtain ⟨gl, hgl⟩ : ∃ gl, gl = gp x := ⟨_, rfl⟩
      rw [← hgl] at hgp hg2 hnx
      obtain ⟨M, hM⟩ : ∃ M, M = gl.length := ⟨_, rfl⟩
      rw [← hM] at hg2
      obtain ⟨hg1, hg2⟩ := hg2
      have hc1 : wr.cell? ⟨g, 1, none⟩ = some (.int .i64 0) := HWr.out.row.cell 1 (by simp)
      have HGP := Lib.hid hgp
      have HM := Lib.hid hM
      have HNX := Lib.hid hnx
      clear hgp hM hnx hgl hxe hx hcell0 hbb
      subst hAe
      go_wp2_with fail
      refine (HGP.out).mono ?_
      rintro e w2 ⟨R, m, rfl, hL, hb2, _, _⟩
      rw [bytes_len, ← HM.out]
      have hW2 := HWr.out.below hb2
      have hN2 : Near (Value.slice S' n' cp').ownBlock (Value.slice S' n' cp').ownBlock g wr w2 := .of_below hb2
      have hd0 : w2.cell? ⟨g, 0, none⟩ = some (.slice S' n' cp') := hW2.row.cell 0 (by simp)
      have hown := hW2.own
      have hbase : base ≤ w2.heap.size := Nat.le_trans hW2.low (Nat.le_of_lt hW2.row.lt)
      have HL := Lib.hid hL
      have HN2 := Lib.hid hN2
      have HW2 := Lib.hid hW2
      clear hc1 hcell hL hb2 hN2 hW2 HWr HGP
      go_wp2_with (at_builtin; refine wpList_append_lies _ rfl (.tmp 28) (.tmp 29) _ rfl base 5 i0 _ 1 1 Tryz.underlying45 hi hz0 hz1 hz2 rfl (by omega) (.slice S' n' cp') n' _ rfl hown R M m (bytes gl) rfl (by rw [bytes_len, HM.out, Nat.mul_one]) HL.out (bytes_one _) (by simp only [maxLen]; omega) (by omega) hbase ?_; intro v3 w3 hown3 hg3 hat3; obtain ⟨S3, c3, rfl, hc3, hc3'⟩ := own_form hown3; obtain ⟨hr3, hW4, hN4, hse⟩ := HW2.out.step hown3 hg3 hat3; have hq0 := hr3.cell 0 (by simp); have hqf := hr3.free 0 (by simp); have hq1 := hW4.row.cell 1 (by simp); have hq1f := hW4.row.free 1 (by simp); simp only [List.getElem_cons_zero, List.getElem_cons_succ] at hq0 hq1; have HW4 := Lib.hid hW4; have HN4 := Lib.hid hN4; have hu0 := hr3.cell 1 (by simp); have hu1 := hr3.free 1 (by simp); simp only [List.getElem_cons_zero, List.getElem_cons_succ] at hu0; clear hW4 hN4 hown3 hg3 hat3 hr3)
      refine ⟨⟨k + 1, S3, n' + M, c3, by omega, by go_num, Lib.hid (by rw [HNX.out]; exact HW4.out), by omega, Lib.hid (HNr.out.trans (HN2.out.trans HN4.out))⟩, by simp [intOf]; omega⟩
    · obtain rfl : k = l.length := by omega
      go_wp2_with fail
      refine bodyPost_end (v := .tuple #[]) (by simp [results, Tryz.results76, go_sem]) rfl ⟨S', n', cp', rfl, ?_, HNr.out⟩
      have := HWr.out
      rwa [List.take_of_length_le (Nat.le_refl _)] at this
end Go.Proofs.YtpjoefekhgmlhaaGreat.Tp

namespace Go.Proofs.YtpjoefekhgmlhaaGreat.Tp
open Go.RowKit Mem

theorem find_mem {l : List RuleT} {a : Nat} {r : RuleT} (h : findL l a = some r) : r ∈ l := by
  have key : ∀ (l : List RuleT) (o : Option RuleT), (∀ b, o = some b → b = r → True) → ∀ s, l.foldl (pickR a) o = some s → s ∈ l ∨ o = some s := by
    intro l
    induction l with
    | nil => intro o _ s hs; exact .inr hs
    | cons x l ih =>
      intro o _ s hs
      rcases ih (pickR a o x) (fun _ _ _ => trivial) s hs with h1 | h1
      · exact .inl (List.mem_cons_of_mem _ h1)
      · unfold pickR at h1
        split at h1
        · split at h1
          · injection h1 with h1; exact .inl (by rw [← h1]; simp)
          · split at h1
            · exact .inr h1
            · injection h1 with h1; exact .inl (by rw [← h1]; simp)
        · exact .inr h1
  rcases key l none (fun _ _ _ => trivial) r h with h1 | h1
  · exact h1
  · cases h1
theorem step_lt {net : List (List RuleT)} (h : NetOk net) {a v w : Nat} (hs : stepN net a v = some w) : w < net.length := by
  unfold stepN at hs
  split at hs
  · cases hs
  · rename_i l hl
    unfold nextL at hs
    split at hs
    · cases hs
    · rename_i r hr
      split at hs
      · rename_i hact
        injection hs with hs
        have hlm : l ∈ net := List.mem_of_getElem? hl
        have hok := ((h.table l hlm).rule r (find_mem hr)).act
        rcases hok with ⟨_, h2⟩ | ⟨h2, _⟩
        · omega
        · omega
      · cases hs

/-! ### the function that steps -/
/-- A function value that steps on a network. -/
def StepFn (w : World) (f : Value) (net : List (List RuleT)) : Prop :=
  ∃ g A c, f = .func (.func 101) #[] #[.pointer (some ⟨g, 0, none⟩)] ∧ g < w.heap.size ∧ w.cell? ⟨g, 0, none⟩ = some (.slice A net.length c) ∧ NetAt w A net
theorem StepFn.below {w w' : World} {f : Value} {net : List (List RuleT)} (h : StepFn w f net) (hb : Below w.heap.size w w') : StepFn w' f net := by
  obtain ⟨g, A, c, e, hg, hc, hN⟩ := h
  exact ⟨g, A, c, e, Nat.lt_of_lt_of_le hg hb.size, (hb.cell (p := ⟨g, 0, none⟩) hg).trans hc, hN.below hb⟩
set_option maxHeartbeats 400000 in
theorem stepf_any (A : Option Addr) (c g : Nat) (net : List (List RuleT)) (a v : Nat) (w : World) (hc : w.cell? ⟨g, 0, none⟩ = some (.slice A net.length c)) (hN : NetAt w A net) (h : NetOk net) (hv : v < net.length) (ha : a < 4294967296) :
    Calls Tryz.prog 101 #[.int .u32 (a : Int), .int .i64 (v : Int), .pointer (some ⟨g, 0, none⟩)] w fun e w' => e = .returned (.tuple #[optInt (stepN net a v), .bool (stepN net a v).isSome]) ∧ Below w.heap.size w w' := by
  have hs := step_any A c net a v w hN h hv ha
  have HS := Lib.hid hs
  generalize stepN net a v = o at *
  clear hs h hN
  go_enter Tryz.func101, Tryz.ntmps101
  go_wp2_with fail
  refine (HS.out).mono ?_
  rintro e w2 ⟨rfl, hb2⟩
  go_wp2_with fail
  go_ret2
  exact ⟨rfl, hb2⟩
def StepsPost (w : World) (net : List (List RuleT)) (e : Ending) (w' : World) : Prop := ∃ f, e = .returned (.agg #[.int .i64 (net.length : Int), f]) ∧ StepFn w' f net ∧ Below w.heap.size w w'
set_option maxHeartbeats 400000 in
theorem steps_any (A : Option Addr) (c : Nat) (net : List (List RuleT)) (w : World) (hN : NetAt w A net) :
    Calls Tryz.prog 61 #[.agg #[.slice A net.length c]] w (StepsPost w net) := by
  have HN := Lib.hid hN
  clear hN
  go_enter Tryz.func61, Tryz.ntmps61
  go_wp2_with fail
  have hb1 : Below w.heap.size w (w.alloc (.cells #[.slice A net.length c] 24)) := (Below.refl _ _).alloc (Nat.le_refl _) _
  have hc1 : (w.alloc (.cells #[.slice A net.length c] 24)).cell? ⟨w.heap.size, 0, none⟩ = some (.slice A net.length c) := by
    rw [cell_of_row _ _ 0 _ _ (0, 0) (heap_alloc_new w _)]; rfl
  have hs : StepFn (w.alloc (.cells #[.slice A net.length c] 24)) (.func (.func 101) #[] #[.pointer (some ⟨w.heap.size, 0, none⟩)]) net :=
    ⟨w.heap.size, A, c, rfl, by simp, hc1, HN.out.below hb1⟩
  refine bodyPost_ret (v := .agg #[.int .i64 (net.length : Int), .func (.func 101) #[] #[.pointer (some ⟨w.heap.size, 0, none⟩)]]) (by simp [results, Tryz.results61, go_sem]) rfl ⟨_, rfl, hs.below ((Below.refl _ _).alloc (Nat.le_refl _) _), hb1.alloc hb1.size _⟩

/-! ### ranks fall -/
abbrev u32s (l : List Nat) : List Value := l.map fun x : Nat => Value.int .u32 (x : Int)
abbrev nums (l : List Nat) : List Value := l.map fun x : Nat => Value.int .i64 (x : Int)
def passV (net : List (List RuleT)) (rl : List Nat) (a v : Nat) : Bool := match stepN net a v with
  | none => true
  | some w => decide (rl.getD w 0 < rl.getD v 0)
def passA (net : List (List RuleT)) (rl : List Nat) (a : Nat) : Bool := (List.range net.length).all (passV net rl a)
def fallB (net : List (List RuleT)) (pts rl : List Nat) : Bool := pts.all (passA net rl)
theorem passA_of {net : List (List RuleT)} {rl : List Nat} {a : Nat} (h : ∀ v, v < net.length → passV net rl a v = true) : passA net rl a = true := by
  unfold passA; rw [List.all_eq_true]; exact fun v hv => h v (List.mem_range.1 hv)
theorem fallB_of {net : List (List RuleT)} {pts rl : List Nat} (h : ∀ i (hi : i < pts.length), passA net rl pts[i] = true) : fallB net pts rl = true := by
  unfold fallB; rw [List.all_eq_true]
  intro a ha
  obtain ⟨i, hi, rfl⟩ := List.mem_iff_getElem.1 ha
  exact h i hi
theorem fallB_no {net : List (List RuleT)} {pts rl : List Nat} {i v : Nat} (hi : i < pts.length) (hv : v < net.length) (h : passV net rl pts[i] v = false) : fallB net pts rl = false := by
  cases hf : fallB net pts rl with
  | false => rfl
  | true =>
    unfold fallB at hf
    rw [List.all_eq_true] at hf
    have := hf _ (List.getElem_mem hi)
    unfold passA at this
    rw [List.all_eq_true] at this
    rw [this v (List.mem_range.2 hv)] at h
    cases h
def FallPost (b : Bool) (w : World) (e : Ending) (w' : World) : Prop := e = .returned (.int .i64 (if b then 0 else 16)) ∧ Below w.heap.size w w'

set_option maxRecDepth 100000 in
set_option maxHeartbeats 2000000 in
theorem fall_any (f : Value) (A B : Option Addr) (c d : Nat) (net : List (List RuleT)) (pts rl : List Nat) (w : World) (hf : StepFn w f net) (h : NetOk net) (hA : Lies w A (u32s pts)) (hB : Lies w B (nums rl)) (hrl : rl.length = net.length) (hp : ∀ a ∈ pts, a < 4294967296) (hpl : pts.length ≤ 1000000) :
    Calls Tryz.prog 62 #[.agg #[.int .i64 (net.length : Int), f], .slice A pts.length c, .slice B rl.length d] w (FallPost (fallB net pts rl) w) := by
  obtain ⟨g, N, cN, rfl, hg, hgc, hN⟩ := hf
  have hln := h.nodes
  have H := Lib.hid h
  have HP := Lib.hid hp
  obtain ⟨fb, hfb⟩ : ∃ fb, fb = fallB net pts rl := ⟨_, rfl⟩
  rw [← hfb]
  have HFB := Lib.hid hfb
  have HRL := Lib.hid hrl
  have hrln : rl.length ≤ 256 := by omega
  clear h hp hfb
  go_enter Tryz.func62, Tryz.ntmps62
  clear hrl
  go_wp2_with fail
  have hb1 : Below w.heap.size w (w.alloc (.cells #[.int .i64 (net.length : Int), .func (.func 101) #[] #[.pointer (some ⟨g, 0, none⟩)]] 123)) := (Below.refl _ _).alloc (Nat.le_refl _) _
  have hx0 : (w.alloc (.cells #[.int .i64 (net.length : Int), .func (.func 101) #[] #[.pointer (some ⟨g, 0, none⟩)]] 123)).cell? ⟨w.heap.size, 0, none⟩ = some (.int .i64 (net.length : Int)) := by rw [cell_of_row _ _ 0 _ _ (0, 0) (heap_alloc_new w _)]; rfl
  have hx1 : (w.alloc (.cells #[.int .i64 (net.length : Int), .func (.func 101) #[] #[.pointer (some ⟨g, 0, none⟩)]] 123)).cell? ⟨w.heap.size, 1, none⟩ = some (.func (.func 101) #[] #[.pointer (some ⟨g, 0, none⟩)]) := by rw [cell_of_row _ _ 1 _ _ (0, 0) (heap_alloc_new w _)]; rfl
  have hgx : w.heap.size < (w.alloc (.cells #[.int .i64 (net.length : Int), .func (.func 101) #[] #[.pointer (some ⟨g, 0, none⟩)]] 123)).heap.size := by simp
  generalize w.alloc (.cells #[.int .i64 (net.length : Int), .func (.func 101) #[] #[.pointer (some ⟨g, 0, none⟩)]] 123) = w1 at *
  have hA1 := hA.below hb1
  have hB1 := hB.below hb1
  have hN1 := hN.below hb1
  have hgc1 := (hb1.cell (p := ⟨g, 0, none⟩) hg).trans hgc
  have hg1 : g < w1.heap.size := Nat.lt_of_lt_of_le hg hb1.size
  clear hA hB hN hgc hg
  go_step3
  go_wp2_with fail
  go_step3
  go_wp2_with fail
  go_loopg [7, 15] pts.length (fun gn e i wr => ∃ k : Nat, k + gn = pts.length ∧ i = .int .i64 k ∧ e = .int .i64 0 ∧ Hid (∀ j (hj : j < pts.length), j < k → passA net rl pts[j] = true) ∧ Below w1.heap.size w1 wr)
  case atStart => exact ⟨0, by omega, rfl, rfl, Lib.hid (fun j hj h => absurd h (by omega)), Below.refl _ _⟩
  case round =>
    obtain ⟨k, hk, rfl, rfl, HALL, hbr⟩ := hrel
    have hkl : k ≤ pts.length := by omega
    by_cases hlt : k < pts.length
    · obtain ⟨bA, oA, hAe, hbA, hcA0⟩ := Lies.at_map hA1 hlt
      have hcA := (hbr.cell (p := ⟨bA, oA + k, none⟩) hbA).trans hcA0
      obtain ⟨a, hae⟩ : ∃ a, a = pts[k] := ⟨_, rfl⟩
      have ha : a < 4294967296 := by rw [hae]; exact HP.out _ (List.getElem_mem hlt)
      rw [← hae] at hcA
      have hxr0 := (hbr.cell (p := ⟨w.heap.size, 0, none⟩) hgx).trans hx0
      have HAE := Lib.hid hae
      have HA1 := Lib.hid hA1
      obtain ⟨wo, rfl⟩ : ∃ wo : World, wo = wr := ⟨_, rfl⟩
      clear hcA0 hae hA1
      subst hAe
      go_wp2_with fail
      go_loopg [7, 21] net.length (fun gi e i wr => ∃ v : Nat, v + gi = net.length ∧ i = .int .i64 v ∧ e = .int .i64 0 ∧ Hid (∀ u, u < v → passV net rl a u = true) ∧ Below w1.heap.size w1 wr)
      case atStart => exact ⟨0, by omega, rfl, rfl, Lib.hid (fun u h => absurd h (by omega)), hbr⟩
      case round =>
        clear hbr hcA hxr0
        obtain ⟨v, hv, rfl, rfl, HV, hbi⟩ := hrel
        have hvl : v ≤ net.length := by omega
        by_cases hltv : v < net.length
        · have hxi0 := (hbi.cell (p := ⟨w.heap.size, 0, none⟩) hgx).trans hx0
          have hxi1 := (hbi.cell (p := ⟨w.heap.size, 1, none⟩) hgx).trans hx1
          have hst := stepf_any N cN g net a v wr ((hbi.cell (p := ⟨g, 0, none⟩) hg1).trans hgc1) (hN1.below hbi) H.out hltv ha
          have hfin : (∀ u, u < net.length → passV net rl a u = true) → ∀ j (hj : j < pts.length), j < k + 1 → passA net rl pts[j] = true := fun hu j hj hjk => by
            by_cases e : j = k
            · subst e; rw [← HAE.out]; exact passA_of hu
            · exact HALL.out j hj (by omega)
          cases ho : stepN net a v with
          | none =>
            rw [ho] at hst
            have hpv : passV net rl a v = true := by unfold passV; rw [ho]
            have HST := Lib.hid hst
            have HPV := Lib.hid hpv
            clear hst ho hpv hfin
            go_wp2_with fail
            refine (HST.out).mono ?_
            rintro e w2 ⟨rfl, hb2⟩
            simp only [Option.isSome_none]
            go_wp2_with fail
            go_roundg (net.length - (v + 1))
            case measure => omega
            case rel => exact ⟨v + 1, by omega, by go_num, rfl, Lib.hid (fun u hu => by
              by_cases e : u = v
              · subst e; exact HPV.out
              · exact HV.out u (by omega)), hbi.trans (hb2.mono hbi.size)⟩
          | some z =>
            rw [ho] at hst
            have hzl := step_lt H.out ho
            have hrlv : v < rl.length := by rw [HRL.out]; exact hltv
            have hrlz : z < rl.length := by rw [HRL.out]; exact hzl
            obtain ⟨bB, oB, hBe, hbB, hcv⟩ := Lies.at_map hB1 hrlv
            obtain ⟨bB', oB', hBe', hbB', hcz⟩ := Lies.at_map hB1 hrlz
            rw [hBe] at hBe'
            injection hBe' with hBe'
            injection hBe' with e1 e2 _
            subst e1 e2
            have hpv : passV net rl a v = decide (rl[z] < rl[v]) := by unfold passV; rw [ho]; simp [List.getD, hrlz, hrlv]
            obtain ⟨q, hq⟩ : ∃ q, q = rl[v] := ⟨_, rfl⟩
            obtain ⟨p, hp⟩ : ∃ p, p = rl[z] := ⟨_, rfl⟩
            rw [← hq] at hcv hpv
            rw [← hp] at hcz hpv
            have HST := Lib.hid hst
            have HPV := Lib.hid hpv
            have HB1 := Lib.hid hB1
            clear hst ho hpv hfin hq hp hB1
            subst hBe
            obtain ⟨qi, hqi⟩ : ∃ qi : Int, qi = (q : Int) := ⟨_, rfl⟩
            obtain ⟨pi, hpi⟩ : ∃ pi : Int, pi = (p : Int) := ⟨_, rfl⟩
            rw [← hqi] at hcv
            rw [← hpi] at hcz
            by_cases hpq : p < q
            · have c3 : decide (qi ≤ pi) = false := by rw [decide_eq_false_iff_not]; omega
              have hpv := HPV.out
              rw [decide_eq_true hpq] at hpv
              have HPT := Lib.hid hpv
              clear hpq hqi hpi hpv HPV
              go_wp2_with fail
              refine (HST.out).mono ?_
              rintro e w2 ⟨rfl, hb2⟩
              simp only [optInt, Option.isSome_some, Option.getD_some]
              have hb2w := hbi.trans (hb2.mono hbi.size)
              have hy0 := (hb2w.cell (p := ⟨w.heap.size, 0, none⟩) hgx).trans hx0
              have hyv := (hb2w.cell (p := ⟨bB, oB + v, none⟩) hbB).trans hcv
              have hyz := (hb2w.cell (p := ⟨bB, oB + z, none⟩) hbB).trans hcz
              obtain ⟨zi, hzi⟩ : ∃ zi : Int, zi = (z : Int) := ⟨_, rfl⟩
              obtain ⟨vi, hvi⟩ : ∃ vi : Int, vi = (v : Int) := ⟨_, rfl⟩
              have tz : z = zi.toNat := by omega
              have tv : v = vi.toNat := by omega
              rw [tz] at hyz
              rw [tv] at hyv
              rw [← hzi, ← hvi]
              have HVI := Lib.hid hvi
              have c1 : decide (zi < 0) = false := by rw [decide_eq_false_iff_not]; omega
              have c2 : decide ((net.length : Int) ≤ zi) = false := by rw [decide_eq_false_iff_not]; omega
              have i0 : 0 ≤ zi := by omega
              have i1 : zi < (rl.length : Int) := by omega
              have i2 : 0 ≤ vi := by omega
              have i3 : vi < (rl.length : Int) := by omega
              have HB2 := Lib.hid hb2w
              clear hb2 hzi hvi tz tv hcv hcz hb2w hxi0 hxi1
              go_wp2_with fail
              go_big_quiet (fail)
              go_wp2_with fail
              go_roundg (net.length - (v + 1))
              case measure => omega
              case rel => exact ⟨v + 1, by omega, by rw [HVI.out]; go_num, rfl, Lib.hid (fun u hu => by
                by_cases e : u = v
                · subst e; exact HPT.out
                · exact HV.out u (by omega)), by first | exact HB2.out | exact below_drawn HB2.out _⟩
            · have c3 : decide (qi ≤ pi) = true := by rw [decide_eq_true_eq]; omega
              have hpv := HPV.out
              rw [decide_eq_false hpq, HAE.out] at hpv
              have hno := fallB_no hlt hltv hpv
              rw [← HFB.out] at hno
              have HNO := Lib.hid hno
              clear hpq hqi hpi hpv HPV hno
              go_wp2_with fail
              refine (HST.out).mono ?_
              rintro e w2 ⟨rfl, hb2⟩
              simp only [optInt, Option.isSome_some, Option.getD_some]
              have hb2w := hbi.trans (hb2.mono hbi.size)
              have hy0 := (hb2w.cell (p := ⟨w.heap.size, 0, none⟩) hgx).trans hx0
              have hyv := (hb2w.cell (p := ⟨bB, oB + v, none⟩) hbB).trans hcv
              have hyz := (hb2w.cell (p := ⟨bB, oB + z, none⟩) hbB).trans hcz
              obtain ⟨zi, hzi⟩ : ∃ zi : Int, zi = (z : Int) := ⟨_, rfl⟩
              obtain ⟨vi, hvi⟩ : ∃ vi : Int, vi = (v : Int) := ⟨_, rfl⟩
              have tz : z = zi.toNat := by omega
              have tv : v = vi.toNat := by omega
              rw [tz] at hyz
              rw [tv] at hyv
              rw [← hzi, ← hvi]
              have HVI := Lib.hid hvi
              have c1 : decide (zi < 0) = false := by rw [decide_eq_false_iff_not]; omega
              have c2 : decide ((net.length : Int) ≤ zi) = false := by rw [decide_eq_false_iff_not]; omega
              have i0 : 0 ≤ zi := by omega
              have i1 : zi < (rl.length : Int) := by omega
              have i2 : 0 ≤ vi := by omega
              have i3 : vi < (rl.length : Int) := by omega
              have HB2 := Lib.hid hb2w
              clear hb2 hzi hvi tz tv hcv hcz hb2w hxi0 hxi1
              go_wp2_with fail
              go_big_quiet (fail)
              go_wp2_with fail
              rw [Exit.noGoto_ret]
              go_ret
              refine ⟨by rw [HNO.out]; rfl, ?_⟩
              first
                | exact hb1.trans (HB2.out.mono hb1.size)
                | exact hb1.trans ((below_drawn HB2.out _).mono hb1.size)
        · have ev : v = net.length := by omega
          have HEV := Lib.hid ev
          clear ev
          go_wp2_with fail
          go_roundg (pts.length - (k + 1))
          case measure => omega
          case rel => exact ⟨k + 1, by omega, by go_num, rfl, Lib.hid (fun j hj hjk => by
            by_cases e : j = k
            · subst e; rw [← HAE.out]; exact passA_of (fun u hu => HV.out u (by rw [HEV.out]; exact hu))
            · exact HALL.out j hj (by omega)), hbi⟩
    · have hyes : fallB net pts rl = true := fallB_of (fun j hj => HALL.out j hj (by omega))
      rw [← HFB.out] at hyes
      have HYES := Lib.hid hyes
      clear hyes
      go_wp2_with fail
      rw [Exit.noGoto_ret]
      go_ret
      exact ⟨by rw [HYES.out]; rfl, hb1.trans (hbr.mono hb1.size)⟩
end Go.Proofs.YtpjoefekhgmlhaaGreat.Tp
