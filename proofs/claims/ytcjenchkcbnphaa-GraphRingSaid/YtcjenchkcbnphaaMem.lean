/- WORDS FOR MEMORY, over any program: what a slice's cells are, nil and empty slices let in; an append of such a slice onto a row of the call's own. No conditions. -/
import Derived.Below
import Derived.WalkKit
import Derived.Laws.OwnMore
import Derived.Laws.Rows
import Derived.Maps.AppendAt
import Derived.Deep.Draws
import Derived.Lib.Hide
namespace Go.Proofs.Ytcjenchkcbnphaa.Mem
open Go.RowKit

/-- The cells xs lie from the address A on; of no cells nothing is asked. -/
def Lies (w : World) (A : Option Addr) (xs : List Value) : Prop :=
  0 < xs.length → ∃ b off, A = some ⟨b, off, none⟩ ∧ b < w.heap.size ∧ ∀ i u, xs[i]? = some u → w.cell? ⟨b, off + i, none⟩ = some u

theorem add_plain (b off i : Nat) : (⟨b, off, none⟩ : Addr).add i = ⟨b, off + i, none⟩ := by unfold Addr.add; split <;> simp_all

section
variable {w w' : World} {A : Option Addr} {xs : List Value}
theorem Lies.nil (w : World) (A : Option Addr) : Lies w A [] := fun h => absurd h (by simp)
theorem Lies.keep (h : Lies w A xs) (hs : w.heap.size ≤ w'.heap.size) (hk : ∀ p : Addr, p.block < w.heap.size → w'.cell? p = w.cell? p) : Lies w' A xs := fun hn => by
  obtain ⟨b, off, e, hb, hc⟩ := h hn
  exact ⟨b, off, e, Nat.lt_of_lt_of_le hb hs, fun i u hu => (hk ⟨b, off + i, none⟩ hb).trans (hc i u hu)⟩
theorem Lies.below (h : Lies w A xs) (hb : Below w.heap.size w w') : Lies w' A xs := h.keep hb.size fun _ hp => hb.cell hp
theorem Lies.alloc (h : Lies w A xs) (o : Obj) : Lies (w.alloc o) A xs := h.below ((Below.refl _ w).alloc (Nat.le_refl _) o)
theorem Lies.drew (h : Lies w A xs) : Lies w.drew A xs := h
theorem Lies.drewN (h : Lies w A xs) (n : Nat) : Lies (w.drewN n) A xs := h
theorem Lies.take (h : Lies w A xs) (k : Nat) : Lies w A (xs.take k) := fun hn => by
  obtain ⟨b, off, e, hb, hc⟩ := h (by simp at hn; omega)
  refine ⟨b, off, e, hb, fun i u hu => hc i u ?_⟩
  rw [List.getElem?_take] at hu
  split at hu
  · exact hu
  · cases hu
/-- One place of it: its address and what lies there. -/
theorem Lies.at_ (h : Lies w A xs) {k : Nat} (hk : k < xs.length) : ∃ b off, A = some ⟨b, off, none⟩ ∧ b < w.heap.size ∧ w.cell? ⟨b, off + k, none⟩ = some xs[k] := by
  obtain ⟨b, off, e, hb, hc⟩ := h (by omega)
  exact ⟨b, off, e, hb, hc k _ (List.getElem?_eq_getElem hk)⟩
/-- A new block holds what was laid. -/
theorem Lies.new (w : World) (cs : Array Value) (t : TypeId) : Lies (w.alloc (.cells cs t)) (some ⟨w.heap.size, 0, none⟩) cs.toList := fun _ =>
  ⟨w.heap.size, 0, rfl, by simp, fun i u hu => by
    rw [cell_of_row _ _ (0 + i) cs t (0, 0) (heap_alloc_new w _), Nat.zero_add]
    simpa using hu⟩
/-- What the call owns lies there. -/
theorem Lies.of_own {base : Nat} {e : TypeId} {size n c : Nat} (h : w.ownsRow base e size (.slice A n c) n xs) : Lies w A xs := fun hn => by
  rcases h.2 with ⟨e1, e2⟩ | ⟨g, cap, cur, hv, hg, hh, hnc, hm, hs, ht⟩
  · have hl := h.1
    rw [e2] at hl
    omega
  · injection hv with hA _ _
    subst hA
    have hlt : g < w.heap.size := by
      rcases Nat.lt_or_ge g w.heap.size with h' | h'
      · exact h'
      · rw [Array.getElem?_eq_none h'] at hh; cases hh
    refine ⟨g, 0, rfl, hlt, fun i u hu => ?_⟩
    rw [cell_of_row w g (0 + i) cur e (0, 0) hh, Nat.zero_add]
    rw [← ht, List.getElem?_take] at hu
    split at hu
    · simpa using hu
    · cases hu
end

section
variable {P : Program} (w : World)
/-- append(v, x...) where v is nil or the call's own and x lies anywhere. -/
theorem run_append_lies (base : Nat) (t ty e : TypeId) (i : TypeInfo) (z : Value) (size bytes : Nat) (ht : P.underlying t = some (.slice e)) (hi : P.info? e = some i) (hz : i.zero = some z)
    (hsize : i.size = size) (hby : i.bytes = bytes) (hzs : z.cells.size = size) (hsz : 0 < size) (v : Value) (n : Nat) (xs : List Value) (hown : w.ownsRow base e size v n xs)
    (A : Option Addr) (m c : Nat) (news : List Value) (hl : news.length = m * size) (hr : Lies w A news) (h1 : ∀ u ∈ news, u.oneCell' = true)
    (h63 : n + m ≤ maxLen) (hbytes : (n + m) * bytes ≤ 140737488355328) (hbase : base ≤ w.heap.size) :
    ∃ v' w', (Builtin.append_ #[t, t] ty #[v, .slice A m c]).run P w = .ok v' w' ∧ w'.ownsRow base e size v' (n + m) (xs ++ news) ∧ w.grownBy w' v.ownBlock ∧
      (v'.ownBlock = v.ownBlock ∨ v'.ownBlock = some w.heap.size) := by
  cases A with
  | none =>
    have hn : news = [] := by
      cases news with
      | nil => rfl
      | cons u us =>
        obtain ⟨b, off, e, _⟩ := hr (by simp)
        cases e
    subst hn
    have hm : m = 0 := by
      rcases Nat.eq_zero_or_pos m with h0 | h0
      · exact h0
      · have := Nat.mul_pos h0 hsz
        simp at hl
        omega
    subst hm
    have hrun : (Builtin.append_ #[t, t] ty #[v, .slice none 0 c]).run P w = .ok v w := by
      rcases hown.2 with ⟨rfl, rfl⟩ | ⟨g, cap, cur, rfl, _, _, hnc, _⟩
      · simp [Builtin.append_, run_underlying ht, sizeOf, typeInfo, hi, Builtin.lenOf, Builtin.firstCells]
      · simp [Builtin.append_, run_underlying ht, sizeOf, typeInfo, hi, Builtin.lenOf, Builtin.firstCells, hnc, storeCells]
    exact ⟨v, w, hrun, by simpa using hown, ⟨rfl, rfl, rfl, Nat.le_refl _, fun _ _ _ => rfl⟩, .inl rfl⟩
  | some ad =>
    obtain ⟨v', w', hrun, h2, h3, _, h5⟩ := run_append_own_at (P := P) w base t ty e i z size bytes ht hi hz hsize hby hzs hsz v n xs hown ad m c news hl (fun j u hu => by
      have hn : 0 < news.length := by
        have := (List.getElem?_eq_some_iff.1 hu).1
        omega
      obtain ⟨b, off, he, _, hc⟩ := hr hn
      injection he with he
      subst he
      rw [add_plain]
      exact hc j u hu) h1 h63 hbytes hbase
    exact ⟨v', w', hrun, h2, h3, h5⟩

theorem wpList_append_lies {ops : Array Oper} {rest : List Oper} {o : Oper} {a : Act} {Q : Exit → Act → World → Prop} (hgd : o.guard = none) (s x : Operand) (t : TypeId)
    (ho : o.op = .call { callee := .builtin .append, args := #[s, x], argTypes := #[t, t] })
    (base : Nat) (e : TypeId) (i : TypeInfo) (z : Value) (size bytes : Nat) (ht : P.underlying t = some (.slice e)) (hi : P.info? e = some i) (hz : i.zero = some z)
    (hsize : i.size = size) (hby : i.bytes = bytes) (hzs : z.cells.size = size) (hsz : 0 < size) (v : Value) (n : Nat) (xs : List Value) (hs : a.eval s = v) (hown : w.ownsRow base e size v n xs)
    (A : Option Addr) (m c : Nat) (news : List Value) (hx : a.eval x = .slice A m c) (hl : news.length = m * size) (hr : Lies w A news) (h1 : ∀ u ∈ news, u.oneCell' = true)
    (h63 : n + m ≤ maxLen) (hbytes : (n + m) * bytes ≤ 140737488355328) (hbase : base ≤ w.heap.size)
    (h : ∀ v' w', w'.ownsRow base e size v' (n + m) (xs ++ news) → w.grownBy w' v.ownBlock → (v'.ownBlock = v.ownBlock ∨ v'.ownBlock = some w.heap.size) → wpList P ops Q rest (a.put o.dst v') w') :
    wpList P ops Q (o :: rest) a w := by
  refine wpList_plain hgd fun K hK => ?_
  obtain ⟨v', w', hrun, h2, h3, h4⟩ := run_append_lies (P := P) w base t o.type e i z size bytes ht hi hz hsize hby hzs hsz v n xs hown A m c news hl hr h1 h63 hbytes hbase
  unfold Oper.wp execOp
  simp only [ho, resolve, invoke, builtin, Sem.run_bind, Sem.run_pure, Result.andThen_ok, List.map_toArray, List.map_cons, List.map_nil, hs, hx, hrun]
  exact hK _ _ (h v' w' h2 h3 h4)
end
/-- What a row of the call's own is, as a slice value. -/
theorem own_form {w : World} {base : Nat} {e : TypeId} {size : Nat} {v : Value} {n : Nat} {xs : List Value} (h : w.ownsRow base e size v n xs) : ∃ A cap, v = .slice A n cap ∧ n ≤ cap ∧ cap ≤ 9223372036854775807 := by
  rcases h.2 with ⟨rfl, rfl⟩ | ⟨g, cap, cur, rfl, _, _, h1, h2, _⟩
  · exact ⟨none, 0, rfl, Nat.le_refl _, by omega⟩
  · exact ⟨_, cap, rfl, h1, h2⟩

/-! ### what came in -/
/-- A slice of integers that came in (the same words as in the shells of the rows). -/
def IsRow (k : IntKind) (w : World) (a : Option Addr) (len cap : Nat) (zs : List Int) : Prop :=
  (a = none ∧ len = 0 ∧ cap = 0 ∧ zs = []) ∨
  ∃ x, a = some x ∧ len ≤ cap ∧ cap ≤ maxLen ∧ zs.length = cap ∧ (∀ i, i < zs.length → w.cell? (x.add i) = some (.int k (zs.getD i 0))) ∧ ∀ n ∈ zs, (Lit.int k n).wf = true
theorem ints_of_row {k : IntKind} {w : World} {a : Option Addr} {len cap : Nat} {zs : List Int} (h : IsRow k w a len cap zs) :
    ∃ xs : List Int, xs.length = len ∧ len ≤ cap ∧ cap ≤ 9223372036854775807 ∧ Lies w a (xs.map (Value.int k)) ∧ ∀ n ∈ xs, (Lit.int k n).wf = true := by
  rcases h with ⟨rfl, rfl, rfl, rfl⟩ | ⟨x, rfl, hl, hm, hz, hcell, hwz⟩
  · exact ⟨[], rfl, by omega, by omega, Lies.nil _ _, by simp⟩
  · unfold maxLen at hm
    have hlen : (zs.take len).length = len := by simp; omega
    refine ⟨zs.take len, hlen, hl, hm, fun hp => ?_, fun n hn => hwz n (List.mem_of_mem_take hn)⟩
    rw [List.length_map] at hp
    obtain ⟨b, off, spot⟩ := x
    have hc0 := hcell 0 (by omega)
    have hspot : spot = none := by simpa [Addr.add] using World.cell?_spot hc0
    subst hspot
    have hb : b < w.heap.size := by
      have := block_lt_of_cell hc0
      simpa [Addr.add] using this
    refine ⟨b, off, rfl, hb, fun i u hi => ?_⟩
    rw [List.getElem?_map] at hi
    obtain ⟨n, hn, rfl⟩ := Option.map_eq_some_iff.1 hi
    obtain ⟨hil, rfl⟩ := List.getElem?_eq_some_iff.1 hn
    have hc := hcell i (by omega)
    rw [add_plain] at hc
    rw [hc, List.getElem_take]
    simp [List.getD, List.getElem?_eq_getElem (show i < zs.length by omega)]
theorem wf_byte {n : Int} (h : (Lit.int .u8 n).wf = true) : ∃ s : Nat, s < 256 ∧ n = (s : Int) := by
  simp [Lit.wf, IntKind.min, IntKind.max, IntKind.bits, IntKind.signed] at h
  exact ⟨n.toNat, by omega, by omega⟩
theorem wf_u32 {n : Int} (h : (Lit.int .u32 n).wf = true) : ∃ s : Nat, s < 4294967296 ∧ n = (s : Int) := by
  simp [Lit.wf, IntKind.min, IntKind.max, IntKind.bits, IntKind.signed] at h
  exact ⟨n.toNat, by omega, by omega⟩
theorem wf_int {n : Int} (h : (Lit.int .i64 n).wf = true) : -9223372036854775808 ≤ n ∧ n ≤ 9223372036854775807 := by
  simp [Lit.wf, IntKind.min, IntKind.max, IntKind.bits, IntKind.signed] at h
  omega
theorem Lies.take_map {α : Type} {f : α → Value} {w : World} {A : Option Addr} {xs : List α} (h : Lies w A (xs.map f)) (k : Nat) : Lies w A ((xs.take k).map f) := by
  rw [List.map_take]; exact h.take k
/-- One place of a mapped list. -/
theorem Lies.at_map {α : Type} {f : α → Value} {w : World} {A : Option Addr} {xs : List α} (h : Lies w A (xs.map f)) {k : Nat} (hk : k < xs.length) :
    ∃ b off, A = some ⟨b, off, none⟩ ∧ b < w.heap.size ∧ w.cell? ⟨b, off + k, none⟩ = some (f xs[k]) := by
  obtain ⟨b, off, e, hb, hc⟩ := h.at_ (show k < (xs.map f).length by simpa using hk)
  exact ⟨b, off, e, hb, by simpa using hc⟩
theorem ret_int {k : IntKind} {a b : Int} (h : a = b) : Ending.returned (.int k a) = .returned (.int k b) := by rw [h]
theorem ret_bool {b c : Bool} (h : b = c) : Ending.returned (.bool b) = .returned (.bool c) := by rw [h]
theorem ret_slice {A : Option Addr} {n m cap : Nat} (h : n = m) : Ending.returned (.slice A n cap) = .returned (.slice A m cap) := by rw [h]
end Go.Proofs.Ytcjenchkcbnphaa.Mem
