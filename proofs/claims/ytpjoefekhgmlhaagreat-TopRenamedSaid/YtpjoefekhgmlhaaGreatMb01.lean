/- WORDS FOR MEMORY, over any program: what a slice's cells are, nil and empty slices let in; an append of such a slice onto a row of the call's own. No conditions. · PLAIN LAWS of vectors: steps, ranks, loops, ends. No program in sight. Conditions: where said, each number is -1 or a node. · CONTRACTS: whether a vector may be (vector.May, graph.may), and its ends (graph.Sinks). Condition: the slice reads as a row of numbers. -/
import Derived.Below
import Derived.WalkKit
import Derived.Laws.OwnMore
import Derived.Laws.Rows
import Derived.Maps.AppendAt
import Derived.Deep.Draws
import Derived.Lib.Hide
import Derived.Test.YtpjoefekhgmlhaaGreatChecked
import Derived.LoopTactic
import Derived.OwnWalk
import Derived.Outline
namespace Go.Proofs.YtpjoefekhgmlhaaGreat.Mem
open Go.RowKit

/-- The cells xs lie from the address A on; of no cells nothing is asked. -/
def Lies (w : World) (A : Option Addr) (xs : List Value) : Prop :=
  0 < xs.length → ∃ b off, A = some ⟨b, off, none⟩ ∧ b < w.heap.size ∧ ∀ i u, xs[i]? = some u → w.cell? ⟨b, off + i, none⟩ = some u

theorem add_plain (b off i : Nat) : (⟨b, off, none⟩ : Addr).add i = ⟨b, off + i, none⟩ := by unfold Addr.add; split <;> simp_all

section
variable {w w' : World} {A : Option Addr} {xs : List Value}
theorem Lies.nil (w : World) (A : Option Addr) : Lies w A [] := fun h => absurd h (by simp)
theorem Lies.keep (h : Lies w A xs) (hs : w.heap.size ≤ w'.heap.size) (hk : ∀ p : Addr, p.block < w.heap.size → w'.cell? p = w.cell? p) : Lies w' A xs := fun hn => by
  obtain ⟨b, off, e, hb, hc⟩ := h hn
  exact ⟨b, off, e, Nat.lt_of_lt_of_le hb hs, fun i u hu => (hk ⟨b, off + i, none⟩ hb).trans (hc i u hu)⟩
theorem Lies.below (h : Lies w A xs) (hb : Below w.heap.size w w') : Lies w' A xs := h.keep hb.size fun _ hp => hb.cell hp
theorem Lies.alloc (h : Lies w A xs) (o : Obj) : Lies (w.alloc o) A xs := h.below ((Below.refl _ w).alloc (Nat.le_refl _) o)
theorem Lies.drew (h : Lies w A xs) : Lies w.drew A xs := h
theorem Lies.drewN (h : Lies w A xs) (n : Nat) : Lies (w.drewN n) A xs := h
theorem Lies.take (h : Lies w A xs) (k : Nat) : Lies w A (xs.take k) := fun hn => by
  obtain ⟨b, off, e, hb, hc⟩ := h (by simp at hn; omega)
  refine ⟨b, off, e, hb, fun i u hu => hc i u ?_⟩
  rw [List.getElem?_take] at hu
  split at hu
  · exact hu
  · cases hu
/-- One place of it: its address and what lies there. -/
theorem Lies.at_ (h : Lies w A xs) {k : Nat} (hk : k < xs.length) : ∃ b off, A = some ⟨b, off, none⟩ ∧ b < w.heap.size ∧ w.cell? ⟨b, off + k, none⟩ = some xs[k] := by
  obtain ⟨b, off, e, hb, hc⟩ := h (by omega)
  exact ⟨b, off, e, hb, hc k _ (List.getElem?_eq_getElem hk)⟩
/-- A new block holds what was laid. -/
theorem Lies.new (w : World) (cs : Array Value) (t : TypeId) : Lies (w.alloc (.cells cs t)) (some ⟨w.heap.size, 0, none⟩) cs.toList := fun _ =>
  ⟨w.heap.size, 0, rfl, by simp, fun i u hu => by
    rw [cell_of_row _ _ (0 + i) cs t (0, 0) (heap_alloc_new w _), Nat.zero_add]
    simpa using hu⟩
/-- What the call owns lies there. -/
theorem Lies.of_own {base : Nat} {e : TypeId} {size n c : Nat} (h : w.ownsRow base e size (.slice A n c) n xs) : Lies w A xs := fun hn => by
  rcases h.2 with ⟨e1, e2⟩ | ⟨g, cap, cur, hv, hg, hh, hnc, hm, hs, ht⟩
  · have hl := h.1
    rw [e2] at hl
    omega
  · injection hv with hA _ _
    subst hA
    have hlt : g < w.heap.size := by
      rcases Nat.lt_or_ge g w.heap.size with h' | h'
      · exact h'
      · rw [Array.getElem?_eq_none h'] at hh; cases hh
    refine ⟨g, 0, rfl, hlt, fun i u hu => ?_⟩
    rw [cell_of_row w g (0 + i) cur e (0, 0) hh, Nat.zero_add]
    rw [← ht, List.getElem?_take] at hu
    split at hu
    · simpa using hu
    · cases hu
end

section
variable {P : Program} (w : World)
/-- append(v, x...) where v is nil or the call's own and x lies anywhere. -/
theorem run_append_lies (base : Nat) (t ty e : TypeId) (i : TypeInfo) (z : Value) (size bytes : Nat) (ht : P.underlying t = some (.slice e)) (hi : P.info? e = some i) (hz : i.zero = some z)
    (hsize : i.size = size) (hby : i.bytes = bytes) (hzs : z.cells.size = size) (hsz : 0 < size) (v : Value) (n : Nat) (xs : List Value) (hown : w.ownsRow base e size v n xs)
    (A : Option Addr) (m c : Nat) (news : List Value) (hl : news.length = m * size) (hr : Lies w A news) (h1 : ∀ u ∈ news, u.oneCell' = true)
    (h63 : n + m ≤ maxLen) (hbytes : (n + m) * bytes ≤ 140737488355328) (hbase : base ≤ w.heap.size) :
    ∃ v' w', (Builtin.append_ #[t, t] ty #[v, .slice A m c]).run P w = .ok v' w' ∧ w'.ownsRow base e size v' (n + m) (xs ++ news) ∧ w.grownBy w' v.ownBlock ∧
      (v'.ownBlock = v.ownBlock ∨ v'.ownBlock = some w.heap.size) := by
  cases A with
  | none =>
    have hn : news = [] := by
      cases news with
      | nil => rfl
      | cons u us =>
        obtain ⟨b, off, e, _⟩ := hr (by simp)
        cases e
    subst hn
    have hm : m = 0 := by
      rcases Nat.eq_zero_or_pos m with h0 | h0
      · exact h0
      · have := Nat.mul_pos h0 hsz
        simp at hl
        omega
    subst hm
    have hrun : (Builtin.append_ #[t, t] ty #[v, .slice none 0 c]).run P w = .ok v w := by
      rcases hown.2 with ⟨rfl, rfl⟩ | ⟨g, cap, cur, rfl, _, _, hnc, _⟩
      · simp [Builtin.append_, run_underlying ht, sizeOf, typeInfo, hi, Builtin.lenOf, Builtin.firstCells]
      · simp [Builtin.append_, run_underlying ht, sizeOf, typeInfo, hi, Builtin.lenOf, Builtin.firstCells, hnc, storeCells]
    exact ⟨v, w, hrun, by simpa using hown, ⟨rfl, rfl, rfl, Nat.le_refl _, fun _ _ _ => rfl⟩, .inl rfl⟩
  | some ad =>
    obtain ⟨v', w', hrun, h2, h3, _, h5⟩ := run_append_own_at (P := P) w base t ty e i z size bytes ht hi hz hsize hby hzs hsz v n xs hown ad m c news hl (fun j u hu => by
      have hn : 0 < news.length := by
        have := (List.getElem?_eq_some_iff.1 hu).1
        omega
      obtain ⟨b, off, he, _, hc⟩ := hr hn
      injection he with he
      subst he
      rw [add_plain]
      exact hc j u hu) h1 h63 hbytes hbase
    exact ⟨v', w', hrun, h2, h3, h5⟩

theorem wpList_append_lies {ops : Array Oper} {rest : List Oper} {o : Oper} {a : Act} {Q : Exit → Act → World → Prop} (hgd : o.guard = none) (s x : Operand) (t : TypeId)
    (ho : o.op = .call { callee := .builtin .append, args := #[s, x], argTypes := #[t, t] })
    (base : Nat) (e : TypeId) (i : TypeInfo) (z : Value) (size bytes : Nat) (ht : P.underlying t = some (.slice e)) (hi : P.info? e = some i) (hz : i.zero = some z)
    (hsize : i.size = size) (hby : i.bytes = bytes) (hzs : z.cells.size = size) (hsz : 0 < size) (v : Value) (n : Nat) (xs : List Value) (hs : a.eval s = v) (hown : w.ownsRow base e size v n xs)
    (A : Option Addr) (m c : Nat) (news : List Value) (hx : a.eval x = .slice A m c) (hl : news.length = m * size) (hr : Lies w A news) (h1 : ∀ u ∈ news, u.oneCell' = true)
    (h63 : n + m ≤ maxLen) (hbytes : (n + m) * bytes ≤ 140737488355328) (hbase : base ≤ w.heap.size)
    (h : ∀ v' w', w'.ownsRow base e size v' (n + m) (xs ++ news) → w.grownBy w' v.ownBlock → (v'.ownBlock = v.ownBlock ∨ v'.ownBlock = some w.heap.size) → wpList P ops Q rest (a.put o.dst v') w') :
    wpList P ops Q (o :: rest) a w := by
  refine wpList_plain hgd fun K hK => ?_
  obtain ⟨v', w', hrun, h2, h3, h4⟩ := run_append_lies (P := P) w base t o.type e i z size bytes ht hi hz hsize hby hzs hsz v n xs hown A m c news hl hr h1 h63 hbytes hbase
  unfold Oper.wp execOp
  simp only [ho, resolve, invoke, builtin, Sem.run_bind, Sem.run_pure, Result.andThen_ok, List.map_toArray, List.map_cons, List.map_nil, hs, hx, hrun]
  exact hK _ _ (h v' w' h2 h3 h4)
end
/-- What a row of the call's own is, as a slice value. -/
theorem own_form {w : World} {base : Nat} {e : TypeId} {size : Nat} {v : Value} {n : Nat} {xs : List Value} (h : w.ownsRow base e size v n xs) : ∃ A cap, v = .slice A n cap ∧ n ≤ cap ∧ cap ≤ 9223372036854775807 := by
  rcases h.2 with ⟨rfl, rfl⟩ | ⟨g, cap, cur, rfl, _, _, h1, h2, _⟩
  · exact ⟨none, 0, rfl, Nat.le_refl _, by omega⟩
  · exact ⟨_, cap, rfl, h1, h2⟩

/-! ### what came in -/
/-- A slice of integers that came in (the same words as in the shells of the rows). -/
def IsRow (k : IntKind) (w : World) (a : Option Addr) (len cap : Nat) (zs : List Int) : Prop :=
  (a = none ∧ len = 0 ∧ cap = 0 ∧ zs = []) ∨
  ∃ x, a = some x ∧ len ≤ cap ∧ cap ≤ maxLen ∧ zs.length = cap ∧ (∀ i, i < zs.length → w.cell? (x.add i) = some (.int k (zs.getD i 0))) ∧ ∀ n ∈ zs, (Lit.int k n).wf = true
theorem ints_of_row {k : IntKind} {w : World} {a : Option Addr} {len cap : Nat} {zs : List Int} (h : IsRow k w a len cap zs) :
    ∃ xs : List Int, xs.length = len ∧ len ≤ cap ∧ cap ≤ 9223372036854775807 ∧ Lies w a (xs.map (Value.int k)) ∧ ∀ n ∈ xs, (Lit.int k n).wf = true := by
  rcases h with ⟨rfl, rfl, rfl, rfl⟩ | ⟨x, rfl, hl, hm, hz, hcell, hwz⟩
  · exact ⟨[], rfl, by omega, by omega, Lies.nil _ _, by simp⟩
  · unfold maxLen at hm
    have hlen : (zs.take len).length = len := by simp; omega
    refine ⟨zs.take len, hlen, hl, hm, fun hp => ?_, fun n hn => hwz n (List.mem_of_mem_take hn)⟩
    rw [List.length_map] at hp
    obtain ⟨b, off, spot⟩ := x
    have hc0 := hcell 0 (by omega)
    have hspot : spot = none := by simpa [Addr.add] using World.cell?_spot hc0
    subst hspot
    have hb : b < w.heap.size := by
      have := block_lt_of_cell hc0
      simpa [Addr.add] using this
    refine ⟨b, off, rfl, hb, fun i u hi => ?_⟩
    rw [List.getElem?_map] at hi
    obtain ⟨n, hn, rfl⟩ := Option.map_eq_some_iff.1 hi
    obtain ⟨hil, rfl⟩ := List.getElem?_eq_some_iff.1 hn
    have hc := hcell i (by omega)
    rw [add_plain] at hc
    rw [hc, List.getElem_take]
    simp [List.getD, List.getElem?_eq_getElem (show i < zs.length by omega)]
theorem wf_byte {n : Int} (h : (Lit.int .u8 n).wf = true) : ∃ s : Nat, s < 256 ∧ n = (s : Int) := by
  simp [Lit.wf, IntKind.min, IntKind.max, IntKind.bits, IntKind.signed] at h
  exact ⟨n.toNat, by omega, by omega⟩
theorem wf_u32 {n : Int} (h : (Lit.int .u32 n).wf = true) : ∃ s : Nat, s < 4294967296 ∧ n = (s : Int) := by
  simp [Lit.wf, IntKind.min, IntKind.max, IntKind.bits, IntKind.signed] at h
  exact ⟨n.toNat, by omega, by omega⟩
theorem wf_int {n : Int} (h : (Lit.int .i64 n).wf = true) : -9223372036854775808 ≤ n ∧ n ≤ 9223372036854775807 := by
  simp [Lit.wf, IntKind.min, IntKind.max, IntKind.bits, IntKind.signed] at h
  omega
theorem Lies.take_map {α : Type} {f : α → Value} {w : World} {A : Option Addr} {xs : List α} (h : Lies w A (xs.map f)) (k : Nat) : Lies w A ((xs.take k).map f) := by
  rw [List.map_take]; exact h.take k
/-- One place of a mapped list. -/
theorem Lies.at_map {α : Type} {f : α → Value} {w : World} {A : Option Addr} {xs : List α} (h : Lies w A (xs.map f)) {k : Nat} (hk : k < xs.length) :
    ∃ b off, A = some ⟨b, off, none⟩ ∧ b < w.heap.size ∧ w.cell? ⟨b, off + k, none⟩ = some (f xs[k]) := by
  obtain ⟨b, off, e, hb, hc⟩ := h.at_ (show k < (xs.map f).length by simpa using hk)
  exact ⟨b, off, e, hb, by simpa using hc⟩
theorem ret_int {k : IntKind} {a b : Int} (h : a = b) : Ending.returned (.int k a) = .returned (.int k b) := by rw [h]
theorem ret_bool {b c : Bool} (h : b = c) : Ending.returned (.bool b) = .returned (.bool c) := by rw [h]
theorem ret_slice {A : Option Addr} {n m cap : Nat} (h : n = m) : Ending.returned (.slice A n cap) = .returned (.slice A m cap) := by rw [h]
end Go.Proofs.YtpjoefekhgmlhaaGreat.Mem

namespace Go.Proofs.YtpjoefekhgmlhaaGreat.Gr

/-- A vector that may be. -/
def goodB (v : List Int) : Bool := v.all fun x => decide (-1 ≤ x) && decide (x < (v.length : Int))
def errno (v : List Int) : Int := if 256 < v.length then 12 else if goodB v then 0 else 10
/-- The step of a node. -/
def nxt (v : List Int) (u : Nat) : Option Nat := match v[u]? with
  | some x => if x < 0 then none else some x.toNat
  | none => none
/-- So many steps. -/
def iter (v : List Int) : Nat → Nat → Option Nat
  | 0, u => some u
  | k + 1, u => match nxt v u with
    | none => none
    | some y => iter v k y
/-- The rank of a node, if it is no greater than the fuel. -/
def rk (v : List Int) : Nat → Nat → Option Nat
  | 0, u => match nxt v u with
    | none => some 0
    | some _ => none
  | f + 1, u => match nxt v u with
    | none => some 0
    | some y => match rk v f y with
      | none => none
      | some k => some (k + 1)
def rankOf (v : List Int) (u : Nat) : Nat := (rk v v.length u).getD 0
def allRanked (v : List Int) : Bool := (List.range v.length).all fun u => (rk v v.length u).isSome
def ranksL (v : List Int) : List Int := (List.range v.length).map fun u => (rankOf v u : Int)
def sinks (v : List Int) : List Int := ((List.range v.length).filter fun u => (nxt v u).isNone).map fun u : Nat => (u : Int)
/-- Is a node come back to? -/
def cycB (v : List Int) (u : Nat) : Bool := (List.range v.length).any fun k => iter v (k + 1) u == some u
/-- The nodes from y on, up to where x is. -/
def orbit (v : List Int) (x : Nat) : Nat → Nat → List Nat
  | 0, _ => []
  | f + 1, y => if y = x then [] else y :: match nxt v y with
    | none => []
    | some z => orbit v x f z
def ringOf (v : List Int) (u : Nat) : List Nat := u :: match nxt v u with
  | none => []
  | some y => orbit v u v.length y
def loopOf (v : List Int) : List Nat := match (List.range v.length).find? (cycB v) with
  | none => []
  | some u => ringOf v u
def loopL (v : List Int) : List Int := (loopOf v).map fun u : Nat => (u : Int)

theorem good_iff {v : List Int} : goodB v = true ↔ ∀ x ∈ v, -1 ≤ x ∧ x < (v.length : Int) := by
  simp [goodB, List.all_eq_true]
theorem good_at {v : List Int} (h : goodB v = true) {u : Nat} (hu : u < v.length) : -1 ≤ v[u] ∧ v[u] < (v.length : Int) := good_iff.1 h _ (List.getElem_mem hu)
theorem nxt_at {v : List Int} {u : Nat} (hu : u < v.length) : nxt v u = if v[u] < 0 then none else some v[u].toNat := by
  unfold nxt; rw [List.getElem?_eq_getElem hu]
theorem nxt_lt {v : List Int} (h : goodB v = true) {u y : Nat} (hn : nxt v u = some y) : u < v.length ∧ y < v.length := by
  by_cases hu : u < v.length
  · refine ⟨hu, ?_⟩
    rw [nxt_at hu] at hn
    have := good_at h hu
    split at hn
    · cases hn
    · injection hn with hn; omega
  · unfold nxt at hn
    rw [List.getElem?_eq_none (by omega)] at hn; cases hn
theorem nxt_of_nonneg {v : List Int} {u : Nat} (hu : u < v.length) (h : 0 ≤ v[u]) : nxt v u = some v[u].toNat := by rw [nxt_at hu, if_neg (by omega)]
theorem nxt_of_neg {v : List Int} {u : Nat} (hu : u < v.length) (h : v[u] < 0) : nxt v u = none := by rw [nxt_at hu, if_pos h]

/-! ### ranks -/
/-- k steps lead from u to a node without a step. -/
def IsRank (v : List Int) : Nat → Nat → Prop
  | 0, u => u < v.length ∧ nxt v u = none
  | k + 1, u => ∃ y, nxt v u = some y ∧ IsRank v k y
theorem IsRank.unique {v : List Int} : ∀ {k j u : Nat}, IsRank v k u → IsRank v j u → k = j
  | 0, 0, _, _, _ => rfl
  | 0, j + 1, u, h, ⟨y, hy, _⟩ => by rw [h.2] at hy; cases hy
  | k + 1, 0, u, ⟨y, hy, _⟩, h => by rw [h.2] at hy; cases hy
  | k + 1, j + 1, u, ⟨y, hy, h⟩, ⟨z, hz, h'⟩ => by
    rw [hy] at hz; injection hz with hz; subst hz
    rw [IsRank.unique h h']
theorem IsRank.lt {v : List Int} : ∀ {k u : Nat}, IsRank v k u → u < v.length
  | 0, _, h => h.1
  | k + 1, u, ⟨y, hy, _⟩ => by
    unfold nxt at hy
    by_cases h : u < v.length
    · exact h
    · rw [List.getElem?_eq_none (by omega)] at hy; cases hy
theorem rk_isRank {v : List Int} : ∀ {f u k : Nat}, u < v.length → goodB v = true → rk v f u = some k → IsRank v k u
  | 0, u, k, hu, _, h => by
    unfold rk at h
    split at h
    · injection h with h; subst h; exact ⟨hu, by assumption⟩
    · cases h
  | f + 1, u, k, hu, hg, h => by
    unfold rk at h
    split at h
    · injection h with h; subst h; exact ⟨hu, by assumption⟩
    · rename_i y hy
      split at h
      · cases h
      · rename_i j hj
        injection h with h; subst h
        exact ⟨y, hy, rk_isRank (nxt_lt hg hy).2 hg hj⟩
theorem isRank_rk {v : List Int} : ∀ {f u k : Nat}, IsRank v k u → k ≤ f → rk v f u = some k
  | 0, u, 0, h, _ => by unfold rk; rw [h.2]
  | f + 1, u, 0, h, _ => by unfold rk; rw [h.2]
  | 0, u, k + 1, _, hk => by omega
  | f + 1, u, k + 1, ⟨y, hy, h⟩, hk => by unfold rk; rw [hy]; simp only []; rw [isRank_rk h (by omega)]

/-! ### no more different nodes than there are -/
theorem filter_ne_len : ∀ (l : List Nat) (n : Nat), l.Nodup → l.length ≤ (l.filter (fun x => decide (x ≠ n))).length + 1
  | [], _, _ => by simp
  | a :: l, n, h => by
    rw [List.nodup_cons] at h
    by_cases e : a = n
    · subst e
      have : l.filter (fun x => decide (x ≠ a)) = l := by
        rw [List.filter_eq_self]
        intro x hx
        simp
        rintro rfl
        exact h.1 hx
      rw [List.filter_cons_of_neg (by simp), this]; simp
    · have := filter_ne_len l n h.2
      rw [List.filter_cons_of_pos (by simp [e])]
      simp only [List.length_cons]
      omega
theorem nodup_len : ∀ (n : Nat) (l : List Nat), l.Nodup → (∀ x ∈ l, x < n) → l.length ≤ n
  | 0, l, _, h => by
    cases l with
    | nil => simp
    | cons a l => exact absurd (h a (by simp)) (by omega)
  | n + 1, l, hd, h => by
    have h1 := filter_ne_len l n hd
    have h2 := nodup_len n (l.filter (fun x => decide (x ≠ n))) (hd.filter _) (fun x hx => by
      rw [List.mem_filter] at hx
      have := h x hx.1
      have := of_decide_eq_true hx.2
      omega)
    omega
theorem pigeon {n m : Nat} (f : Nat → Nat) (hf : ∀ i, i < m → f i < n) (hm : n < m) : ∃ i j, i < j ∧ j < m ∧ f i = f j := by
  by_cases h : ∃ i j, i < j ∧ j < m ∧ f i = f j
  · exact h
  · have hd : ((List.range m).map f).Nodup := by
      rw [List.Nodup, List.pairwise_map]
      refine List.Pairwise.imp_of_mem (R := fun a b => a < b) ?_ List.pairwise_lt_range
      intro a b ha hb hab e
      exact h ⟨a, b, hab, List.mem_range.1 hb, e⟩
    have := nodup_len n _ hd (by intro x hx; obtain ⟨i, hi, rfl⟩ := List.mem_map.1 hx; exact hf i (List.mem_range.1 hi))
    simp at this
    omega

/-! ### steps and ranks -/
theorem iter_add {v : List Int} : ∀ (a b u : Nat), iter v (a + b) u = (iter v a u).bind (iter v b)
  | 0, b, u => by simp [iter]
  | a + 1, b, u => by
    rw [show a + 1 + b = (a + b) + 1 by omega]
    simp only [iter]
    cases h : nxt v u with
    | none => rfl
    | some y => exact iter_add a b y
theorem iter_lt {v : List Int} (hg : goodB v = true) : ∀ {k u y : Nat}, u < v.length → iter v k u = some y → y < v.length
  | 0, u, y, hu, h => by simp [iter] at h; omega
  | k + 1, u, y, hu, h => by
    simp only [iter] at h
    split at h
    · cases h
    · rename_i z hz
      exact iter_lt hg (nxt_lt hg hz).2 h
theorem IsRank.along {v : List Int} : ∀ {j k u : Nat}, IsRank v k u → j ≤ k → ∃ y, iter v j u = some y ∧ IsRank v (k - j) y
  | 0, k, u, h, _ => ⟨u, rfl, h⟩
  | j + 1, 0, u, _, hk => by omega
  | j + 1, k + 1, u, ⟨y, hy, h⟩, hk => by
    obtain ⟨z, hz, hr⟩ := IsRank.along h (show j ≤ k by omega)
    refine ⟨z, ?_, by rw [show k + 1 - (j + 1) = k - j by omega]; exact hr⟩
    simp only [iter, hy]
    exact hz
theorem IsRank.past {v : List Int} : ∀ {k u : Nat}, IsRank v k u → iter v (k + 1) u = none
  | 0, u, h => by simp [iter, h.2]
  | k + 1, u, ⟨y, hy, h⟩ => by
    rw [show k + 1 + 1 = (k + 1) + 1 by rfl, iter, hy]
    exact IsRank.past h
/-- A rank is below how many nodes there are. -/
theorem IsRank.bound {v : List Int} (_hg : goodB v = true) {k u : Nat} (h : IsRank v k u) : k < v.length := by
  rcases Nat.lt_or_ge k v.length with h' | h'
  · exact h'
  · have hall : ∀ i, i < k + 1 → ∃ y, iter v i u = some y ∧ IsRank v (k - i) y := fun i hi => h.along (by omega)
    obtain ⟨i, j, hij, hj, e⟩ := pigeon (n := v.length) (m := k + 1) (fun i => (iter v i u).getD 0) (fun i hi => by
      obtain ⟨y, hy, hr⟩ := hall i hi
      simp only [hy, Option.getD_some]
      exact hr.lt) (by omega)
    obtain ⟨y, hy, hr⟩ := hall i (by omega)
    obtain ⟨z, hz, hr'⟩ := hall j hj
    simp only [hy, hz, Option.getD_some] at e
    subst e
    have := hr.unique hr'
    omega
theorem rankOf_eq {v : List Int} (hg : goodB v = true) {k u : Nat} (h : IsRank v k u) : rankOf v u = k := by
  unfold rankOf
  rw [isRank_rk h (Nat.le_of_lt (h.bound hg))]; rfl
theorem allRanked_iff {v : List Int} (hg : goodB v = true) : allRanked v = true ↔ ∀ u, u < v.length → ∃ k, IsRank v k u := by
  unfold allRanked
  rw [List.all_eq_true]
  constructor
  · intro h u hu
    have := h u (List.mem_range.2 hu)
    obtain ⟨k, hk⟩ := Option.isSome_iff_exists.1 this
    exact ⟨k, rk_isRank hu hg hk⟩
  · intro h u hu
    obtain ⟨k, hk⟩ := h u (List.mem_range.1 hu)
    rw [isRank_rk hk (Nat.le_of_lt (hk.bound hg))]; rfl
/-- Whoever has no rank has steps without end. -/
theorem no_rank_iter {v : List Int} (hg : goodB v = true) : ∀ (k u : Nat), u < v.length → (∀ j, ¬ IsRank v j u) → ∃ y, iter v k u = some y
  | 0, u, _, _ => ⟨u, rfl⟩
  | k + 1, u, hu, h => by
    cases hn : nxt v u with
    | none => exact absurd ⟨hu, hn⟩ (h 0)
    | some y =>
      obtain ⟨z, hz⟩ := no_rank_iter hg k y (nxt_lt hg hn).2 (fun j hj => h (j + 1) ⟨y, hn, hj⟩)
      exact ⟨z, by simp only [iter, hn]; exact hz⟩

/-! ### loops -/
def Cyc (v : List Int) (u : Nat) : Prop := ∃ k, 0 < k ∧ iter v k u = some u
theorem Cyc.no_rank {v : List Int} {u : Nat} (h : Cyc v u) : ∀ k, ¬ IsRank v k u := by
  obtain ⟨m, hm, e⟩ := h
  intro k hk
  by_cases hle : m ≤ k
  · obtain ⟨y, hy, hr⟩ := hk.along hle
    rw [e] at hy; injection hy with hy; subst hy
    have := hk.unique hr
    omega
  · have h1 := hk.past
    have h2 : iter v (k + 1 + (m - (k + 1))) u = none := by rw [iter_add, h1]; rfl
    rw [show k + 1 + (m - (k + 1)) = m by omega, e] at h2
    cases h2
/-- Steps without end lead to a loop. -/
theorem no_rank_cyc {v : List Int} (hg : goodB v = true) {u : Nat} (hu : u < v.length) (h : ∀ j, ¬ IsRank v j u) : ∃ c, c < v.length ∧ Cyc v c := by
  have hall := fun i => no_rank_iter hg i u hu h
  obtain ⟨i, j, hij, hj, e⟩ := pigeon (n := v.length) (m := v.length + 1) (fun i => (iter v i u).getD 0) (fun i _ => by
    obtain ⟨y, hy⟩ := hall i
    simp only [hy, Option.getD_some]
    exact iter_lt hg hu hy) (by omega)
  obtain ⟨y, hy⟩ := hall i
  obtain ⟨z, hz⟩ := hall j
  simp only [hy, hz, Option.getD_some] at e
  subst e
  refine ⟨y, iter_lt hg hu hy, j - i, by omega, ?_⟩
  have : iter v (i + (j - i)) u = some y := by rw [show i + (j - i) = j by omega]; exact hz
  rw [iter_add, hy] at this
  exact this
theorem ranked_iff_no_cyc {v : List Int} (hg : goodB v = true) : allRanked v = true ↔ ∀ u, u < v.length → ¬ Cyc v u := by
  rw [allRanked_iff hg]
  constructor
  · intro h u hu hc
    obtain ⟨k, hk⟩ := h u hu
    exact hc.no_rank k hk
  · intro h u hu
    by_cases hr : ∃ k, IsRank v k u
    · exact hr
    · obtain ⟨c, hc, hcc⟩ := no_rank_cyc hg hu (fun j hj => hr ⟨j, hj⟩)
      exact absurd hcc (h c hc)
/-- A loop is no longer than there are nodes: the first return is soon. -/
theorem cyc_iff {v : List Int} (hg : goodB v = true) {u : Nat} (hu : u < v.length) : cycB v u = true ↔ Cyc v u := by
  unfold cycB
  rw [List.any_eq_true]
  constructor
  · rintro ⟨k, _, h⟩
    exact ⟨k + 1, by omega, by simpa using h⟩
  · intro hc
    have hnr := hc.no_rank
    have hall := fun i => no_rank_iter hg i u hu hnr
    obtain ⟨i, j, hij, hj, e⟩ := pigeon (n := v.length) (m := v.length + 1) (fun i => (iter v i u).getD 0) (fun i _ => by
      obtain ⟨y, hy⟩ := hall i
      simp only [hy, Option.getD_some]
      exact iter_lt hg hu hy) (by omega)
    obtain ⟨y, hy⟩ := hall i
    obtain ⟨z, hz⟩ := hall j
    simp only [hy, hz, Option.getD_some] at e
    subst e
    -- iter i u = iter j u = y; the loop through u: go back from y to u
    obtain ⟨m, hm, hmu⟩ := hc
    have hd : iter v (j - i) y = some y := by
      have : iter v (i + (j - i)) u = some y := by rw [show i + (j - i) = j by omega]; exact hz
      rw [iter_add, hy] at this
      exact this
    have hback : ∃ b, iter v b y = some u := by
      -- m·(i+1) ≥ i
      have hmul : ∀ t, iter v (m * t) u = some u := by
        intro t
        induction t with
        | zero => rfl
        | succ t ih => rw [Nat.mul_succ, iter_add, ih]; exact hmu
      refine ⟨m * i - i, ?_⟩
      have h1 : iter v (i + (m * i - i)) u = some u := by
        have : i ≤ m * i := Nat.le_mul_of_pos_left i hm
        rw [show i + (m * i - i) = m * i by omega]; exact hmul i
      rw [iter_add, hy] at h1
      exact h1
    obtain ⟨b, hb⟩ := hback
    have hfin : iter v (j - i) u = some u := by
      have h1 : iter v (j - i + b) y = some u := by rw [iter_add, hd]; exact hb
      rw [show j - i + b = b + (j - i) by omega, iter_add, hb] at h1
      exact h1
    exact ⟨j - i - 1, List.mem_range.2 (by omega), by rw [show j - i - 1 + 1 = j - i by omega, hfin]; simp⟩
end Go.Proofs.YtpjoefekhgmlhaaGreat.Gr

namespace Go.Proofs.YtpjoefekhgmlhaaGreat.Gr
open Go.RowKit Mem

abbrev ints (l : List Int) : List Value := l.map (Value.int .i64)
theorem int_info : (Tryz.prog.info? 3).map (fun i => (i.zero, i.size, i.bytes)) = some (some (.int .i64 0), 1, 8) := by kernel_rfl

/-- One number of a vector that may not be. -/
theorem not_good {v : List Int} (h : goodB v = false) : ∃ j, ∃ hj : j < v.length, (v[j] < -1 ∨ (v.length : Int) ≤ v[j]) ∧ ∀ i, (hi : i < j) → -1 ≤ v[i] ∧ v[i] < (v.length : Int) := by
  have : ∃ j, ∃ hj : j < v.length, (v[j] < -1 ∨ (v.length : Int) ≤ v[j]) := by
    by_cases h' : ∃ j, ∃ hj : j < v.length, (v[j] < -1 ∨ (v.length : Int) ≤ v[j])
    · exact h'
    · exfalso
      have : goodB v = true := good_iff.2 (fun x hx => by
        obtain ⟨j, hj, rfl⟩ := List.mem_iff_getElem.1 hx
        by_cases hb : v[j] < -1 ∨ (v.length : Int) ≤ v[j]
        · exact absurd ⟨j, hj, hb⟩ h'
        · omega)
      rw [h] at this; cases this
  obtain ⟨j, hj, hb⟩ := this
  induction j using Nat.strongRecOn with
  | _ j ih =>
    by_cases hs : ∃ i, ∃ hi : i < j, (v[i] < -1 ∨ (v.length : Int) ≤ v[i])
    · obtain ⟨i, hi, hbi⟩ := hs
      exact ih i hi (by omega) hbi
    · refine ⟨j, hj, hb, fun i hi => ?_⟩
      by_cases hb' : v[i] < -1 ∨ (v.length : Int) ≤ v[i]
      · exact absurd ⟨i, hi, hb'⟩ hs
      · omega

set_option maxHeartbeats 1000000 in
theorem vmay_any (A : Option Addr) (c : Nat) (v : List Int) (w : World) (hA : Lies w A (ints v)) (hl : v.length ≤ 9223372036854775807) :
    Calls Tryz.prog 88 #[.slice A v.length c] w fun e w' => e = .returned (.int .i64 (if goodB v then 0 else 10)) ∧ w = w' := by
  cases hg : goodB v with
  | true =>
    have hat := fun u (hu : u < v.length) => good_at hg hu
    have HAT := Lib.hid hat
    clear hat hg
    go_enter Tryz.func88, Tryz.ntmps88
    go_wp2
    go_loop [7] (fun i => ∃ j : Nat, j ≤ v.length ∧ i = .int .i64 j) (fun i => v.length - (intOf i).toNat)
    case atStart => exact ⟨0, by omega, rfl⟩
    case round =>
      obtain ⟨j, hj, rfl⟩ := hrel
      by_cases hlt : j < v.length
      · obtain ⟨b, off, rfl, hb, hcell⟩ := hA.at_map hlt
        obtain ⟨x, hx⟩ : ∃ x, x = v[j] := ⟨_, rfl⟩
        have hxb := HAT.out j hlt
        rw [← hx] at hcell hxb
        obtain ⟨hx1, hx2⟩ := hxb
        clear hx
        go_wp2
        refine ⟨⟨j + 1, by omega, by go_num⟩, by simp [intOf]; omega⟩
      · go_wp2
        go_ret
        exact ⟨rfl, rfl⟩
  | false =>
    obtain ⟨m, hm, hbad, hok⟩ := not_good hg
    have HBAD := Lib.hid hbad
    have HOK := Lib.hid hok
    clear hg hbad hok
    go_enter Tryz.func88, Tryz.ntmps88
    go_wp2
    go_loop [7] (fun i => ∃ j : Nat, j ≤ m ∧ i = .int .i64 j) (fun i => v.length - (intOf i).toNat)
    case atStart => exact ⟨0, by omega, rfl⟩
    case round =>
      obtain ⟨j, hj, rfl⟩ := hrel
      have hlt : j < v.length := by omega
      obtain ⟨b, off, rfl, hb, hcell⟩ := hA.at_map hlt
      obtain ⟨x, hx⟩ : ∃ x, x = v[j] := ⟨_, rfl⟩
      by_cases hjm : j < m
      · have hxb := HOK.out j hjm
        rw [← hx] at hcell hxb
        obtain ⟨hx1, hx2⟩ := hxb
        clear hx
        go_wp2
        refine ⟨⟨j + 1, by omega, by go_num⟩, by simp [intOf]; omega⟩
      · have ej : j = m := by omega
        subst ej
        have hxb := HBAD.out
        rw [← hx] at hcell hxb
        clear hx HBAD
        rcases hxb with hxb | hxb
        all_goals
          go_wp2
          go_ret
          exact ⟨rfl, rfl⟩

theorem may_any (A : Option Addr) (c : Nat) (v : List Int) (w : World) (hA : Lies w A (ints v)) (hl : v.length ≤ 9223372036854775807) :
    Calls Tryz.prog 50 #[.slice A v.length c] w fun e w' => e = .returned (.int .i64 (errno v)) ∧ w = w' := by
  by_cases h : 256 < v.length
  · have he : errno v = 12 := by unfold errno; rw [if_pos h]
    rw [he]
    go_enter Tryz.func50, Tryz.ntmps50
    go_wp2
    go_ret
    exact ⟨rfl, rfl⟩
  · have he : errno v = if goodB v then 0 else 10 := by unfold errno; rw [if_neg h]
    have hc := Lib.hid (vmay_any A c v w hA hl)
    rw [← he] at hc
    generalize errno v = en at *
    clear he
    go_enter Tryz.func50, Tryz.ntmps50
    go_wp2_with (go_at_call 88; refine (hc.out).mono ?_; rintro e w' ⟨rfl, rfl⟩)
    go_ret
    exact ⟨rfl, rfl⟩

/-! ### the ends -/
/-- The ends among the first k nodes. -/
def sinksTo (v : List Int) (k : Nat) : List Int := ((List.range k).filter fun u => (nxt v u).isNone).map fun u : Nat => (u : Int)
theorem sinksTo_hit {v : List Int} {k : Nat} (h : nxt v k = none) : sinksTo v (k + 1) = sinksTo v k ++ [(k : Int)] := by
  unfold sinksTo; rw [List.range_succ, List.filter_append, List.map_append]; simp [h]
theorem sinksTo_miss {v : List Int} {k : Nat} (h : nxt v k ≠ none) : sinksTo v (k + 1) = sinksTo v k := by
  unfold sinksTo; rw [List.range_succ, List.filter_append]
  have : (nxt v k).isNone = false := by cases hn : nxt v k with | none => exact absurd hn h | some y => rfl
  simp [this]
theorem sinksTo_len (v : List Int) (k : Nat) : (sinksTo v k).length ≤ k := by
  unfold sinksTo; rw [List.length_map]; exact Nat.le_trans (List.length_filter_le _ _) (by simp)

theorem tup_ret {A : Option Addr} {n m cap : Nat} {e : Int} (h : n = m) : Ending.returned (.tuple #[.slice A n cap, .int .i64 e]) = .returned (.tuple #[.slice A m cap, .int .i64 e]) := by rw [h]

theorem sinks_no (A : Option Addr) (c : Nat) (v : List Int) (w : World) (hA : Lies w A (ints v)) (hl : v.length ≤ 9223372036854775807) (he : errno v ≠ 0) :
    Calls Tryz.prog 90 #[.slice A v.length c] w fun e w' => e = .returned (.tuple #[.slice none 0 0, .int .i64 (errno v)]) ∧ w = w' := by
  have hc := Lib.hid (may_any A c v w hA hl)
  have t : (errno v != 0) = true := by simpa using he
  generalize errno v = en at *
  clear he
  go_enter Tryz.func90, Tryz.ntmps90
  go_wp2_with (go_at_call 50; refine (hc.out).mono ?_; rintro e w' ⟨rfl, rfl⟩)
  go_ret2
  exact ⟨rfl, rfl⟩

set_option maxHeartbeats 1000000 in
theorem sinks_yes (A : Option Addr) (c : Nat) (v : List Int) (w : World) (hA : Lies w A (ints v)) (he : errno v = 0) :
    Calls Tryz.prog 90 #[.slice A v.length c] w fun e w' => ∃ S m, e = .returned (.tuple #[.slice S (sinks v).length m, .int .i64 0]) ∧ Lies w' S (ints (sinks v)) ∧ Below w.heap.size w w' := by
  have hl : v.length ≤ 256 := by unfold errno at he; split at he <;> omega
  have hg : goodB v = true := by
    unfold errno at he
    rw [if_neg (by omega)] at he
    cases h : goodB v with
    | true => rfl
    | false => rw [h] at he; simp at he
  have hc := (may_any A c v w hA (by omega))
  rw [he] at hc
  have HC := Lib.hid hc
  have hat := fun u (hu : u < v.length) => good_at hg hu
  have HAT := Lib.hid hat
  obtain ⟨i0, hi, hz0, hz1, hz2⟩ := info_parts int_info
  clear hc he hat hg
  go_enter Tryz.func90, Tryz.ntmps90
  go_wp2_with (go_at_call 50; refine (HC.out).mono ?_; rintro e w' ⟨rfl, rfl⟩)
  go_loopw [5, 15] (fun s i wr => ∃ k : Nat, k ≤ v.length ∧ i = .int .i64 k ∧ wr.ownsRow w.heap.size 3 1 s (sinksTo v k).length (ints (sinksTo v k)) ∧ Below w.heap.size w wr) (fun _ i _ => v.length - (intOf i).toNat)
  case atStart => exact ⟨0, by omega, rfl, World.ownsRow_nil _ _ _ _, Below.refl _ _⟩
  case round =>
    obtain ⟨k, hk, rfl, hown, hbr⟩ := hrel
    have hlen := sinksTo_len v k
    obtain ⟨A5, m5, rfl, hm1, hm2⟩ := own_form hown
    by_cases hlt : k < v.length
    · obtain ⟨b, off, rfl, hb, hcell0⟩ := hA.at_map hlt
      have hcell := (hbr.cell (p := ⟨b, off + k, none⟩) hb).trans hcell0
      obtain ⟨x, hx⟩ : ∃ x, x = v[k] := ⟨_, rfl⟩
      have hxb := HAT.out k hlt
      rw [← hx] at hcell hxb
      obtain ⟨hx1, hx2⟩ := hxb
      have HX := Lib.hid hx
      clear hx hcell0
      by_cases hneg : x = -1
      · have hn : nxt v k = none := nxt_of_neg hlt (by rw [← HX.out, hneg]; decide)
        have hs := sinksTo_hit hn
        have HS := Lib.hid hs
        have t : (x == -1) = true := by simp [hneg]
        have HN := Lib.hid hneg
        have hown1 := hown.alloc (.cells #[.int .i64 (k : Int)] 3)
        have hlie := Lies.new wr #[.int .i64 (k : Int)] 3
        have hsz := hbr.size
        clear hn hs hneg
        go_wp2_with (at_builtin; refine wpList_append_lies _ rfl (.tmp 22) (.tmp 24) _ rfl w.heap.size 3 i0 _ 1 8 Tryz.underlying29 hi hz0 hz1 hz2 rfl (by omega) (.slice A5 (sinksTo v k).length m5) (sinksTo v k).length _ rfl hown1 (some ⟨wr.heap.size, 0, none⟩) 1 1 [.int .i64 (k : Int)] rfl rfl hlie (by intro u hu; simp at hu; subst hu; rfl) (by simp only [maxLen]; omega) (by omega) (by simp; omega) ?_; intro v2 w2 hown2 hg2 hat2)
        have hrow : ∀ g, (Value.slice A5 (sinksTo v k).length m5).ownBlock = some g → w.heap.size ≤ g := fun g h => (hown.lt g h).1
        have hb2 : Below w.heap.size w w2 := (hbr.alloc hsz _).grown hg2 (by simp; omega) hrow
        go_roundw
        case rel => exact ⟨k + 1, by omega, by go_num, by rw [HS.out, List.length_append, ints, List.map_append]; exact hown2, hb2⟩
        case measure => simp [intOf]; omega
      · have hn : nxt v k ≠ none := by rw [nxt_of_nonneg hlt (by rw [← HX.out]; omega)]; simp
        have hs := sinksTo_miss hn
        have HS := Lib.hid hs
        have t : (x == -1) = false := by simp [hneg]
        have HN := Lib.hid hneg
        clear hn hs hneg
        go_wp2_with fail
        refine ⟨⟨k + 1, by omega, by go_num, by rw [HS.out]; exact hown, hbr⟩, by simp [intOf]; omega⟩
    · have ek : k = v.length := by omega
      go_wp2_with fail
      go_ret2
      subst ek
      exact ⟨A5, m5, rfl, .of_own hown, hbr⟩
end Go.Proofs.YtpjoefekhgmlhaaGreat.Gr
