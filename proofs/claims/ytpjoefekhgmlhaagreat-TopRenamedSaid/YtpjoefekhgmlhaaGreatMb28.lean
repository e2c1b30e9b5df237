/- PLAIN: tables and networks made such as may be (the references' Fit), as lists. No program in sight. · CONTRACT of the reference theseusref08.Fit: a table made such as may be. Conditions: the numbers fit their kinds; one node at least. -/
import Derived.Test.YtpjoefekhgmlhaaGreatMb27
import Derived.Test.YtpjoefekhgmlhaaGreatMb15
namespace Go.Proofs.YtpjoefekhgmlhaaGreat.Tp
open Go.RowKit Mem

/-- A rule's place in order. -/
def ordR (r : RuleT) : Nat := r.a * 64 + r.len
theorem pcmp_lt {x y : RuleT} (hx : x.len ≤ 32) (hy : y.len ≤ 32) : pcmp x.a x.len y.a y.len < 0 ↔ ordR x < ordR y := by
  unfold pcmp cmpI ordR
  by_cases h : x.a = y.a
  · rw [if_pos h, h]
    split
    · constructor <;> intro <;> omega
    · split <;> constructor <;> intro <;> omega
  · rw [if_neg h]
    split
    · constructor <;> intro <;> omega
    · split <;> constructor <;> intro <;> omega
theorem pcmp_eq {x y : RuleT} (hx : x.len ≤ 32) (hy : y.len ≤ 32) : pcmp x.a x.len y.a y.len = 0 ↔ ordR x = ordR y := by
  unfold pcmp cmpI ordR
  by_cases h : x.a = y.a
  · rw [if_pos h, h]
    split
    · constructor <;> intro <;> omega
    · split <;> constructor <;> intro <;> omega
  · rw [if_neg h]
    split
    · constructor <;> intro <;> omega
    · split <;> constructor <;> intro <;> omega
theorem pcmp_gt {x y : RuleT} (hx : x.len ≤ 32) (hy : y.len ≤ 32) (h : ordR y < ordR x) : pcmp x.a x.len y.a y.len = 1 := by
  have h1 := pcmp_lt hx hy
  have h2 := pcmp_eq hx hy
  have h3 : pcmp x.a x.len y.a y.len = -1 ∨ pcmp x.a x.len y.a y.len = 1 ∨ pcmp x.a x.len y.a y.len = 0 := by
    unfold pcmp cmpI
    repeat' split
    all_goals simp
  rcases h3 with h3 | h3 | h3
  · have := h1.1 (by omega); omega
  · exact h3
  · have := h2.1 h3; omega
/-- How many rules are ahead of r. -/
def aheadR (r : RuleT) (l : List RuleT) : Nat := (l.takeWhile fun x => decide (pcmp x.a x.len r.a r.len < 0)).length
theorem ahead_le (r : RuleT) (l : List RuleT) : aheadR r l ≤ l.length := by
  unfold aheadR
  exact (List.takeWhile_prefix _).length_le
theorem ahead_of {r : RuleT} {l : List RuleT} {k : Nat} (hk : k ≤ l.length) (h1 : ∀ i (hi : i < l.length), i < k → pcmp l[i].a l[i].len r.a r.len < 0) (h2 : ∀ h : k < l.length, ¬ pcmp l[k].a l[k].len r.a r.len < 0) : aheadR r l = k := by
  induction l generalizing k with
  | nil => simp at hk; subst hk; rfl
  | cons x l ih =>
    unfold aheadR at ih ⊢
    rw [List.takeWhile_cons]
    cases k with
    | zero =>
      have h3 := h2 (by simp)
      simp only [List.getElem_cons_zero] at h3
      simp [h3]
    | succ k =>
      have h3 := h1 0 (by simp) (by omega)
      simp only [List.getElem_cons_zero] at h3
      simp only [h3, decide_true, if_true, List.length_cons]
      rw [ih (k := k) (by simpa using hk) (fun i hi hik => by have := h1 (i + 1) (by simpa using hi) (by omega); simpa using this) (fun h => by have := h2 (by simpa using h); simpa using this)]
theorem ahead_less {r : RuleT} {l : List RuleT} : ∀ {i : Nat} (hi : i < l.length), i < aheadR r l → pcmp l[i].a l[i].len r.a r.len < 0 := by
  induction l with
  | nil => intro i hi; simp at hi
  | cons x l ih =>
    intro i hi h
    unfold aheadR at ih h
    rw [List.takeWhile_cons] at h
    by_cases hx : pcmp x.a x.len r.a r.len < 0
    · cases i with
      | zero => simpa using hx
      | succ i =>
        simp only [hx, decide_true, if_true, List.length_cons] at h
        simpa using ih (by simpa using hi) (by omega)
    · simp [hx] at h
theorem ahead_stop {r : RuleT} {l : List RuleT} (h : aheadR r l < l.length) : ¬ pcmp l[aheadR r l].a l[aheadR r l].len r.a r.len < 0 := by
  induction l with
  | nil => simp at h
  | cons x l ih =>
    by_cases hx : pcmp x.a x.len r.a r.len < 0
    · have e : aheadR r (x :: l) = aheadR r l + 1 := by unfold aheadR; rw [List.takeWhile_cons]; simp [hx]
      have h' : aheadR r l < l.length := by rw [e] at h; simpa using h
      have := ih h'
      simpa only [e, List.getElem_cons_succ] using this
    · have e : aheadR r (x :: l) = 0 := by unfold aheadR; rw [List.takeWhile_cons]; simp [hx]
      simpa only [e, List.getElem_cons_zero] using hx
/-- r at its place, if its prefix is not there. -/
def insR (r : RuleT) (l : List RuleT) : List RuleT :=
  if ∃ h : aheadR r l < l.length, pcmp l[aheadR r l].a l[aheadR r l].len r.a r.len = 0 then l else l.take (aheadR r l) ++ r :: l.drop (aheadR r l)
/-- Is r's prefix there? -/
def isR (r : RuleT) (l : List RuleT) : Bool := decide (∃ h : aheadR r l < l.length, pcmp l[aheadR r l].a l[aheadR r l].len r.a r.len = 0)
theorem isR_yes {r : RuleT} {l : List RuleT} (h : isR r l = true) : insR r l = l := by unfold insR; rw [if_pos (of_decide_eq_true h)]
theorem isR_no {r : RuleT} {l : List RuleT} (h : isR r l = false) : insR r l = l.take (aheadR r l) ++ r :: l.drop (aheadR r l) := by unfold insR; rw [if_neg (of_decide_eq_false h)]
theorem isR_at {r : RuleT} {l : List RuleT} (h : aheadR r l < l.length) : isR r l = decide (pcmp l[aheadR r l].a l[aheadR r l].len r.a r.len = 0) := by
  unfold isR
  rw [decide_eq_decide]
  exact ⟨fun ⟨_, e⟩ => e, fun e => ⟨h, e⟩⟩
theorem isR_end {r : RuleT} {l : List RuleT} (h : ¬ aheadR r l < l.length) : isR r l = false := by
  unfold isR
  rw [decide_eq_false_iff_not]
  exact fun ⟨h', _⟩ => h h'
structure Tab (nodes : Nat) (l : List RuleT) : Prop where
  rule : ∀ r ∈ l, RuleOk nodes r
  asc : l.Pairwise fun x y => ordR x < ordR y
theorem Tab.ok {nodes : Nat} {l : List RuleT} (h : Tab nodes l) : TableOk nodes l :=
  ⟨h.rule, fun i hi => pcmp_gt (h.rule _ (List.getElem_mem hi)).len (h.rule _ (List.getElem_mem (show i < l.length by omega))).len ((List.pairwise_iff_getElem.1 h.asc) i (i + 1) (by omega) hi (by omega))⟩
theorem Tab.ins {nodes : Nat} {l : List RuleT} (h : Tab nodes l) {r : RuleT} (hr : RuleOk nodes r) : Tab nodes (insR r l) := by
  unfold insR
  split
  · exact h
  · rename_i hne
    obtain ⟨k, hk⟩ : ∃ k, k = aheadR r l := ⟨_, rfl⟩
    have h1 : ∀ i (hi : i < l.length), i < k → ordR l[i] < ordR r := fun i hi hik => (pcmp_lt (h.rule _ (List.getElem_mem hi)).len hr.len).1 (ahead_less hi (by omega))
    have h2 : ∀ i (hi : i < l.length), k ≤ i → ordR r < ordR l[i] := fun i hi hik => by
      have hk' : aheadR r l < l.length := by omega
      have s1 := ahead_stop hk'
      have s2 : ¬ pcmp l[aheadR r l].a l[aheadR r l].len r.a r.len = 0 := fun e => hne ⟨hk', e⟩
      rw [pcmp_lt (h.rule _ (List.getElem_mem hk')).len hr.len] at s1
      rw [pcmp_eq (h.rule _ (List.getElem_mem hk')).len hr.len] at s2
      simp only [← hk] at s1 s2
      rcases Nat.lt_or_ge k i with h3 | h3
      · have := (List.pairwise_iff_getElem.1 h.asc) k i (by omega) hi h3
        omega
      · have e : i = k := by omega
        subst e
        omega
    rw [← hk]
    refine ⟨fun x hx => ?_, ?_⟩
    · rcases List.mem_append.1 hx with h3 | h3
      · exact h.rule _ (List.mem_of_mem_take h3)
      · rcases List.mem_cons.1 h3 with rfl | h3
        · exact hr
        · exact h.rule _ (List.mem_of_mem_drop h3)
    · rw [List.pairwise_append]
      refine ⟨h.asc.sublist (List.take_sublist _ _), List.pairwise_cons.2 ⟨fun y hy => ?_, h.asc.sublist (List.drop_sublist _ _)⟩, fun x hx y hy => ?_⟩
      · obtain ⟨i, hi, rfl⟩ := List.getElem_of_mem hy
        rw [List.getElem_drop]
        exact h2 _ _ (by omega)
      · obtain ⟨i, hi, rfl⟩ := List.getElem_of_mem hx
        rw [List.getElem_take]
        have hi' : i < k ∧ i < l.length := by simp at hi; omega
        have h3 := h1 i hi'.2 hi'.1
        rcases List.mem_cons.1 hy with rfl | hy
        · exact h3
        · obtain ⟨j, hj, rfl⟩ := List.getElem_of_mem hy
          rw [List.getElem_drop]
          have := h2 (k + j) (by simp at hj; omega) (by omega)
          omega
theorem ins_len (r : RuleT) (l : List RuleT) : (insR r l).length ≤ l.length + 1 := by
  unfold insR
  split
  · omega
  · simp
    have := ahead_le r l
    omega
/-- The table of the first k rules. -/
def fitTo (nodes : Nat) (l : List RuleZ) (k : Nat) : List RuleT := (l.take k).foldl (fun out r => insR (fitR nodes r) out) []
def fitT (nodes : Nat) (l : List RuleZ) : List RuleT := fitTo nodes l 20
theorem fitTo_next {nodes : Nat} {l : List RuleZ} {k : Nat} (h : k < l.length) : fitTo nodes l (k + 1) = insR (fitR nodes l[k]) (fitTo nodes l k) := by
  unfold fitTo
  rw [List.take_succ_eq_append_getElem h, List.foldl_append]
  rfl
theorem fitTo_end {nodes : Nat} {l : List RuleZ} {k : Nat} (h : l.length ≤ k) : fitTo nodes l k = fitTo nodes l l.length := by
  unfold fitTo
  rw [List.take_of_length_le h, List.take_of_length_le (Nat.le_refl _)]
theorem fitTo_tab {nodes : Nat} (hn : 0 < nodes) {l : List RuleZ} (h : ∀ r ∈ l, RuleZOk r) : ∀ k, k ≤ l.length → Tab nodes (fitTo nodes l k) ∧ (fitTo nodes l k).length ≤ k := by
  intro k
  induction k with
  | zero => intro _; exact ⟨⟨by simp [fitTo], by simp [fitTo]⟩, by simp [fitTo]⟩
  | succ k ih =>
    intro hk
    obtain ⟨h1, h2⟩ := ih (by omega)
    rw [fitTo_next hk]
    exact ⟨h1.ins (fit_ok hn (h _ (List.getElem_mem hk))), by have := ins_len (fitR nodes l[k]) (fitTo nodes l k); omega⟩
theorem fitT_tab {nodes : Nat} (hn : 0 < nodes) {l : List RuleZ} (h : ∀ r ∈ l, RuleZOk r) : Tab nodes (fitT nodes l) ∧ (fitT nodes l).length ≤ 20 := by
  unfold fitT
  rcases Nat.le_total 20 l.length with h1 | h1
  · exact fitTo_tab hn h 20 h1
  · rw [fitTo_end h1]
    have := fitTo_tab hn h l.length (Nat.le_refl _)
    exact ⟨this.1, by omega⟩
/-- How many nodes there are, when fitted. -/
def manyN (net : List (List RuleZ)) : Nat := max 1 (min net.length 8)
def fitN (net : List (List RuleZ)) : List (List RuleT) := (List.range (manyN net)).map fun i => fitT (manyN net) (net.getD i [])
theorem fitN_len (net : List (List RuleZ)) : (fitN net).length = manyN net := by simp [fitN]
theorem fitN_ok {net : List (List RuleZ)} (h : ∀ l ∈ net, ∀ r ∈ l, RuleZOk r) : NetOk (fitN net) ∧ 0 < (fitN net).length ∧ (fitN net).length ≤ 8 ∧ ((fitN net).map List.length).sum ≤ 160 := by
  have hm : 0 < manyN net ∧ manyN net ≤ 8 := by unfold manyN; omega
  have hg : ∀ i, ∀ r ∈ net.getD i [], RuleZOk r := fun i r hr => by
    rw [List.getD_eq_getElem?_getD] at hr
    cases e : net[i]? with
    | none => rw [e] at hr; simp at hr
    | some l => rw [e] at hr; exact h l (List.mem_of_getElem? e) r hr
  have hall : ∀ l ∈ fitN net, Tab (fitN net).length l ∧ l.length ≤ 20 := fun l hl => by
    rw [fitN_len]
    obtain ⟨i, -, rfl⟩ := List.mem_map.1 hl
    exact fitT_tab hm.1 (hg i)
  have hsum : ∀ ls : List (List RuleT), (∀ l ∈ ls, l.length ≤ 20) → (ls.map List.length).sum ≤ 20 * ls.length := fun ls => by
    induction ls with
    | nil => intro _; simp
    | cons x ls ih =>
      intro hx
      have h1 := ih fun l hl => hx l (List.mem_cons_of_mem _ hl)
      have h2 := hx x List.mem_cons_self
      simp only [List.map_cons, List.sum_cons, List.length_cons]
      omega
  have h1 := hsum (fitN net) fun l hl => (hall l hl).2
  have h2 := fitN_len net
  exact ⟨⟨by omega, by omega, fun l hl => (hall l hl).1.ok⟩, by omega, by omega, by omega⟩
end Go.Proofs.YtpjoefekhgmlhaaGreat.Tp

namespace Go.Proofs.YtpjoefekhgmlhaaGreat.Tp
open Go.RowKit Mem

/-! ### rows of rules of any numbers -/
def rczs (l : List RuleZ) : List Value := l.flatMap rcz
theorem rczs_len : ∀ l : List RuleZ, (rczs l).length = l.length * 4
  | [] => rfl
  | r :: l => by
    have := rczs_len l
    simp only [rczs, List.flatMap_cons, List.length_append, List.length_cons] at this ⊢
    rw [this]
    simp
    omega
theorem rczs_at : ∀ (l : List RuleZ) (i : Nat) (hi : i < l.length) (j : Nat), j < 4 → (rczs l)[i * 4 + j]? = (rcz l[i])[j]?
  | [], i, hi, _, _ => absurd hi (by simp)
  | r :: l, 0, _, j, hj => by
    simp only [rczs, List.flatMap_cons, List.getElem_cons_zero, Nat.zero_mul, Nat.zero_add]
    rw [List.getElem?_append_left (by simpa using hj)]
  | r :: l, i + 1, hi, j, hj => by
    simp only [rczs, List.flatMap_cons, List.getElem_cons_succ]
    rw [List.getElem?_append_right (by simp; omega), show (i + 1) * 4 + j - (rcz r).length = i * 4 + j by simp; omega]
    exact rczs_at l i (by simpa using hi) j hj
def RulesZAt (w : World) (A : Option Addr) (l : List RuleZ) : Prop := Lies w A (rczs l)
theorem RulesZAt.at_ {w : World} {A : Option Addr} {l : List RuleZ} (h : RulesZAt w A l) {i : Nat} (hi : i < l.length) : ∃ b off, A = some ⟨b, off, none⟩ ∧ b < w.heap.size ∧
    w.cell? ⟨b, off + i * 4, none⟩ = some (.int .u32 (l[i].a : Int)) ∧ w.cell? ⟨b, off + i * 4 + 1, none⟩ = some (.int .i64 l[i].len) ∧ w.cell? ⟨b, off + i * 4 + 2, none⟩ = some (.int .i64 l[i].act) ∧ w.cell? ⟨b, off + i * 4 + 3, none⟩ = some (.int .i64 l[i].next) := by
  obtain ⟨b, off, e, hb, hc⟩ := h (by rw [rczs_len]; omega)
  refine ⟨b, off, e, hb, ?_, ?_, ?_, ?_⟩
  · exact hc (i * 4 + 0) _ (by rw [rczs_at l i hi 0 (by omega)]; rfl)
  · rw [Nat.add_assoc]; exact hc (i * 4 + 1) _ (by rw [rczs_at l i hi 1 (by omega)]; rfl)
  · rw [Nat.add_assoc]; exact hc (i * 4 + 2) _ (by rw [rczs_at l i hi 2 (by omega)]; rfl)
  · rw [Nat.add_assoc]; exact hc (i * 4 + 3) _ (by rw [rczs_at l i hi 3 (by omega)]; rfl)
/-! ### cuts of slices of elements of s cells -/
section
variable {P : Program} {t : TypeId} (ht : P.underlying t = some (.slice (P.elem t))) {s : Nat} (hs : ∀ w, (sizeOf (P.elem t)).run P w = .ok s w)
include ht hs
theorem cut_lz (A : Option Addr) (len cap l : Nat) (h1 : l ≤ len) (h2 : len ≤ cap) :
    ∃ A', (∀ w, (Instr.slice t (.slice A len cap) (some (.int .i64 (l : Int))) none none).run P w = .ok (.slice A' (len - l) (cap - l)) w) ∧
      ∀ (W : World) (xs : List Value), Lies W A xs → xs.length = len * s → Lies W A' (xs.drop (l * s)) := by
  by_cases hc : cap = l
  · refine ⟨A, fun w => ?_, fun W xs _ hx => lies_drop_all (by rw [hx]; exact Nat.mul_le_mul_right _ (by omega))⟩
    rw [run_slice_l w t A len cap ht .i64 (l : Int) (by omega) (by omega), hs]
    simp [Result.andThen, sliced, hc]
  · refine ⟨A.map (·.add (l * s)), fun w => ?_, fun W xs h _ => lies_add h (l * s)⟩
    rw [run_slice_l w t A len cap ht .i64 (l : Int) (by omega) (by omega), hs]
    simp [Result.andThen, sliced, hc]
theorem cut_hz (A : Option Addr) (len cap m : Nat) (h2 : m ≤ cap) :
    ∃ A', (∀ w, (Instr.slice t (.slice A len cap) none (some (.int .i64 (m : Int))) none).run P w = .ok (.slice A' m cap) w) ∧
      ∀ (W : World) (xs : List Value), Lies W A xs → Lies W A' (xs.take (m * s)) := by
  by_cases hc : cap = 0
  · refine ⟨A, fun w => ?_, fun W xs h => h.take _⟩
    rw [run_slice_h w t A len cap ht .i64 (m : Int) (by omega) (by omega), hs]
    simp [Result.andThen, sliced, hc]
  · refine ⟨A.map (·.add 0), fun w => ?_, fun W xs h => by have := lies_add h 0; rw [List.drop_zero] at this; exact this.take _⟩
    rw [run_slice_h w t A len cap ht .i64 (m : Int) (by omega) (by omega), hs]
    simp [Result.andThen, sliced, hc]
end
theorem rty : Tryz.prog.underlying 44 = some (.slice (Tryz.prog.elem 44)) := by kernel_rfl
theorem rsz : ∀ w, (sizeOf (Tryz.prog.elem 44)).run Tryz.prog w = .ok 4 w := fun _ => by kernel_rfl
theorem rcs_drop (l : List RuleT) (k : Nat) : (rcs l).drop (k * 4) = rcs (l.drop k) := by
  induction l generalizing k with
  | nil => simp [rcs]
  | cons x l ih =>
    cases k with
    | zero => simp
    | succ k =>
      rw [List.drop_succ_cons, ← ih k, show (k + 1) * 4 = k * 4 + 4 by omega]
      simp only [rcs, List.flatMap_cons]
      rw [List.drop_append, List.drop_of_length_le (show (rc x).length ≤ k * 4 + 4 by simp), List.nil_append]
      congr 1
theorem rcs_take (l : List RuleT) (k : Nat) : (rcs l).take (k * 4) = rcs (l.take k) := by
  induction l generalizing k with
  | nil => simp [rcs]
  | cons x l ih =>
    cases k with
    | zero => simp [rcs]
    | succ k =>
      rw [List.take_succ_cons, show (k + 1) * 4 = k * 4 + 4 by omega]
      simp only [rcs, List.flatMap_cons] at ih ⊢
      rw [← ih k, List.take_append, List.take_of_length_le (show (rc x).length ≤ k * 4 + 4 by simp)]
      congr 1
theorem rcs_append (a b : List RuleT) : rcs (a ++ b) = rcs a ++ rcs b := by simp [rcs]
theorem rcs_one (l : List RuleT) : ∀ u ∈ rcs l, u.oneCell' = true := by
  intro u hu
  obtain ⟨r, -, h⟩ := List.mem_flatMap.1 hu
  simp at h
  rcases h with rfl | rfl | rfl | rfl <;> rfl
theorem own_rule (w : World) (r : RuleT) : (w.alloc (.cells #[.int .u32 (r.a : Int), .int .i64 (r.len : Int), .int .i64 (r.act : Int), .int .i64 (r.next : Int)] 43)).ownsRow w.heap.size 43 4 (.slice (some ⟨w.heap.size, 0, none⟩) 1 1) 1 (rcs [r]) :=
  ⟨rfl, .inr ⟨w.heap.size, 1, _, rfl, Nat.le_refl _, heap_alloc_new w _, by omega, by simp [maxLen], rfl, rfl⟩⟩
theorem own_rule0 (w : World) : (w.alloc (.cells #[] 43)).ownsRow w.heap.size 43 4 (.slice (some ⟨w.heap.size, 0, none⟩) 0 0) 0 (rcs []) :=
  ⟨rfl, .inr ⟨w.heap.size, 0, _, rfl, Nat.le_refl _, heap_alloc_new w _, by omega, by simp [maxLen], rfl, rfl⟩⟩
/-- An append at a step of a region that draws its order. -/
theorem step_app {P : Program} {ops : Array Oper} {o : Oper} {a : Act} {K : Act → World → Prop} {Q : Exit → Act → World → Prop} {E : Prop} (hgd : o.guard = none) (s x : Operand) (t : TypeId)
    (ho : o.op = .call { callee := .builtin .append, args := #[s, x], argTypes := #[t, t] }) {e : TypeId} {size bytes : Nat} {z : Value} (ht : P.underlying t = some (.slice e))
    (hinfo : (P.info? e).map (fun i => (i.zero, i.size, i.bytes)) = some (some z, size, bytes)) (hzs : z.cells.size = size) (hsz : 0 < size) (hby : bytes ≤ 64)
    (w W : World) (hb : Below w.heap.size w W) (S : Option Addr) (n cp : Nat) (xs : List Value) (hs : a.eval s = .slice S n cp) (hown : W.ownsRow w.heap.size e size (.slice S n cp) n xs)
    (A : Option Addr) (m c : Nat) (ys : List Value) (hx : a.eval x = .slice A m c) (hl : ys.length = m * size) (hr : Lies W A ys) (h1 : ∀ u ∈ ys, u.oneCell' = true) (h63 : n + m ≤ 1099511627776)
    (h : ∀ S' cp' W', W'.ownsRow w.heap.size e size (.slice S' (n + m) cp') (n + m) (xs ++ ys) → n + m ≤ cp' → cp' ≤ 9223372036854775807 → Below w.heap.size w W' → W.grownBy W' (Value.slice S n cp).ownBlock →
      ((Value.slice S' (n + m) cp').ownBlock = (Value.slice S n cp).ownBlock ∨ (Value.slice S' (n + m) cp').ownBlock = some W.heap.size) → K (a.put o.dst (.slice S' (n + m) cp')) W') :
    if Region.wanted o (yielded ops a.tmps) = true then Oper.wp P o a W K Q else E := by
  have hw : Region.wanted o (yielded ops a.tmps) = true := by simp [Region.wanted, hgd]
  rw [if_pos hw]
  obtain ⟨i0, hi, hz0, hz1, hz2⟩ := info_parts hinfo
  have hnb : (n + m) * bytes ≤ 140737488355328 := Nat.le_trans (Nat.mul_le_mul h63 hby) (by omega)
  obtain ⟨v', W', hrun, h2, h3, h4⟩ := run_append_lies (P := P) W w.heap.size t o.type e i0 z size bytes ht hi hz0 hz1 hz2 hzs hsz (.slice S n cp) n xs hown A m c ys hl hr h1 (by simp only [maxLen]; omega) hnb hb.size
  unfold Oper.wp execOp
  simp only [ho, resolve, invoke, builtin, Sem.run_bind, Sem.run_pure, Result.andThen_ok, List.map_toArray, List.map_cons, List.map_nil, hs, hx, hrun]
  obtain ⟨S', cp', rfl, hc1, hc2⟩ := own_form h2
  exact h S' cp' W' h2 hc1 hc2 (hb.grown h3 hb.size fun g hg' => (hown.lt g hg').1) h3 h4
/-- .. from any base. -/
theorem step_appB {P : Program} {ops : Array Oper} {o : Oper} {a : Act} {K : Act → World → Prop} {Q : Exit → Act → World → Prop} {E : Prop} (hgd : o.guard = none) (s x : Operand) (t : TypeId)
    (ho : o.op = .call { callee := .builtin .append, args := #[s, x], argTypes := #[t, t] }) {e : TypeId} {size bytes : Nat} {z : Value} (ht : P.underlying t = some (.slice e))
    (hinfo : (P.info? e).map (fun i => (i.zero, i.size, i.bytes)) = some (some z, size, bytes)) (hzs : z.cells.size = size) (hsz : 0 < size) (hby : bytes ≤ 64)
    (base : Nat) (W : World) (hb : base ≤ W.heap.size) (S : Option Addr) (n cp : Nat) (xs : List Value) (hs : a.eval s = .slice S n cp) (hown : W.ownsRow base e size (.slice S n cp) n xs)
    (A : Option Addr) (m c : Nat) (ys : List Value) (hx : a.eval x = .slice A m c) (hl : ys.length = m * size) (hr : Lies W A ys) (h1 : ∀ u ∈ ys, u.oneCell' = true) (h63 : n + m ≤ 1099511627776)
    (h : ∀ S' cp' W', W'.ownsRow base e size (.slice S' (n + m) cp') (n + m) (xs ++ ys) → n + m ≤ cp' → cp' ≤ 9223372036854775807 → W.grownBy W' (Value.slice S n cp).ownBlock →
      ((Value.slice S' (n + m) cp').ownBlock = (Value.slice S n cp).ownBlock ∨ (Value.slice S' (n + m) cp').ownBlock = some W.heap.size) → K (a.put o.dst (.slice S' (n + m) cp')) W') :
    if Region.wanted o (yielded ops a.tmps) = true then Oper.wp P o a W K Q else E := by
  have hw : Region.wanted o (yielded ops a.tmps) = true := by simp [Region.wanted, hgd]
  rw [if_pos hw]
  obtain ⟨i0, hi, hz0, hz1, hz2⟩ := info_parts hinfo
  have hnb : (n + m) * bytes ≤ 140737488355328 := Nat.le_trans (Nat.mul_le_mul h63 hby) (by omega)
  obtain ⟨v', W', hrun, h2, h3, h4⟩ := run_append_lies (P := P) W base t o.type e i0 z size bytes ht hi hz0 hz1 hz2 hzs hsz (.slice S n cp) n xs hown A m c ys hl hr h1 (by simp only [maxLen]; omega) hnb hb
  unfold Oper.wp execOp
  simp only [ho, resolve, invoke, builtin, Sem.run_bind, Sem.run_pure, Result.andThen_ok, List.map_toArray, List.map_cons, List.map_nil, hs, hx, hrun]
  obtain ⟨S', cp', rfl, hc1, hc2⟩ := own_form h2
  exact h S' cp' W' h2 hc1 hc2 h3 h4
/-- A table is told. -/
def TabPost (w : World) (l : List RuleT) (e : Ending) (w' : World) : Prop := ∃ R m, e = .returned (.slice R l.length m) ∧ RulesAt w' R l ∧ Below w.heap.size w w' ∧ l.length ≤ m ∧ m ≤ 9223372036854775807 ∧ Gr.New w R
end Go.Proofs.YtpjoefekhgmlhaaGreat.Tp
