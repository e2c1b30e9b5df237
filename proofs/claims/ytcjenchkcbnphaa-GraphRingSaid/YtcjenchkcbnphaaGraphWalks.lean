/- PLAIN LAWS of the walks that look for loops: what labels say when so many nodes have been begun from. No program in sight. Conditions: the vector may be. -/
import Derived.Test.YtcjenchkcbnphaaGraphRing
namespace Go.Proofs.Ytcjenchkcbnphaa.Gr

/-- The label of a node, 0 if none. -/
def lab (ls : List Nat) (x : Nat) : Nat := ls.getD x 0
theorem lab_at {ls : List Nat} {x : Nat} (h : x < ls.length) : lab ls x = ls[x] := by simp [lab, List.getElem?_eq_getElem h]
theorem lab_lt {ls : List Nat} {x : Nat} (h : lab ls x ≠ 0) : x < ls.length := by
  rcases Nat.lt_or_ge x ls.length with h' | h'
  · exact h'
  · exact absurd (by simp [lab, List.getElem?_eq_none h']) h
theorem lab_set {ls : List Nat} {x : Nat} (h : x < ls.length) (a y : Nat) : lab (ls.set x a) y = if y = x then a else lab ls y := by
  unfold lab
  rw [List.getD_eq_getElem?_getD, List.getElem?_set, List.getD_eq_getElem?_getD]
  by_cases e : y = x
  · subst e; simp [h]
  · rw [if_neg (fun e' => e e'.symm), if_neg e]

/-- Behind k walks. -/
structure Lab (v : List Int) (ls : List Nat) (k : Nat) : Prop where
  len : ls.length = v.length
  le : ∀ x, lab ls x ≤ k
  closed : ∀ x y, lab ls x ≠ 0 → nxt v x = some y → lab ls y ≠ 0
  begun : ∀ x, x < k → lab ls x ≠ 0
/-- The least node of a loop among those that have labels, -1 if there is none. -/
def Least (v : List Int) (ls : List Nat) (m : Int) : Prop :=
  (m = -1 ∧ ∀ x, lab ls x ≠ 0 → ¬ Cyc v x) ∨ ∃ c : Nat, m = (c : Int) ∧ c < v.length ∧ Cyc v c ∧ ∀ x, lab ls x ≠ 0 → Cyc v x → c ≤ x
/-- In the midst of the walk from k: i nodes have been labelled, old labels stand. -/
structure Path (v : List Int) (ls : List Nat) (k i : Nat) (ls' : List Nat) : Prop where
  len : ls'.length = v.length
  fresh : ∀ j, j < i → ∃ y, iter v j k = some y ∧ y < v.length ∧ lab ls y = 0
  old : ∀ y, lab ls y ≠ 0 → lab ls' y = lab ls y
  new : ∀ j y, j < i → iter v j k = some y → lab ls' y = k + 1
  bare : ∀ y, lab ls y = 0 → (∀ j, j < i → iter v j k ≠ some y) → lab ls' y = 0
  inj : ∀ a b, a < i → b < i → iter v a k = iter v b k → a = b

section
variable {v : List Int} {ls ls' : List Nat} {k i x : Nat}
theorem Path.zero (h : Lab v ls k) : Path v ls k 0 ls :=
  ⟨h.len, fun _ h => absurd h (by omega), fun _ _ => rfl, fun _ _ h => absurd h (by omega), fun _ h _ => h, fun _ _ h => absurd h (by omega)⟩
theorem Path.step (h : Path v ls k i ls') (hx : iter v i k = some x) (hl : x < v.length) (h0 : lab ls' x = 0) : Path v ls k (i + 1) (ls'.set x (k + 1)) := by
  have hxl : x < ls'.length := by rw [h.len]; exact hl
  have hold : lab ls x = 0 := by
    by_cases e : lab ls x = 0
    · exact e
    · have := h.old x e; omega
  have hnot : ∀ j, j < i → iter v j k ≠ some x := fun j hj e => by have := h.new j x hj e; omega
  refine ⟨by simpa using h.len, fun j hj => ?_, fun y hy => ?_, fun j y hj e => ?_, fun y hy hn => ?_, fun a b ha hb e => ?_⟩
  · by_cases e : j = i
    · subst e; exact ⟨x, hx, hl, hold⟩
    · exact h.fresh j (by omega)
  · rw [lab_set hxl, if_neg (by rintro rfl; exact hy hold)]
    exact h.old y hy
  · rw [lab_set hxl]
    by_cases ey : y = x
    · rw [if_pos ey]
    · rw [if_neg ey]
      have : j ≠ i := by rintro rfl; rw [hx] at e; injection e with e; exact ey e.symm
      exact h.new j y (by omega) e
  · rw [lab_set hxl, if_neg (by rintro rfl; exact hn i (by omega) hx)]
    exact h.bare y hy (fun j hj => hn j (by omega))
  · by_cases ea : a = i <;> by_cases eb : b = i
    · omega
    · subst ea; rw [hx] at e; exact absurd e.symm (hnot b (by omega))
    · subst eb; rw [hx] at e; exact absurd e (hnot a (by omega))
    · exact h.inj a b (by omega) (by omega) e
theorem Path.bound (h : Path v ls k i ls') : i ≤ v.length := by
  rcases Nat.lt_or_ge v.length i with h' | h'
  · obtain ⟨a, b, hab, hb, e⟩ := pigeon (n := v.length) (m := v.length + 1) (fun j => (iter v j k).getD 0) (fun j hj => by
      obtain ⟨y, hy, hl, _⟩ := h.fresh j (by omega)
      simp only [hy, Option.getD_some]; exact hl) (by omega)
    obtain ⟨y, hy, _⟩ := h.fresh a (by omega)
    obtain ⟨z, hz, _⟩ := h.fresh b (by omega)
    simp only [hy, hz, Option.getD_some] at e
    have := h.inj a b (by omega) (by omega) (by rw [hy, hz, e])
    omega
  · exact h'
/-- Who has a label behind the walk. -/
theorem Path.cases (h : Path v ls k i ls') {y : Nat} (hy : lab ls' y ≠ 0) : lab ls y ≠ 0 ∨ ∃ j, j < i ∧ iter v j k = some y := by
  by_cases e : lab ls y = 0
  · right
    by_cases hj : ∃ j, j < i ∧ iter v j k = some y
    · exact hj
    · exact absurd (h.bare y e (fun j hji ej => hj ⟨j, hji, ej⟩)) hy
  · exact .inl e
theorem Path.labelled (h : Path v ls k i ls') {y : Nat} (hy : lab ls y ≠ 0 ∨ ∃ j, j < i ∧ iter v j k = some y) : lab ls' y ≠ 0 := by
  rcases hy with hy | ⟨j, hj, e⟩
  · rw [h.old y hy]; exact hy
  · rw [h.new j y hj e]; omega
theorem iter_succ {j y : Nat} (h : iter v j k = some y) : iter v (j + 1) k = nxt v y := by
  rw [iter_add, h]
  simp only [Option.bind_some, iter]
  cases nxt v y <;> rfl
/-- The walk has ended well: at an end, or at a node that has a label. -/
theorem Path.done (hL : Lab v ls k) (h : Path v ls k i ls') (hend : ∀ y, iter v i k = some y → lab ls' y ≠ 0) (hk : lab ls' k ≠ 0) : Lab v ls' (k + 1) := by
  refine ⟨h.len, fun y => ?_, fun y z hy hz => ?_, fun y hy => ?_⟩
  · by_cases e : lab ls y = 0
    · by_cases hj : ∃ j, j < i ∧ iter v j k = some y
      · obtain ⟨j, hj, ej⟩ := hj
        rw [h.new j y hj ej]; omega
      · rw [h.bare y e (fun j hji ej => hj ⟨j, hji, ej⟩)]; omega
    · rw [h.old y e]; have := hL.le y; omega
  · rcases h.cases hy with hy | ⟨j, hj, e⟩
    · exact h.labelled (.inl (hL.closed y z hy hz))
    · have e2 : iter v (j + 1) k = some z := (iter_succ e).trans hz
      by_cases hji : j + 1 < i
      · exact h.labelled (.inr ⟨j + 1, hji, e2⟩)
      · rw [show j + 1 = i by omega] at e2
        exact hend z e2
  · by_cases e : y = k
    · subst e; exact hk
    · exact h.labelled (.inl (hL.begun y (by omega)))
theorem Path.begun (h : Path v ls k i ls') (hi : 0 < i ∨ lab ls k ≠ 0) : lab ls' k ≠ 0 := by
  rcases hi with hi | hi
  · exact h.labelled (.inr ⟨0, hi, rfl⟩)
  · exact h.labelled (.inl hi)
/-- No new node is on a loop, if the walk ends, or comes to an old one. -/
theorem Path.no_loop (hL : Lab v ls k) (h : Path v ls k i ls') (hend : iter v i k = none ∨ ∃ x, iter v i k = some x ∧ lab ls x ≠ 0) {m : Int} (hm : Least v ls m) : Least v ls' m := by
  have hno : ∀ j y, j < i → iter v j k = some y → ¬ Cyc v y := by
    intro j y hj e hc
    have hi : iter v (j + (i - j)) k = iter v i k := by rw [show j + (i - j) = i by omega]
    rw [iter_add, e] at hi
    simp only [Option.bind_some] at hi
    rcases hend with hn | ⟨x, hx, hlx⟩
    · rw [hn] at hi
      obtain ⟨q, hq, hqy⟩ := hc
      have hmul : ∀ t, iter v (q * t) y = some y := by
        intro t
        induction t with
        | zero => rfl
        | succ t ih => rw [Nat.mul_succ, iter_add, ih]; exact hqy
      have : iter v ((i - j) + (q * (i - j) - (i - j))) y = some y := by
        have : i - j ≤ q * (i - j) := Nat.le_mul_of_pos_left _ hq
        rw [show (i - j) + (q * (i - j) - (i - j)) = q * (i - j) by omega]; exact hmul _
      rw [iter_add, hi] at this
      cases this
    · rw [hx] at hi
      obtain ⟨b, hb⟩ := cyc_back hc hi
      have := closed_iter (S := fun z => lab ls z ≠ 0) hL.closed hlx hb
      obtain ⟨y', hy', _, h0⟩ := h.fresh j hj
      rw [e] at hy'; injection hy' with hy'; subst hy'
      exact this h0
  rcases hm with ⟨rfl, hm⟩ | ⟨c, rfl, hc1, hc2, hc3⟩
  · refine .inl ⟨rfl, fun y hy => ?_⟩
    rcases h.cases hy with hy | ⟨j, hj, e⟩
    · exact hm y hy
    · exact hno j y hj e
  · refine .inr ⟨c, rfl, hc1, hc2, fun y hy hcy => ?_⟩
    rcases h.cases hy with hy | ⟨j, hj, e⟩
    · exact hc3 y hy hcy
    · exact absurd hcy (hno j y hj e)
/-- The walk has come back to its own way. -/
theorem Path.back (_h : Path v ls k i ls') {j : Nat} (hj : j < i) (hx : iter v i k = some x) (hjx : iter v j k = some x) : Cyc v x := by
  refine ⟨i - j, by omega, ?_⟩
  have : iter v (j + (i - j)) k = some x := by rw [show j + (i - j) = i by omega]; exact hx
  rw [iter_add, hjx] at this
  exact this
theorem Path.loop (hg : goodB v = true) (h : Path v ls k i ls') (hxl : x < v.length) (hc : Cyc v x) (hx : iter v i k = some x) {l m : Int}
    (hl : l ∈ (ringOf v x).map (fun y : Nat => (y : Int)) ∧ ∀ y ∈ (ringOf v x).map (fun y : Nat => (y : Int)), l ≤ y) (hm : Least v ls m) : Least v ls' (if m = -1 ∨ l < m then l else m) := by
  obtain ⟨p, hp, hpn⟩ := hc.per hg hxl
  rw [ringOf_eq hg hxl hc hp hpn] at hl
  obtain ⟨hl1, hl2⟩ := hl
  obtain ⟨c, hcm, rfl⟩ := List.mem_map.1 hl1
  obtain ⟨hcc, hcl⟩ := ring_cyc hg hxl hc hcm
  have hnew : ∀ a y, a < i → iter v a k = some y → Cyc v y → c ≤ y := by
    intro a y ha e hy
    have hi : iter v (a + (i - a)) k = some x := by rw [show a + (i - a) = i by omega]; exact hx
    rw [iter_add, e] at hi
    obtain ⟨b, hb⟩ := cyc_back hy hi
    have := hl2 (y : Int) (List.mem_map.2 ⟨y, mem_ring hp hb, rfl⟩)
    omega
  rcases hm with ⟨rfl, hm⟩ | ⟨d, rfl, hd1, hd2, hd3⟩
  · rw [if_pos (.inl rfl)]
    refine .inr ⟨c, rfl, hcl, hcc, fun y hy hcy => ?_⟩
    rcases h.cases hy with hy | ⟨a, ha, e⟩
    · exact absurd hcy (hm y hy)
    · exact hnew a y ha e hcy
  · by_cases hlt : (c : Int) < (d : Int)
    · rw [if_pos (.inr hlt)]
      refine .inr ⟨c, rfl, hcl, hcc, fun y hy hcy => ?_⟩
      rcases h.cases hy with hy | ⟨a, ha, e⟩
      · have := hd3 y hy hcy; omega
      · exact hnew a y ha e hcy
    · rw [if_neg (by omega)]
      refine .inr ⟨d, rfl, hd1, hd2, fun y hy hcy => ?_⟩
      rcases h.cases hy with hy | ⟨a, ha, e⟩
      · exact hd3 y hy hcy
      · have := hnew a y ha e hcy; omega
end
/-- Behind all walks the least node is the least of all. -/
theorem Least.all {v : List Int} {ls : List Nat} {m : Int} (hg : goodB v = true) (hL : Lab v ls v.length) (h : Least v ls m) :
    (m = -1 ∧ loopOf v = []) ∨ ∃ c : Nat, m = (c : Int) ∧ c < v.length ∧ Cyc v c ∧ loopOf v = ringOf v c := by
  rcases h with ⟨rfl, h⟩ | ⟨c, rfl, h1, h2, h3⟩
  · exact .inl ⟨rfl, loopOf_none hg fun u hu => h u (hL.begun u hu)⟩
  · exact .inr ⟨c, rfl, h1, h2, loopOf_some hg h1 h2 fun x hx hc => by have := h3 x (hL.begun x (by omega)) hc; omega⟩
end Go.Proofs.Ytcjenchkcbnphaa.Gr
