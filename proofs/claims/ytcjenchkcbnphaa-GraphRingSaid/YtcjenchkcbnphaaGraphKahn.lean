/- PLAIN LAWS of the ranks that are found from the ends on; and of who steps to whom. No program in sight. Conditions: the vector may be. -/
import Derived.Test.YtcjenchkcbnphaaGraphWalks
namespace Go.Proofs.Ytcjenchkcbnphaa.Gr

/-- Those of the first k nodes that step to x. -/
def predsTo (v : List Int) (x k : Nat) : List Nat := (List.range k).filter fun u => decide (nxt v u = some x)
def preds (v : List Int) (x : Nat) : List Nat := predsTo v x v.length
theorem mem_predsTo {v : List Int} {x k u : Nat} : u ∈ predsTo v x k ↔ u < k ∧ nxt v u = some x := by
  unfold predsTo; rw [List.mem_filter, List.mem_range]; simp
theorem predsTo_hit {v : List Int} {x k : Nat} (h : nxt v k = some x) : predsTo v x (k + 1) = predsTo v x k ++ [k] := by
  unfold predsTo; rw [List.range_succ, List.filter_append]; simp [h]
theorem predsTo_miss {v : List Int} {x k : Nat} (h : nxt v k ≠ some x) : predsTo v x (k + 1) = predsTo v x k := by
  unfold predsTo; rw [List.range_succ, List.filter_append]; simp [h]
theorem predsTo_le {v : List Int} {x : Nat} : ∀ {k m : Nat}, k ≤ m → (predsTo v x k).length ≤ (predsTo v x m).length
  | k, 0, h => by have : k = 0 := by omega
                  subst this; exact Nat.le_refl _
  | k, m + 1, h => by
    by_cases e : k = m + 1
    · subst e; exact Nat.le_refl _
    · have h1 := predsTo_le (v := v) (x := x) (show k ≤ m by omega)
      by_cases hh : nxt v m = some x
      · rw [predsTo_hit hh, List.length_append]; omega
      · rw [predsTo_miss hh]; exact h1
theorem predsTo_nodup (v : List Int) (x k : Nat) : (predsTo v x k).Nodup := List.nodup_range.filter _

/-- How many nodes step to a node below x. -/
def lowB (v : List Int) (x u : Nat) : Bool := match nxt v u with
  | some y => decide (y < x)
  | none => false
def off (v : List Int) (x : Nat) : Nat := ((List.range v.length).filter (lowB v x)).length
theorem filter_split (p q r : Nat → Bool) : ∀ (l : List Nat), (∀ a ∈ l, r a = (p a || q a)) → (∀ a ∈ l, ¬ (p a = true ∧ q a = true)) → (l.filter r).length = (l.filter p).length + (l.filter q).length
  | [], _, _ => rfl
  | a :: l, h, hd => by
    have h1 := h a (by simp)
    have h2 := hd a (by simp)
    have ih := filter_split p q r l (fun b hb => h b (by simp [hb])) (fun b hb => hd b (by simp [hb]))
    simp only [List.filter_cons, h1]
    cases hp : p a <;> cases hq : q a <;> simp_all <;> omega
theorem off_zero (v : List Int) : off v 0 = 0 := by
  unfold off
  have : (List.range v.length).filter (lowB v 0) = [] := by
    rw [List.filter_eq_nil_iff]
    intro u _
    unfold lowB
    split <;> simp
  rw [this]; rfl
theorem off_succ (v : List Int) (x : Nat) : off v (x + 1) = off v x + (preds v x).length := by
  unfold off preds predsTo
  refine filter_split _ _ _ _ (fun u _ => ?_) (fun u _ => ?_)
  · unfold lowB
    cases nxt v u with
    | none => simp
    | some y =>
      simp only [Option.some.injEq]
      by_cases h1 : y < x <;> by_cases h2 : y = x <;> simp [h1, h2] <;> omega
  · unfold lowB
    cases nxt v u with
    | none => simp
    | some y => simp; omega
theorem off_le (v : List Int) (x : Nat) : off v x ≤ v.length := by
  unfold off
  exact Nat.le_trans (List.length_filter_le _ _) (by simp)
theorem off_mono (v : List Int) : ∀ {x y : Nat}, x ≤ y → off v x ≤ off v y
  | x, 0, h => by
    have : x = 0 := by omega
    subst this; exact Nat.le_refl _
  | x, y + 1, h => by
    by_cases e : x = y + 1
    · subst e; exact Nat.le_refl _
    · have := off_mono v (show x ≤ y by omega)
      rw [off_succ]; omega
/-- The places of different nodes do not meet. -/
theorem off_apart {v : List Int} {x y a b : Nat} (ha : a < (preds v x).length) (hb : b < (preds v y).length) (h : off v x + a = off v y + b) : x = y := by
  rcases Nat.lt_trichotomy x y with h' | h' | h'
  · have := off_mono v (show x + 1 ≤ y by omega)
    rw [off_succ] at this; omega
  · exact h'
  · have := off_mono v (show y + 1 ≤ x by omega)
    rw [off_succ] at this; omega
theorem off_end (v : List Int) (x : Nat) : off v x + (preds v x).length ≤ v.length := by rw [← off_succ]; exact off_le v _

/-! ### ranks from the ends on -/
/-- D has been taken, Q waits, E is still to be put. -/
structure Kahn (v : List Int) (D Q E rs : List Nat) : Prop where
  len : rs.length = v.length
  nodup : (D ++ Q).Nodup
  lt : ∀ x ∈ D ++ Q, x < v.length
  rank : ∀ x ∈ D ++ Q, IsRank v (lab rs x) x
  from_ : ∀ x ∈ D ++ Q, nxt v x = none ∨ ∃ y ∈ D, nxt v x = some y
  ends : ∀ x, x < v.length → nxt v x = none → x ∈ D ++ Q
  into : ∀ x y, y ∈ D → nxt v x = some y → x ∈ D ++ Q ∨ x ∈ E
  enodup : E.Nodup
  pend : ∀ u ∈ E, u < v.length ∧ u ∉ D ++ Q ∧ ∃ y ∈ D, nxt v u = some y
theorem Kahn.take {v : List Int} {D Q rs : List Nat} {x : Nat} (h : Kahn v D (x :: Q) [] rs) (hg : goodB v = true) : Kahn v (D ++ [x]) Q (preds v x) rs := by
  have e : D ++ [x] ++ Q = D ++ x :: Q := by simp
  have hx : x ∈ D ++ x :: Q := by simp
  have hxD : x ∉ D := by
    have := h.nodup
    rw [List.nodup_append] at this
    intro hx
    exact this.2.2 x hx x (by simp) rfl
  refine ⟨h.len, by rw [e]; exact h.nodup, by rw [e]; exact h.lt, by rw [e]; exact h.rank, fun y hy => ?_, fun y hy hn => by rw [e]; exact h.ends y hy hn, fun y z hz hn => ?_, predsTo_nodup _ _ _, fun u hu => ?_⟩
  · rw [e] at hy
    rcases h.from_ y hy with h1 | ⟨z, hz, h1⟩
    · exact .inl h1
    · exact .inr ⟨z, List.mem_append_left _ hz, h1⟩
  · rcases List.mem_append.1 hz with hz | hz
    · rcases h.into y z hz hn with h1 | h1
      · rw [e]; exact .inl h1
      · cases h1
    · rw [List.mem_singleton] at hz
      subst hz
      exact .inr (mem_predsTo.2 ⟨(nxt_lt hg hn).1, hn⟩)
  · obtain ⟨hul, hun⟩ := mem_predsTo.1 hu
    refine ⟨hul, ?_, x, by simp, hun⟩
    rw [e]
    intro hin
    rcases h.from_ u hin with h1 | ⟨z, hz, h1⟩
    · rw [hun] at h1; cases h1
    · rw [hun] at h1; injection h1 with h1; subst h1; exact hxD hz
theorem Kahn.put {v : List Int} {D Q E rs : List Nat} {u x : Nat} (h : Kahn v D Q (u :: E) rs) (hx : x ∈ D) (hn : nxt v u = some x) : Kahn v D (Q ++ [u]) E (rs.set u (lab rs x + 1)) := by
  obtain ⟨hul, hnot, _⟩ := h.pend u (by simp)
  have e : D ++ (Q ++ [u]) = (D ++ Q) ++ [u] := by simp
  have hset : ∀ y, lab (rs.set u (lab rs x + 1)) y = if y = u then lab rs x + 1 else lab rs y := fun y => lab_set (by rw [h.len]; exact hul) _ _
  have hen := h.enodup
  rw [List.nodup_cons] at hen
  refine ⟨by simpa using h.len, ?_, ?_, ?_, ?_, fun y hy hyn => ?_, fun y z hz hyz => ?_, hen.2, fun w hw => ?_⟩
  · rw [e, List.nodup_append]
    refine ⟨h.nodup, by simp, fun a ha b hb => ?_⟩
    rw [List.mem_singleton] at hb
    subst hb
    rintro rfl
    exact hnot ha
  · rw [e]
    intro y hy
    rcases List.mem_append.1 hy with hy | hy
    · exact h.lt y hy
    · rw [List.mem_singleton] at hy; subst hy; exact hul
  · rw [e]
    intro y hy
    rw [hset]
    rcases List.mem_append.1 hy with hy' | hy
    · rw [if_neg (show ¬ y = u from fun e' => hnot (e' ▸ hy'))]
      exact h.rank y hy'
    · rw [List.mem_singleton] at hy
      subst hy
      rw [if_pos rfl]
      exact ⟨x, hn, h.rank x (List.mem_append_left _ hx)⟩
  · rw [e]
    intro y hy
    rcases List.mem_append.1 hy with hy | hy
    · exact h.from_ y hy
    · rw [List.mem_singleton] at hy
      subst hy
      exact .inr ⟨x, hx, hn⟩
  · rw [e]; exact List.mem_append_left _ (h.ends y hy hyn)
  · rw [e]
    rcases h.into y z hz hyz with h1 | h1
    · exact .inl (List.mem_append_left _ h1)
    · rcases List.mem_cons.1 h1 with rfl | h1
      · exact .inl (by simp)
      · exact .inr h1
  · obtain ⟨h1, h2, h3⟩ := h.pend w (by simp [hw])
    refine ⟨h1, ?_, h3⟩
    rw [e]
    intro hin
    rcases List.mem_append.1 hin with hin | hin
    · exact h2 hin
    · rw [List.mem_singleton] at hin
      subst hin
      exact hen.1 hw
/-- There is room for one more. -/
theorem Kahn.room {v : List Int} {D Q E rs : List Nat} {u : Nat} (h : Kahn v D Q (u :: E) rs) : D.length + Q.length < v.length := by
  obtain ⟨hul, hnot, _⟩ := h.pend u (by simp)
  have := nodup_len v.length (u :: (D ++ Q)) (by rw [List.nodup_cons]; exact ⟨hnot, h.nodup⟩) (by
    intro x hx
    rcases List.mem_cons.1 hx with rfl | hx
    · exact hul
    · exact h.lt x hx)
  simp at this
  omega
theorem Kahn.few {v : List Int} {D Q E rs : List Nat} (h : Kahn v D Q E rs) : D.length + Q.length ≤ v.length := by
  have := nodup_len v.length (D ++ Q) h.nodup h.lt
  simpa using this
theorem Kahn.ranked {v : List Int} {D rs : List Nat} (h : Kahn v D [] [] rs) (hg : goodB v = true) : ∀ {k x : Nat}, IsRank v k x → x ∈ D
  | 0, x, hx => by simpa using h.ends x hx.1 hx.2
  | k + 1, x, ⟨y, hy, hr⟩ => by
    have := h.into x y (h.ranked hg hr) hy
    simpa using this
theorem Kahn.end_no {v : List Int} {D rs : List Nat} (h : Kahn v D [] [] rs) (hg : goodB v = true) (hd : D.length < v.length) : allRanked v = false := by
  cases ha : allRanked v with
  | false => rfl
  | true =>
    exfalso
    rw [allRanked_iff hg] at ha
    have hall : ∀ x, x < v.length → x ∈ D := fun x hx => by
      obtain ⟨k, hk⟩ := ha x hx
      exact h.ranked hg hk
    obtain ⟨i, j, hij, hj, e⟩ := pigeon (n := D.length) (m := v.length) (fun x => D.idxOf x) (fun i hi => List.idxOf_lt_length_of_mem (hall i hi)) hd
    have h1 := List.getElem_idxOf (List.idxOf_lt_length_of_mem (hall i (by omega)))
    have h2 := List.getElem_idxOf (List.idxOf_lt_length_of_mem (hall j hj))
    have e' : D.idxOf i = D.idxOf j := e
    simp only [e'] at h1
    rw [h1] at h2
    omega
theorem Kahn.end_yes {v : List Int} {D rs : List Nat} (h : Kahn v D [] [] rs) (hg : goodB v = true) (hd : ¬ D.length < v.length) : allRanked v = true ∧ rs.map (fun x : Nat => (x : Int)) = ranksL v := by
  have hn : D.Nodup := by simpa using h.nodup
  have hlt : ∀ x ∈ D, x < v.length := fun x hx => h.lt x (by simpa using hx)
  have hall : ∀ x, x < v.length → x ∈ D := fun x hx => by
    by_cases hin : x ∈ D
    · exact hin
    · have := nodup_len v.length (x :: D) (by rw [List.nodup_cons]; exact ⟨hin, hn⟩) (by
        intro y hy
        rcases List.mem_cons.1 hy with rfl | hy
        · exact hx
        · exact hlt y hy)
      simp at this
      omega
  refine ⟨(allRanked_iff hg).2 fun x hx => ⟨_, h.rank x (by simpa using hall x hx)⟩, ?_⟩
  unfold ranksL
  apply List.ext_getElem
  · simp [h.len]
  · intro i h1 h2
    simp at h1
    have hi : i < v.length := by rw [← h.len]; exact h1
    have := rankOf_eq hg (h.rank i (by simpa using hall i hi))
    rw [lab_at h1] at this
    simp [this]
end Go.Proofs.Ytcjenchkcbnphaa.Gr
