/- PLAIN LAWS of the ranks that are found from the ends on; and of who steps to whom. No program in sight. Conditions: the vector may be.
CONTRACT: who steps to each node (graph.back). Conditions: the vector may be, and has 256 numbers at most. -/
import Derived.Test.YtpjoefekhgmlhaaGreatMa03
import Derived.ArgAppend
import Derived.Laws.IdiomCopy
namespace Go.Proofs.YtpjoefekhgmlhaaGreat.Gr

/-- Those of the first k nodes that step to x. -/
def predsTo (v : List Int) (x k : Nat) : List Nat := (List.range k).filter fun u => decide (nxt v u = some x)
def preds (v : List Int) (x : Nat) : List Nat := predsTo v x v.length
theorem mem_predsTo {v : List Int} {x k u : Nat} : u ∈ predsTo v x k ↔ u < k ∧ nxt v u = some x := by
  unfold predsTo; rw [List.mem_filter, List.mem_range]; simp
theorem predsTo_hit {v : List Int} {x k : Nat} (h : nxt v k = some x) : predsTo v x (k + 1) = predsTo v x k ++ [k] := by
  unfold predsTo; rw [List.range_succ, List.filter_append]; simp [h]
theorem predsTo_miss {v : List Int} {x k : Nat} (h : nxt v k ≠ some x) : predsTo v x (k + 1) = predsTo v x k := by
  unfold predsTo; rw [List.range_succ, List.filter_append]; simp [h]
theorem predsTo_le {v : List Int} {x : Nat} : ∀ {k m : Nat}, k ≤ m → (predsTo v x k).length ≤ (predsTo v x m).length
  | k, 0, h => by have : k = 0 := by omega
                  subst this; exact Nat.le_refl _
  | k, m + 1, h => by
    by_cases e : k = m + 1
    · subst e; exact Nat.le_refl _
    · have h1 := predsTo_le (v := v) (x := x) (show k ≤ m by omega)
      by_cases hh : nxt v m = some x
      · rw [predsTo_hit hh, List.length_append]; omega
      · rw [predsTo_miss hh]; exact h1
theorem predsTo_nodup (v : List Int) (x k : Nat) : (predsTo v x k).Nodup := List.nodup_range.filter _

/-- How many nodes step to a node below x. -/
def lowB (v : List Int) (x u : Nat) : Bool := match nxt v u with
  | some y => decide (y < x)
  | none => false
def off (v : List Int) (x : Nat) : Nat := ((List.range v.length).filter (lowB v x)).length
theorem filter_split (p q r : Nat → Bool) : ∀ (l : List Nat), (∀ a ∈ l, r a = (p a || q a)) → (∀ a ∈ l, ¬ (p a = true ∧ q a = true)) → (l.filter r).length = (l.filter p).length + (l.filter q).length
  | [], _, _ => rfl
  | a :: l, h, hd => by
    have h1 := h a (by simp)
    have h2 := hd a (by simp)
    have ih := filter_split p q r l (fun b hb => h b (by simp [hb])) (fun b hb => hd b (by simp [hb]))
    simp only [List.filter_cons, h1]
    cases hp : p a <;> cases hq : q a <;> simp_all <;> omega
theorem off_zero (v : List Int) : off v 0 = 0 := by
  unfold off
  have : (List.range v.length).filter (lowB v 0) = [] := by
    rw [List.filter_eq_nil_iff]
    intro u _
    unfold lowB
    split <;> simp
  rw [this]; rfl
theorem off_succ (v : List Int) (x : Nat) : off v (x + 1) = off v x + (preds v x).length := by
  unfold off preds predsTo
  refine filter_split _ _ _ _ (fun u _ => ?_) (fun u _ => ?_)
  · unfold lowB
    cases nxt v u with
    | none => simp
    | some y =>
      simp only [Option.some.injEq]
      by_cases h1 : y < x <;> by_cases h2 : y = x <;> simp [h1, h2] <;> omega
  · unfold lowB
    cases nxt v u with
    | none => simp
    | some y => simp; omega
theorem off_le (v : List Int) (x : Nat) : off v x ≤ v.length := by
  unfold off
  exact Nat.le_trans (List.length_filter_le _ _) (by simp)
theorem off_mono (v : List Int) : ∀ {x y : Nat}, x ≤ y → off v x ≤ off v y
  | x, 0, h => by
    have : x = 0 := by omega
    subst this; exact Nat.le_refl _
  | x, y + 1, h => by
    by_cases e : x = y + 1
    · subst e; exact Nat.le_refl _
    · have := off_mono v (show x ≤ y by omega)
      rw [off_succ]; omega
/-- The places of different nodes do not meet. -/
theorem off_apart {v : List Int} {x y a b : Nat} (ha : a < (preds v x).length) (hb : b < (preds v y).length) (h : off v x + a = off v y + b) : x = y := by
  rcases Nat.lt_trichotomy x y with h' | h' | h'
  · have := off_mono v (show x + 1 ≤ y by omega)
    rw [off_succ] at this; omega
  · exact h'
  · have := off_mono v (show y + 1 ≤ x by omega)
    rw [off_succ] at this; omega
theorem off_end (v : List Int) (x : Nat) : off v x + (preds v x).length ≤ v.length := by rw [← off_succ]; exact off_le v _

/-! ### ranks from the ends on -/
/-- D has been taken, Q waits, E is still to be put. -/
structure Kahn (v : List Int) (D Q E rs : List Nat) : Prop where
  len : rs.length = v.length
  nodup : (D ++ Q).Nodup
  lt : ∀ x ∈ D ++ Q, x < v.length
  rank : ∀ x ∈ D ++ Q, IsRank v (lab rs x) x
  from_ : ∀ x ∈ D ++ Q, nxt v x = none ∨ ∃ y ∈ D, nxt v x = some y
  ends : ∀ x, x < v.length → nxt v x = none → x ∈ D ++ Q
  into : ∀ x y, y ∈ D → nxt v x = some y → x ∈ D ++ Q ∨ x ∈ E
  enodup : E.Nodup
  pend : ∀ u ∈ E, u < v.length ∧ u ∉ D ++ Q ∧ ∃ y ∈ D, nxt v u = some y
theorem Kahn.take {v : List Int} {D Q rs : List Nat} {x : Nat} (h : Kahn v D (x :: Q) [] rs) (hg : goodB v = true) : Kahn v (D ++ [x]) Q (preds v x) rs := by
  have e : D ++ [x] ++ Q = D ++ x :: Q := by simp
  have hx : x ∈ D ++ x :: Q := by simp
  have hxD : x ∉ D := by
    have := h.nodup
    rw [List.nodup_append] at this
    intro hx
    exact this.2.2 x hx x (by simp) rfl
  refine ⟨h.len, by rw [e]; exact h.nodup, by rw [e]; exact h.lt, by rw [e]; exact h.rank, fun y hy => ?_, fun y hy hn => by rw [e]; exact h.ends y hy hn, fun y z hz hn => ?_, predsTo_nodup _ _ _, fun u hu => ?_⟩
  · rw [e] at hy
    rcases h.from_ y hy with h1 | ⟨z, hz, h1⟩
    · exact .inl h1
    · exact .inr ⟨z, List.mem_append_left _ hz, h1⟩
  · rcases List.mem_append.1 hz with hz | hz
    · rcases h.into y z hz hn with h1 | h1
      · rw [e]; exact .inl h1
      · cases h1
    · rw [List.mem_singleton] at hz
      subst hz
      exact .inr (mem_predsTo.2 ⟨(nxt_lt hg hn).1, hn⟩)
  · obtain ⟨hul, hun⟩ := mem_predsTo.1 hu
    refine ⟨hul, ?_, x, by simp, hun⟩
    rw [e]
    intro hin
    rcases h.from_ u hin with h1 | ⟨z, hz, h1⟩
    · rw [hun] at h1; cases h1
    · rw [hun] at h1; injection h1 with h1; subst h1; exact hxD hz
theorem Kahn.put {v : List Int} {D Q E rs : List Nat} {u x : Nat} (h : Kahn v D Q (u :: E) rs) (hx : x ∈ D) (hn : nxt v u = some x) : Kahn v D (Q ++ [u]) E (rs.set u (lab rs x + 1)) := by
  obtain ⟨hul, hnot, _⟩ := h.pend u (by simp)
  have e : D ++ (Q ++ [u]) = (D ++ Q) ++ [u] := by simp
  have hset : ∀ y, lab (rs.set u (lab rs x + 1)) y = if y = u then lab rs x + 1 else lab rs y := fun y => lab_set (by rw [h.len]; exact hul) _ _
  have hen := h.enodup
  rw [List.nodup_cons] at hen
  refine ⟨by simpa using h.len, ?_, ?_, ?_, ?_, fun y hy hyn => ?_, fun y z hz hyz => ?_, hen.2, fun w hw => ?_⟩
  · rw [e, List.nodup_append]
    refine ⟨h.nodup, by simp, fun a ha b hb => ?_⟩
    rw [List.mem_singleton] at hb
    subst hb
    rintro rfl
    exact hnot ha
  · rw [e]
    intro y hy
    rcases List.mem_append.1 hy with hy | hy
    · exact h.lt y hy
    · rw [List.mem_singleton] at hy; subst hy; exact hul
  · rw [e]
    intro y hy
    rw [hset]
    rcases List.mem_append.1 hy with hy' | hy
    · rw [if_neg (show ¬ y = u from fun e' => hnot (e' ▸ hy'))]
      exact h.rank y hy'
    · rw [List.mem_singleton] at hy
      subst hy
      rw [if_pos rfl]
      exact ⟨x, hn, h.rank x (List.mem_append_left _ hx)⟩
  · rw [e]
    intro y hy
    rcases List.mem_append.1 hy with hy | hy
    · exact h.from_ y hy
    · rw [List.mem_singleton] at hy
      subst hy
      exact .inr ⟨x, hx, hn⟩
  · rw [e]; exact List.mem_append_left _ (h.ends y hy hyn)
  · rw [e]
    rcases h.into y z hz hyz with h1 | h1
    · exact .inl (List.mem_append_left _ h1)
    · rcases List.mem_cons.1 h1 with rfl | h1
      · exact .inl (by simp)
      · exact .inr h1
  · obtain ⟨h1, h2, h3⟩ := h.pend w (by simp [hw])
    refine ⟨h1, ?_, h3⟩
    rw [e]
    intro hin
    rcases List.mem_append.1 hin with hin | hin
    · exact h2 hin
    · rw [List.mem_singleton] at hin
      subst hin
      exact hen.1 hw
/-- There is room for one more. -/
theorem Kahn.room {v : List Int} {D Q E rs : List Nat} {u : Nat} (h : Kahn v D Q (u :: E) rs) : D.length + Q.length < v.length := by
  obtain ⟨hul, hnot, _⟩ := h.pend u (by simp)
  have := nodup_len v.length (u :: (D ++ Q)) (by rw [List.nodup_cons]; exact ⟨hnot, h.nodup⟩) (by
    intro x hx
    rcases List.mem_cons.1 hx with rfl | hx
    · exact hul
    · exact h.lt x hx)
  simp at this
  omega
theorem Kahn.few {v : List Int} {D Q E rs : List Nat} (h : Kahn v D Q E rs) : D.length + Q.length ≤ v.length := by
  have := nodup_len v.length (D ++ Q) h.nodup h.lt
  simpa using this
theorem Kahn.ranked {v : List Int} {D rs : List Nat} (h : Kahn v D [] [] rs) (hg : goodB v = true) : ∀ {k x : Nat}, IsRank v k x → x ∈ D
  | 0, x, hx => by simpa using h.ends x hx.1 hx.2
  | k + 1, x, ⟨y, hy, hr⟩ => by
    have := h.into x y (h.ranked hg hr) hy
    simpa using this
theorem Kahn.end_no {v : List Int} {D rs : List Nat} (h : Kahn v D [] [] rs) (hg : goodB v = true) (hd : D.length < v.length) : allRanked v = false := by
  cases ha : allRanked v with
  | false => rfl
  | true =>
    exfalso
    rw [allRanked_iff hg] at ha
    have hall : ∀ x, x < v.length → x ∈ D := fun x hx => by
      obtain ⟨k, hk⟩ := ha x hx
      exact h.ranked hg hk
    obtain ⟨i, j, hij, hj, e⟩ := pigeon (n := D.length) (m := v.length) (fun x => D.idxOf x) (fun i hi => List.idxOf_lt_length_of_mem (hall i hi)) hd
    have h1 := List.getElem_idxOf (List.idxOf_lt_length_of_mem (hall i (by omega)))
    have h2 := List.getElem_idxOf (List.idxOf_lt_length_of_mem (hall j hj))
    have e' : D.idxOf i = D.idxOf j := e
    simp only [e'] at h1
    rw [h1] at h2
    omega
theorem Kahn.end_yes {v : List Int} {D rs : List Nat} (h : Kahn v D [] [] rs) (hg : goodB v = true) (hd : ¬ D.length < v.length) : allRanked v = true ∧ rs.map (fun x : Nat => (x : Int)) = ranksL v := by
  have hn : D.Nodup := by simpa using h.nodup
  have hlt : ∀ x ∈ D, x < v.length := fun x hx => h.lt x (by simpa using hx)
  have hall : ∀ x, x < v.length → x ∈ D := fun x hx => by
    by_cases hin : x ∈ D
    · exact hin
    · have := nodup_len v.length (x :: D) (by rw [List.nodup_cons]; exact ⟨hin, hn⟩) (by
        intro y hy
        rcases List.mem_cons.1 hy with rfl | hy
        · exact hx
        · exact hlt y hy)
      simp at this
      omega
  refine ⟨(allRanked_iff hg).2 fun x hx => ⟨_, h.rank x (by simpa using hall x hx)⟩, ?_⟩
  unfold ranksL
  apply List.ext_getElem
  · simp [h.len]
  · intro i h1 h2
    simp at h1
    have hi : i < v.length := by rw [← h.len]; exact h1
    have := rankOf_eq hg (h.rank i (by simpa using hall i hi))
    rw [lab_at h1] at this
    simp [this]
end Go.Proofs.YtpjoefekhgmlhaaGreat.Gr

namespace Go.Proofs.YtpjoefekhgmlhaaGreat.Gr
open Go.RowKit Mem

theorem slice_info : (Tryz.prog.info? 29).map (fun i => (i.zero, i.size, i.bytes)) = some (some (.slice none 0 0), 1, 24) := by kernel_rfl
/-- How many of the first k nodes step to each node. -/
def cntL (v : List Int) (k : Nat) : List Nat := (List.range v.length).map fun x => (predsTo v x k).length
theorem cntL_len (v : List Int) (k : Nat) : (cntL v k).length = v.length := by simp [cntL]
theorem cntL_at {v : List Int} {k x : Nat} (hx : x < v.length) : lab (cntL v k) x = (predsTo v x k).length := by
  rw [lab_at (by rw [cntL_len]; exact hx)]; simp [cntL]
theorem cntL_zero (v : List Int) : cntL v 0 = List.replicate v.length 0 := by
  unfold cntL
  apply List.ext_getElem
  · simp
  · intro i h1 h2; simp [predsTo]
theorem cntL_miss {v : List Int} {k : Nat} (h : nxt v k = none) : cntL v (k + 1) = cntL v k := by
  unfold cntL
  apply List.map_congr_left
  intro x _
  rw [predsTo_miss (by rw [h]; simp)]
theorem cntL_hit {v : List Int} {k y : Nat} (h : nxt v k = some y) (hy : y < v.length) : cntL v (k + 1) = (cntL v k).set y (lab (cntL v k) y + 1) := by
  apply List.ext_getElem
  · simp [cntL_len]
  · intro i h1 h2
    rw [List.getElem_set]
    have hi : i < v.length := by rw [cntL_len] at h1; exact h1
    by_cases e : y = i
    · subst e
      rw [if_pos rfl, cntL_at hy]
      simp [cntL, predsTo_hit h]
    · rw [if_neg e]
      simp [cntL, predsTo_miss (v := v) (x := i) (k := k) (by rw [h]; intro e'; injection e' with e'; exact e e')]

/-- The row of slices: of each node below k where its part begins, and how much room it has; so many places are taken. -/
def Parts (w : World) (v : List Int) (g1 g2 m k : Nat) : Prop :=
  ∃ fs : Array Value, w.heap[g2]? = some (.cells fs 29 (0, 0)) ∧ fs.size = v.length ∧
    ∀ x, x < m → ∃ o, fs[x]? = some (.slice (some ⟨g1, o, none⟩) (predsTo v x k).length (preds v x).length) ∧ (0 < (preds v x).length → o = off v x)
/-- The parts' own places. -/
def Filled (v : List Int) (al : List Nat) (k : Nat) : Prop := al.length = v.length ∧ ∀ (x i u : Nat), x < v.length → (predsTo v x k)[i]? = some u → lab al (off v x + i) = u

theorem Parts.cell {w : World} {v : List Int} {g1 g2 m k x : Nat} (h : Parts w v g1 g2 m k) (hx : x < m) : ∃ o, w.cell? ⟨g2, x, none⟩ = some (.slice (some ⟨g1, o, none⟩) (predsTo v x k).length (preds v x).length) ∧ (0 < (preds v x).length → o = off v x) := by
  obtain ⟨fs, h1, _, h3⟩ := h
  obtain ⟨o, ho, hoo⟩ := h3 x hx
  exact ⟨o, by rw [cell_of_row w g2 x fs _ (0, 0) h1]; exact ho, hoo⟩
theorem Parts.any {w : World} {v : List Int} {g1 g2 m k x : Nat} (h : Parts w v g1 g2 m k) (hx : x < v.length) : ∃ u, w.cell? ⟨g2, x, none⟩ = some u := by
  obtain ⟨fs, h1, h2, _⟩ := h
  exact ⟨fs[x], by rw [cell_of_row w g2 x fs _ (0, 0) h1]; exact Array.getElem?_eq_getElem (by omega)⟩
theorem Parts.free {w : World} {v : List Int} {g1 g2 m k : Nat} (h : Parts w v g1 g2 m k) (x : Nat) : w.frozen? ⟨g2, x, none⟩ = false := by
  obtain ⟨fs, h1, _⟩ := h
  exact frozen_of_row w g2 x fs _ h1
theorem Parts.keep {w w' : World} {v : List Int} {g1 g2 m k : Nat} (h : Parts w v g1 g2 m k) (hk : w'.heap[g2]? = w.heap[g2]?) : Parts w' v g1 g2 m k := by
  obtain ⟨fs, h1, h2⟩ := h
  exact ⟨fs, hk.trans h1, h2⟩

theorem Parts.lay {w : World} {v : List Int} {g1 g2 k q at0 : Nat} (h : Parts w v g1 g2 k 0) (hk : k < v.length) (hq : q = (preds v k).length) (ha : at0 = off v k) :
    Parts (w.setCell ⟨g2, k, none⟩ (.slice (if q = 0 then some ⟨g1, 0, none⟩ else some ⟨g1, at0, none⟩) 0 q)) v g1 g2 (k + 1) 0 := by
  obtain ⟨fs, h1, h2, h3⟩ := h
  refine ⟨_, heap_setCell_same w g2 k fs _ _ h1, by simpa using h2, fun x hx => ?_⟩
  rw [Array.getElem?_setIfInBounds]
  by_cases e : k = x
  · subst e
    rw [if_pos rfl, if_pos (by omega)]
    by_cases hq0 : q = 0
    · exact ⟨0, by rw [if_pos hq0, hq]; rfl, fun h => by omega⟩
    · exact ⟨at0, by rw [if_neg hq0, hq]; rfl, fun _ => ha⟩
  · rw [if_neg e]
    exact h3 x (by omega)
theorem Row.far {w : World} {g : Nat} {ls : List Nat} (h : Row w g ls) {p : Addr} (hp : g ≠ p.block) (u : Value) : Row (w.setCell p u) g ls := (heap_setCell_other w p g u hp).trans h

theorem Filled.start (v : List Int) : Filled v (List.replicate v.length 0) 0 := ⟨by simp, fun x i u _ h => by simp [predsTo] at h⟩
theorem Filled.miss {v : List Int} {al : List Nat} {k : Nat} (h : Filled v al k) (hn : nxt v k = none) : Filled v al (k + 1) :=
  ⟨h.1, fun x i u hx hi => h.2 x i u hx (by rw [predsTo_miss (by rw [hn]; simp)] at hi; exact hi)⟩
theorem room_for {v : List Int} {k z : Nat} (hk : k < v.length) (hn : nxt v k = some z) : (predsTo v z k).length < (preds v z).length := by
  have h1 := predsTo_le (v := v) (x := z) (show k + 1 ≤ v.length by omega)
  rw [predsTo_hit hn, List.length_append] at h1
  unfold preds
  simp at h1
  omega
theorem Filled.step {v : List Int} {al : List Nat} {k z : Nat} (h : Filled v al k) (hk : k < v.length) (hn : nxt v k = some z) : Filled v (al.set (off v z + (predsTo v z k).length) k) (k + 1) := by
  have hr := room_for hk hn
  have he := off_end v z
  have hlt : off v z + (predsTo v z k).length < al.length := by rw [h.1]; omega
  refine ⟨by simpa using h.1, fun x i u hx hi => ?_⟩
  rw [lab_set hlt]
  by_cases e : x = z
  · subst e
    rw [predsTo_hit hn] at hi
    by_cases him : i < (predsTo v x k).length
    · rw [if_neg (by omega)]
      rw [List.getElem?_append_left him] at hi
      exact h.2 x i u hx hi
    · have hi' := (List.getElem?_eq_some_iff.1 hi).1
      simp at hi'
      have ei : i = (predsTo v x k).length := by omega
      subst ei
      rw [if_pos rfl]
      simpa using hi
  · rw [predsTo_miss (by rw [hn]; intro e'; injection e' with e'; exact e e'.symm)] at hi
    have hi' := (List.getElem?_eq_some_iff.1 hi).1
    have hi2 := predsTo_le (v := v) (x := x) (show k ≤ v.length by omega)
    rw [if_neg (fun e' => e (off_apart (show i < (preds v x).length from Nat.lt_of_lt_of_le hi' hi2) hr e'))]
    exact h.2 x i u hx hi
theorem Parts.miss {w : World} {v : List Int} {g1 g2 m k : Nat} (h : Parts w v g1 g2 m k) (hn : nxt v k = none) : Parts w v g1 g2 m (k + 1) := by
  obtain ⟨fs, h1, h2, h3⟩ := h
  refine ⟨fs, h1, h2, fun x hx => ?_⟩
  rw [predsTo_miss (by rw [hn]; simp)]
  exact h3 x hx
theorem Parts.step {w : World} {v : List Int} {g1 g2 k z o : Nat} (h : Parts w v g1 g2 v.length k) (hz : z < v.length) (hn : nxt v k = some z) (ho : o = off v z) :
    Parts (w.setCell ⟨g2, z, none⟩ (.slice (some ⟨g1, o, none⟩) ((predsTo v z k).length + 1) (preds v z).length)) v g1 g2 v.length (k + 1) := by
  obtain ⟨fs, h1, h2, h3⟩ := h
  refine ⟨_, heap_setCell_same w g2 z fs _ _ h1, by simpa using h2, fun x hx => ?_⟩
  rw [Array.getElem?_setIfInBounds]
  by_cases e : z = x
  · subst e
    rw [if_pos rfl, if_pos (by omega), predsTo_hit hn, List.length_append]
    exact ⟨o, rfl, fun _ => ho⟩
  · rw [if_neg e, predsTo_miss (by rw [hn]; intro e'; injection e' with e'; exact e e')]
    exact h3 x hx

/-- What is handed back: of each node a slice that reads as those that step to it; all in new memory. -/
def BackPost (v : List Int) (w : World) (e : Ending) (w' : World) : Prop := ∃ g : Nat, e = .returned (.slice (some ⟨g, 0, none⟩) v.length v.length) ∧ w.heap.size ≤ g ∧ Below w.heap.size w w' ∧
  ∀ x, x < v.length → ∃ b o c, w'.cell? ⟨g, x, none⟩ = some (.slice (some ⟨b, o, none⟩) (preds v x).length c) ∧ w.heap.size ≤ b ∧ ∀ (i u : Nat), (preds v x)[i]? = some u → w'.cell? ⟨b, o + i, none⟩ = some (.int .i64 (u : Int))

set_option maxRecDepth 100000 in
set_option maxHeartbeats 2000000 in
theorem back_any (A : Option Addr) (c : Nat) (v : List Int) (w : World) (hA : Lies w A (ints v)) (hl : v.length ≤ 256) (hg : goodB v = true) :
    Calls Tryz.prog 93 #[.slice A v.length c] w (BackPost v w) := by
  have HG := Lib.hid hg
  have hmk := run_make_row' (P := Tryz.prog) 29 3 (.int .i64 0) 8 Tryz.underlying29 int_info rfl .i64 .i64 v.length (by omega) (by omega)
  have hmk2 := run_make_row' (P := Tryz.prog) 56 29 (.slice none 0 0) 24 Tryz.underlying56 slice_info rfl .i64 .i64 v.length (by omega) (by omega)
  clear hg
  go_enter Tryz.func93, Tryz.ntmps93
  go_wp2_with fail
  have hrow0 := Row.made w v.length
  rw [← cntL_zero] at hrow0
  have hb0 : Below w.heap.size w (w.alloc (.cells (madeCells #[.int .i64 0] v.length) 3)) := (Below.refl _ w).alloc (Nat.le_refl _) _
  go_loopw [18] (fun i wr => ∃ k : Nat, k ≤ v.length ∧ i = .int .i64 k ∧ Row wr w.heap.size (cntL v k) ∧ Below w.heap.size w wr) (fun i _ => v.length - (intOf i).toNat)
  case atStart => exact ⟨0, by omega, rfl, hrow0, hb0⟩
  case round =>
    obtain ⟨k, hk, rfl, hR, hbr⟩ := hrel
    by_cases hlt : k < v.length
    · obtain ⟨b, off, rfl, hb, hcell0⟩ := hA.at_map hlt
      have hcell := (hbr.cell (p := ⟨b, off + k, none⟩) hb).trans hcell0
      have hgy := good_at HG.out hlt
      obtain ⟨x, hx⟩ : ∃ x, x = v[k] := ⟨_, rfl⟩
      rw [← hx] at hcell hgy
      obtain ⟨hx1, hx2⟩ := hgy
      have HX := Lib.hid hx
      clear hx hcell0
      by_cases hneg : x = -1
      · have tn : (x != -1) = false := by simp [hneg]
        have hn : cntL v (k + 1) = cntL v k := cntL_miss (nxt_of_neg hlt (by rw [← HX.out, hneg]; decide))
        have HN := Lib.hid hn
        have HNEG := Lib.hid hneg
        clear hn hneg
        go_wp2_with fail
        refine ⟨⟨k + 1, by omega, by go_num, by rw [HN.out]; exact hR, hbr⟩, by simp [intOf]; omega⟩
      · have tn : (x != -1) = true := by simp [hneg]
        have hx0 : 0 ≤ x := by omega
        obtain ⟨z, rfl⟩ := Int.eq_ofNat_of_zero_le hx0
        have hzl : z < v.length := by omega
        have hn : cntL v (k + 1) = (cntL v k).set z (lab (cntL v k) z + 1) := cntL_hit (by rw [nxt_of_nonneg hlt (by rw [← HX.out]; omega), ← HX.out]; simp) hzl
        have hcz := hR.cell (x := z) (by rw [cntL_len]; exact hzl)
        have hfz := hR.free z
        have hset := hR.set_ z (lab (cntL v k) z + 1)
        have hqb : lab (cntL v k) z ≤ 256 := by
          rw [cntL_at hzl]
          exact Nat.le_trans (List.length_filter_le _ _) (by simp; omega)
        rw [← hn] at hset
        have HN := Lib.hid hn
        have HNEG := Lib.hid hneg
        clear hn hneg
        generalize lab (cntL v k) z = q at *
        have ek : ((q + 1 : Nat) : Int) = (q : Int) + 1 := by omega
        rw [ek] at hset
        clear ek
        go_wp2_with fail
        refine ⟨⟨k + 1, by omega, by go_num, hset, hbr.setCell (Nat.le_refl _) _⟩, by simp [intOf]; omega⟩
    · have ek : k = v.length := by omega
      rw [ek] at hR
      clear hrow0 hb0 ek
      obtain ⟨wa, rfl⟩ : ∃ wa : World, wa = wr := ⟨_, rfl⟩
      go_wp2_with fail
      have hR0 : Row ((wa.alloc (.cells (madeCells #[.int .i64 0] v.length) 3)).alloc (.cells (madeCells #[.slice none 0 0] v.length) 29)) w.heap.size (cntL v v.length) := by
        have := hR.lt
        exact (hR.below ((Below.refl _ wa).alloc (Nat.le_refl _) _) this).below ((Below.refl _ _).alloc (Nat.le_refl _) _) (by simp; omega)
      have hR1 : Row ((wa.alloc (.cells (madeCells #[.int .i64 0] v.length) 3)).alloc (.cells (madeCells #[.slice none 0 0] v.length) 29)) wa.heap.size (List.replicate v.length 0) :=
        (Row.made wa v.length).below ((Below.refl _ _).alloc (Nat.le_refl _) _) (by simp)
      have hP0 : Parts ((wa.alloc (.cells (madeCells #[.int .i64 0] v.length) 3)).alloc (.cells (madeCells #[.slice none 0 0] v.length) 29)) v wa.heap.size (wa.heap.size + 1) 0 0 :=
        ⟨_, by simpa only [World.size_alloc] using heap_alloc_new (wa.alloc (.cells (madeCells #[.int .i64 0] v.length) 3)) (.cells (madeCells #[.slice none 0 0] v.length) 29), by simp [madeCells], fun x hx => absurd hx (by omega)⟩
      have hb2 : Below w.heap.size w ((wa.alloc (.cells (madeCells #[.int .i64 0] v.length) 3)).alloc (.cells (madeCells #[.slice none 0 0] v.length) 29)) := (hbr.alloc hbr.size _).alloc (by have := hbr.size; simp; omega) _
      have hg0 : w.heap.size < wa.heap.size := hR.lt
      clear hR hbr hmk hmk2
      go_loopw [8, 39] (fun a i wr => ∃ k : Nat, k ≤ v.length ∧ i = .int .i64 k ∧ a = .int .i64 ((off v k : Nat) : Int) ∧ Row wr w.heap.size (cntL v v.length) ∧ Row wr wa.heap.size (List.replicate v.length 0) ∧ Parts wr v wa.heap.size (wa.heap.size + 1) k 0 ∧ Below w.heap.size w wr) (fun _ i _ => v.length - (intOf i).toNat)
      case atStart => exact ⟨0, by omega, rfl, by rw [off_zero]; rfl, hR0, hR1, hP0, hb2⟩
      case round =>
        obtain ⟨k, hk, rfl, rfl, hR0, hR1, hP, hbr⟩ := hrel
        by_cases hlt : k < v.length
        · have hcz := hR0.cell (x := k) (by rw [cntL_len]; exact hlt)
          rw [cntL_at hlt] at hcz
          have hcz' : wr.cell? ⟨w.heap.size, k, none⟩ = some (.int .i64 (((preds v k).length : Nat) : Int)) := hcz
          have hoe := off_end v k
          have hos := off_succ v k
          obtain ⟨u0, hu0⟩ := hP.any hlt
          have hf0 := hP.free k
          obtain ⟨q, hq⟩ : ∃ q, q = (preds v k).length := ⟨_, rfl⟩
          obtain ⟨at0, hat⟩ : ∃ at0, at0 = off v k := ⟨_, rfl⟩
          rw [← hq] at hcz' hoe hos
          rw [← hat] at hoe hos ⊢
          have HQ := Lib.hid hq
          have HAT := Lib.hid hat
          have HOS := Lib.hid hos
          clear hq hat hos hcz
          have hP2 := hP.lay hlt HQ.out HAT.out
          have HP2 := Lib.hid hP2
          have hbs := fun u => hbr.setCell (p := ⟨wa.heap.size + 1, k, none⟩) (by show w.heap.size ≤ wa.heap.size + 1; omega) u
          have HBS := Lib.hid hbs
          clear hP2 hbs
          go_wp2_with fail
          refine ⟨⟨k + 1, by omega, by go_num, by rw [HOS.out]; go_num, hR0.far (by show w.heap.size ≠ wa.heap.size + 1; omega) _, hR1.far (by show wa.heap.size ≠ wa.heap.size + 1; omega) _, HP2.out, HBS.out _⟩, by simp [intOf]; omega⟩
        · have ek : k = v.length := by omega
          rw [ek] at hP
          clear hR0 hb2 ek
          obtain ⟨wb, rfl⟩ : ∃ wb : World, wb = wr := ⟨_, rfl⟩
          go_wp2_with fail
          obtain ⟨i0, hi, hz0, hz1, hz2⟩ := info_parts int_info
          go_loopw [60] (fun i wr => ∃ (k : Nat) (al : List Nat), k ≤ v.length ∧ i = .int .i64 k ∧ Row wr wa.heap.size al ∧ Filled v al k ∧ Parts wr v wa.heap.size (wa.heap.size + 1) v.length k ∧ Below w.heap.size w wr) (fun i _ => v.length - (intOf i).toNat)
          case atStart => exact ⟨0, _, by omega, rfl, hR1, Filled.start v, hP, hbr⟩
          case round =>
            obtain ⟨k, al, hk, rfl, hRr, hF, hPr, hbk⟩ := hrel
            by_cases hlt3 : k < v.length
            · obtain ⟨b, off0, rfl, hb, hcell0⟩ := hA.at_map hlt3
              have hcell := (hbk.cell (p := ⟨b, off0 + k, none⟩) hb).trans hcell0
              have hgy := good_at HG.out hlt3
              obtain ⟨x, hx⟩ : ∃ x, x = v[k] := ⟨_, rfl⟩
              rw [← hx] at hcell hgy
              obtain ⟨hx1, hx2⟩ := hgy
              have HX := Lib.hid hx
              clear hx hcell0
              by_cases hneg : x = -1
              · have tn : (x != -1) = false := by simp [hneg]
                have hn : nxt v k = none := nxt_of_neg hlt3 (by rw [← HX.out, hneg]; decide)
                have HN := Lib.hid hn
                have HNEG := Lib.hid hneg
                clear hn hneg
                go_wp2_with fail
                refine ⟨⟨k + 1, al, by omega, by go_num, hRr, hF.miss HN.out, hPr.miss HN.out, hbk⟩, by simp [intOf]; omega⟩
              · have tn : (x != -1) = true := by simp [hneg]
                have hx0 : 0 ≤ x := by omega
                obtain ⟨z, rfl⟩ := Int.eq_ofNat_of_zero_le hx0
                have hzl : z < v.length := by omega
                have hn : nxt v k = some z := by rw [nxt_of_nonneg hlt3 (by rw [← HX.out]; omega), ← HX.out]; simp
                have hroom := room_for hlt3 hn
                have hoe := off_end v z
                obtain ⟨o, hpc, hoo⟩ := hPr.cell hzl
                have ho := hoo (by omega)
                have hFs := hF.step hlt3 hn
                have hold : ∀ j u, (ints (nats (predsTo v z k)))[j]? = some u → (wr.alloc (.cells #[.int .i64 (k : Int)] 3)).cell? ⟨wa.heap.size, o + j, none⟩ = some u := fun j u hu => by
                  rw [ints, nats, List.map_map, List.getElem?_map] at hu
                  obtain ⟨y, hy, rfl⟩ := Option.map_eq_some_iff.1 hu
                  have h1 := hF.2 z j y hzl hy
                  have h2 := (List.getElem?_eq_some_iff.1 hy).1
                  have h3 : o + j < al.length := by rw [hF.1]; omega
                  rw [World.cell?_alloc_lt wr _ _ (by exact hRr.lt), hRr.cell h3, ho, h1]; rfl
                have hnew : ∀ j u, [Value.int .i64 (k : Int)][j]? = some u → (wr.alloc (.cells #[.int .i64 (k : Int)] 3)).cell? ((⟨wr.heap.size, 0, none⟩ : Addr).add j) = some u := fun j u hu => by
                  rw [add_plain, cell_of_row _ _ (0 + j) #[.int .i64 (k : Int)] 3 (0, 0) (heap_alloc_new wr _), Nat.zero_add]
                  simpa using hu
                have hRa : Row (wr.alloc (.cells #[.int .i64 (k : Int)] 3)) wa.heap.size al := hRr.below ((Below.refl _ wr).alloc (Nat.le_refl _) _) hRr.lt
                have hsp : ∀ j, j < [Value.int .i64 (k : Int)].length → ((wr.alloc (.cells #[.int .i64 (k : Int)] 3)).cell? ⟨wa.heap.size, o + (predsTo v z k).length * 1 + j, none⟩).isSome = true ∧ (wr.alloc (.cells #[.int .i64 (k : Int)] 3)).frozen? ⟨wa.heap.size, o + (predsTo v z k).length * 1 + j, none⟩ = false := fun j hj => by
                  simp at hj
                  subst hj
                  refine ⟨?_, hRa.free _⟩
                  rw [hRa.cell (by rw [hF.1, ho]; omega)]; rfl
                have hRs := hRa.set_ (o + (predsTo v z k).length) k
                rw [ho] at hRs
                have hPlt : wa.heap.size + 1 < wr.heap.size := by
                  obtain ⟨fs, h1, _⟩ := hPr
                  rcases Nat.lt_or_ge (wa.heap.size + 1) wr.heap.size with h' | h'
                  · exact h'
                  · rw [Array.getElem?_eq_none h'] at h1; cases h1
                have hPa : Parts (wr.alloc (.cells #[.int .i64 (k : Int)] 3)) v wa.heap.size (wa.heap.size + 1) v.length k := hPr.keep (Below.heap_alloc wr _ _ hPlt)
                have hPs : Parts ((wr.alloc (.cells #[.int .i64 (k : Int)] 3)).setCell ⟨wa.heap.size, off v z + (predsTo v z k).length, none⟩ (.int .i64 (k : Int))) v wa.heap.size (wa.heap.size + 1) v.length k :=
                  hPa.keep (heap_setCell_other _ ⟨wa.heap.size, off v z + (predsTo v z k).length, none⟩ (wa.heap.size + 1) _ (by show wa.heap.size + 1 ≠ wa.heap.size; omega))
                obtain ⟨u1, hu1⟩ := hPs.any hzl
                have hf1 := hPs.free z
                have hPt := hPs.step hzl hn ho
                have hRt := hRs.far (p := ⟨wa.heap.size + 1, z, none⟩) (by show wa.heap.size ≠ wa.heap.size + 1; omega) (.slice (some ⟨wa.heap.size, o, none⟩) ((predsTo v z k).length + 1) (preds v z).length)
                have hsz := hbk.size
                have hbt : Below w.heap.size w (((wr.alloc (.cells #[.int .i64 (k : Int)] 3)).setCell ⟨wa.heap.size, off v z + (predsTo v z k).length, none⟩ (.int .i64 (k : Int))).setCell ⟨wa.heap.size + 1, z, none⟩ (.slice (some ⟨wa.heap.size, o, none⟩) ((predsTo v z k).length + 1) (preds v z).length)) :=
                  ((hbk.alloc hsz _).setCell (by show w.heap.size ≤ wa.heap.size; omega) _).setCell (by show w.heap.size ≤ wa.heap.size + 1; omega) _
                have hml : (predsTo v z k).length ≤ 256 := by have := off_end v z; omega
                obtain ⟨m, hm⟩ : ∃ m, m = (predsTo v z k).length := ⟨_, rfl⟩
                obtain ⟨q, hq⟩ : ∃ q, q = (preds v z).length := ⟨_, rfl⟩
                have holen : (ints (nats (predsTo v z k))).length = m := by rw [hm]; simp [ints, nats]
                rw [← ho, ← hm] at hFs hRt hPt hbt hu1 hf1
                rw [← hm, ← hq] at hpc hroom
                rw [← hm] at hsp hml
                rw [← hq] at hPt hRt hbt
                have HRT := Lib.hid hRt
                have HPT := Lib.hid hPt
                have HFS := Lib.hid hFs
                have HBT := Lib.hid hbt
                have HM := Lib.hid hm
                have HO := Lib.hid ho
                have HOL := Lib.hid holen
                have HN := Lib.hid hn
                have HNEG := Lib.hid hneg
                have hq256 : q ≤ 256 := by omega
                clear hRs hPs hPa hRa hPt hRt hFs hbt hm hq ho hn hneg hoo holen hF hoe
                go_wp2_with (at_builtin; go_loud (refine wpList_append_arg _ rfl (.tmp 72) (.tmp 74) 29 rfl 3 i0 _ 1 8 Tryz.underlying29 hi hz0 hz1 hz2 rfl (by omega) wa.heap.size o m q (ints (nats (predsTo v z k))) rfl (by rw [HOL.out, Nat.mul_one]) hold ⟨wr.heap.size, 0, none⟩ 1 1 [.int .i64 (k : Int)] rfl rfl hnew (by intro u hu; simp at hu; subst hu; rfl) (fun _ => hsp) (by simp only [maxLen]; omega) (by omega) (fun _ => ?_) (fun h => absurd hroom (by omega))); rw [Nat.mul_one]; unfold World.setCells World.setCells)
                go_wp2_with fail
                refine ⟨⟨k + 1, al.set (o + m) k, by omega, by go_num, HRT.out, HFS.out, HPT.out, HBT.out⟩, by simp [intOf]; omega⟩
            · have ek : k = v.length := by omega
              subst ek
              have hfin : BackPost v w (.returned (.slice (some ⟨wa.heap.size + 1, 0, none⟩) v.length v.length)) wr := by
                have hsz := hbk.size
                refine ⟨wa.heap.size + 1, rfl, by omega, hbk, fun x hx => ?_⟩
                obtain ⟨o, h1, h2⟩ := hPr.cell hx
                refine ⟨wa.heap.size, o, _, h1, by omega, fun i u hu => ?_⟩
                have h3 := (List.getElem?_eq_some_iff.1 hu).1
                have h4 := hF.2 x i u hx hu
                have h5 := off_end v x
                rw [h2 (by omega), hRr.cell (by rw [hF.1]; omega), h4]
              have HFIN := Lib.hid hfin
              clear hfin hPr hRr hF hP hR1 hP0 hR0
              go_wp2_with fail
              go_ret
              exact HFIN.out
end Go.Proofs.YtpjoefekhgmlhaaGreat.Gr
