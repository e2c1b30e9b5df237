/- PLAIN LAW: nodes of a loop made ends. -/
import Derived.Test.YtcjenchkcbnphaaGraphRenamedPlain
namespace Go.Proofs.Ytcjenchkcbnphaa.Gr

theorem per_inj {v : List Int} (hg : goodB v = true) {u p : Nat} (hu : u < v.length) (hc : Cyc v u) (h : Per v u p) {i j : Nat} (hij : i < j) (hj : j < p) : at_ v u i ≠ at_ v u j := fun e => by
  have h1 := (hc.all hg hu i).1
  have h2 := (hc.all hg hu j).1
  have h3 : iter v (j + (p - j)) u = some u := by rw [show j + (p - j) = p by omega]; exact h.2.1
  rw [iter_add, h2, Option.bind_some, ← e] at h3
  have h4 : iter v (i + (p - j)) u = some u := by rw [iter_add, h1, Option.bind_some]; exact h3
  exact h.2.2 _ (by omega) (by omega) h4
/-- Facts of the loop that is told: a ring of some period. -/
theorem loop_ring {v : List Int} (hg : goodB v = true) (h : 0 < (loopL v).length) : ∃ u p, u < v.length ∧ Cyc v u ∧ Per v u p ∧ p ≤ v.length ∧ (∀ x, x < u → ¬ Cyc v x) ∧ loopL v = (ringTo v u p).map fun x : Nat => (x : Int) := by
  have ha : ¬ allRanked v = true := fun ha => by rw [loop_empty hg ha] at h; simp at h
  have hne : ¬ ∀ u, u < v.length → ¬ Cyc v u := fun hc => ha ((ranked_iff_no_cyc hg).2 hc)
  have : ∃ u, u < v.length ∧ Cyc v u := Classical.byContradiction fun hn => hne fun u hu hc => hn ⟨u, hu, hc⟩
  obtain ⟨u, ⟨hu, hc⟩, hl⟩ := least_nat this
  obtain ⟨p, hp, hpl⟩ := hc.per hg hu
  refine ⟨u, p, hu, hc, hp, hpl, fun x hx hcx => hl x hx ⟨by omega, hcx⟩, ?_⟩
  unfold loopL
  rw [loopOf_some hg hu hc (fun x hx hcx => hl x hx ⟨by omega, hcx⟩), ringOf_eq hg hu hc hp hpl]
/-- The nodes of the loop: each a node with a step, no two alike. -/
theorem loop_nodes {v : List Int} (hg : goodB v = true) {i : Nat} (h : i < (loopL v).length) :
    ∃ x : Nat, (loopL v)[i] = (x : Int) ∧ ∃ hx : x < v.length, 0 ≤ v[x] ∧ ∀ j (hj : j < i), (loopL v)[j]'(by omega) ≠ (x : Int) := by
  obtain ⟨u, p, hu, hc, hp, hpl, hl, e⟩ := loop_ring hg (by omega)
  have hlen : (loopL v).length = p := by rw [e, List.length_map, ringTo_len]
  have hat : ∀ k (hk : k < (loopL v).length), (loopL v)[k] = ((at_ v u k : Nat) : Int) := fun k hk => by
    simp only [e, List.getElem_map, ringTo, List.getElem_range]
  refine ⟨at_ v u i, hat i h, (hc.all hg hu i).2, ?_, fun j hj => ?_⟩
  · have h1 := hc.val hg hu i
    rw [List.getElem?_eq_getElem (hc.all hg hu i).2] at h1
    injection h1 with h1
    omega
  · rw [hat j (by omega)]
    have := per_inj hg hu hc hp hj (by omega)
    omega

/-- How many nodes have a step. -/
def cnt (v : List Int) : Nat := v.countP fun x => decide (0 ≤ x)
theorem cnt_le (v : List Int) : cnt v ≤ v.length := List.countP_le_length
theorem cnt_set : ∀ {v : List Int} {k : Nat} (h : k < v.length), 0 ≤ v[k] → cnt (v.set k (-1)) + 1 = cnt v
  | x :: v, 0, h, hx => by
    simp only [List.getElem_cons_zero] at hx
    simp [cnt, hx]
  | x :: v, k + 1, h, hx => by
    simp only [List.getElem_cons_succ] at hx
    have := cnt_set (v := v) (k := k) (by simpa using h) hx
    simp only [cnt, List.set_cons_succ, List.countP_cons] at this ⊢
    omega
theorem set_good {v : List Int} (hg : goodB v = true) (k : Nat) : goodB (v.set k (-1)) = true := by
  rw [good_iff] at hg ⊢
  intro x hx
  rw [List.length_set]
  rcases List.mem_or_eq_of_mem_set hx with h | rfl
  · exact hg x h
  · omega
theorem ends_all {v : List Int} (h : ∀ i (hi : i < v.length), v[i] = -1) : goodB v = true ∧ allRanked v = true ∧ (∀ i (hi : i < (ranksL v).length), (ranksL v)[i] = 0) ∧ (sinks v).length = v.length := by
  have hg : goodB v = true := by
    rw [good_iff]
    intro x hx
    obtain ⟨i, hi, rfl⟩ := List.mem_iff_getElem.1 hx
    rw [h i hi]; omega
  have hn : ∀ u, u < v.length → nxt v u = none := fun u hu => nxt_of_neg hu (by rw [h u hu]; decide)
  have hr : ∀ u, u < v.length → IsRank v 0 u := fun u hu => ⟨hu, hn u hu⟩
  refine ⟨hg, (allRanked_iff hg).2 fun u hu => ⟨0, hr u hu⟩, fun i hi => ?_, ?_⟩
  · exact ranks_at hg hi (hr i (by rw [ranks_len] at hi; exact hi))
  · unfold sinks
    rw [List.length_map, List.filter_eq_self.2 (fun u hu => by rw [hn u (List.mem_range.1 hu)]; rfl), List.length_range]
theorem ends_fill {k : Nat} (xs : List Int) (hp : ∀ i (hi : i < xs.length), i < k → xs[i] = -1) :
    ∀ i (hi : i < (xs.set k (-1)).length), i < k + 1 → (xs.set k (-1))[i] = -1 := fun i hi hik => by
  rw [List.getElem_set]
  by_cases e : k = i
  · subst e; rw [if_pos rfl]
  · rw [if_neg e]; exact hp i (by rw [List.length_set] at hi; exact hi) (by omega)
end Go.Proofs.Ytcjenchkcbnphaa.Gr
