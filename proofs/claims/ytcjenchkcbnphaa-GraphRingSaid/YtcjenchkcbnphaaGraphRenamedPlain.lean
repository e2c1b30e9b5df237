/- PLAIN LAW: nodes counted from the other end. -/
import Derived.Test.YtcjenchkcbnphaaGraphWRow
namespace Go.Proofs.Ytcjenchkcbnphaa.Gr

theorem loop_empty {v : List Int} (hg : goodB v = true) (h : allRanked v = true) : loopL v = [] := by
  unfold loopL; rw [loopOf_none hg ((ranked_iff_no_cyc hg).1 h)]; rfl
theorem loop_full {v : List Int} (hg : goodB v = true) (h : allRanked v = false) : 0 < (loopL v).length := by
  have hne : ¬ ∀ u, u < v.length → ¬ Cyc v u := fun hc => by rw [(ranked_iff_no_cyc hg).2 hc] at h; cases h
  have : ∃ u, u < v.length ∧ Cyc v u := Classical.byContradiction fun hn => hne fun u hu hc => hn ⟨u, hu, hc⟩
  obtain ⟨u, ⟨hu, hc⟩, hl⟩ := least_nat this
  unfold loopL
  rw [loopOf_some hg hu hc (fun x hx hcx => hl x hx ⟨by omega, hcx⟩)]
  simp [ringOf]
theorem ranks_len (v : List Int) : (ranksL v).length = v.length := by simp [ranksL]
theorem ranks_at {v : List Int} (hg : goodB v = true) {u k : Nat} (hu : u < (ranksL v).length) (h : IsRank v k u) : (ranksL v)[u] = (k : Int) := by
  simp [ranksL, rankOf_eq hg h]

def revAt (n : Nat) (x : Int) : Int := if x < 0 then -1 else (n : Int) - 1 - x
def revV (v : List Int) : List Int := v.reverse.map (revAt v.length)
theorem rev_len (v : List Int) : (revV v).length = v.length := by simp [revV]
theorem rev_at {v : List Int} {u : Nat} (hu : u < v.length) (hu' : v.length - 1 - u < (revV v).length) : (revV v)[v.length - 1 - u] = revAt v.length v[u] := by
  simp only [revV, List.getElem_map, List.getElem_reverse]
  congr 2; omega
theorem rev_good {v : List Int} (hg : goodB v = true) : goodB (revV v) = true := by
  rw [good_iff] at hg ⊢
  intro x hx
  rw [rev_len]
  unfold revV at hx
  obtain ⟨y, hy, rfl⟩ := List.mem_map.1 hx
  have := hg y (List.mem_reverse.1 hy)
  unfold revAt
  split <;> omega
theorem rev_none {v : List Int} {u : Nat} (hu : u < v.length) (h : nxt v u = none) : nxt (revV v) (v.length - 1 - u) = none := by
  have hu' : v.length - 1 - u < (revV v).length := by rw [rev_len]; omega
  rw [nxt_at hu] at h
  split at h
  · rename_i hn
    exact nxt_of_neg hu' (by rw [rev_at hu, revAt, if_pos hn]; decide)
  · cases h
theorem rev_some {v : List Int} (hg : goodB v = true) {u y : Nat} (h : nxt v u = some y) : nxt (revV v) (v.length - 1 - u) = some (v.length - 1 - y) := by
  obtain ⟨hu, hy⟩ := nxt_lt hg h
  have hu' : v.length - 1 - u < (revV v).length := by rw [rev_len]; omega
  have hb := good_at hg hu
  rw [nxt_at hu] at h
  split at h
  · cases h
  · rename_i hn
    injection h with h
    rw [nxt_of_nonneg hu' (by rw [rev_at hu, revAt, if_neg hn]; omega), rev_at hu, revAt, if_neg hn]
    congr 1; omega
theorem rev_rank {v : List Int} (hg : goodB v = true) : ∀ {k u : Nat}, IsRank v k u → IsRank (revV v) k (v.length - 1 - u)
  | 0, u, h => ⟨by rw [rev_len]; have := h.1; omega, rev_none h.1 h.2⟩
  | k + 1, u, ⟨y, hy, h⟩ => ⟨_, rev_some hg hy, rev_rank hg h⟩
theorem rev_back {v : List Int} (hg : goodB v = true) : ∀ {k u : Nat}, u < v.length → IsRank (revV v) k (v.length - 1 - u) → IsRank v k u
  | 0, u, hu, h => ⟨hu, by
    cases hn : nxt v u with
    | none => rfl
    | some y => have := h.2; rw [rev_some hg hn] at this; cases this⟩
  | k + 1, u, hu, ⟨z, hz, h⟩ => by
    cases hn : nxt v u with
    | none => rw [rev_none hu hn] at hz; cases hz
    | some y =>
      rw [rev_some hg hn] at hz
      injection hz with hz
      subst hz
      exact ⟨y, hn, rev_back hg (nxt_lt hg hn).2 h⟩
theorem rev_all {v : List Int} (hg : goodB v = true) : allRanked (revV v) = allRanked v := by
  rw [Bool.eq_iff_iff, allRanked_iff hg, allRanked_iff (rev_good hg)]
  constructor
  · intro h u hu
    obtain ⟨k, hk⟩ := h (v.length - 1 - u) (by rw [rev_len]; omega)
    exact ⟨k, rev_back hg hu hk⟩
  · intro h u hu
    rw [rev_len] at hu
    obtain ⟨k, hk⟩ := h (v.length - 1 - u) (by omega)
    have := rev_rank hg hk
    rw [show v.length - 1 - (v.length - 1 - u) = u by omega] at this
    exact ⟨k, this⟩
theorem rev_ranks {v : List Int} (hg : goodB v = true) (ha : allRanked v = true) {u : Nat} (hu : u < (ranksL v).length) (hu' : v.length - 1 - u < (ranksL (revV v)).length) : (ranksL (revV v))[v.length - 1 - u] = (ranksL v)[u] := by
  have hu0 : u < v.length := by rw [ranks_len] at hu; exact hu
  obtain ⟨k, hk⟩ := (allRanked_iff hg).1 ha u hu0
  rw [ranks_at hg hu hk, ranks_at (rev_good hg) hu' (rev_rank hg hk)]
theorem rev_fill {v : List Int} {k : Nat} (hk : k < v.length) (xs : List Int) (hx : xs.length = v.length)
    (hp : ∀ i (hi : i < v.length), i < k → xs[v.length - 1 - i]? = some (revAt v.length v[i])) :
    ∀ i (hi : i < v.length), i < k + 1 → (xs.set (v.length - 1 - k) (revAt v.length v[k]))[v.length - 1 - i]? = some (revAt v.length v[i]) := fun i hi hik => by
  rw [List.getElem?_set]
  by_cases e : i = k
  · subst e; rw [if_pos rfl, if_pos (by omega)]
  · rw [if_neg (by omega)]; exact hp i hi (by omega)
theorem rev_full {v xs : List Int} (hx : xs.length = v.length) (hp : ∀ i (hi : i < v.length), xs[v.length - 1 - i]? = some (revAt v.length v[i])) : xs = revV v := by
  apply List.ext_getElem
  · rw [rev_len, hx]
  · intro j h1 h2
    have h := hp (v.length - 1 - j) (by omega)
    have h' := rev_at (v := v) (u := v.length - 1 - j) (by omega) (by rw [rev_len]; omega)
    simp only [show v.length - 1 - (v.length - 1 - j) = j by omega] at h h'
    rw [List.getElem?_eq_getElem h1] at h
    injection h with h
    rw [h, h']
end Go.Proofs.Ytcjenchkcbnphaa.Gr
