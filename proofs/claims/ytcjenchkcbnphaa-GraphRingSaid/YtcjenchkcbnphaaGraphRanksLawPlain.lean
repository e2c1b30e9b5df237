/- PLAIN LAW of the ranks, the loop and the ends as the law looks at them. -/
import Derived.Test.YtcjenchkcbnphaaGraphEndsPlain
namespace Go.Proofs.Ytcjenchkcbnphaa.Gr

theorem sinksTo_prefix (v : List Int) (k : Nat) : ∀ {m : Nat}, k ≤ m → ∃ r, sinksTo v m = sinksTo v k ++ r
  | 0, h => by
    have : k = 0 := by omega
    subst this; exact ⟨[], by simp⟩
  | m + 1, h => by
    by_cases e : k = m + 1
    · subst e; exact ⟨[], by simp⟩
    · obtain ⟨r, hr⟩ := sinksTo_prefix v k (show k ≤ m by omega)
      cases hn : nxt v m with
      | none => exact ⟨r ++ [(m : Int)], by rw [sinksTo_hit hn, hr, List.append_assoc]⟩
      | some y => exact ⟨r, by rw [sinksTo_miss (by rw [hn]; simp), hr]⟩
theorem sinks_whole (v : List Int) : sinksTo v v.length = sinks v := rfl
/-- The next end is where it is told. -/
theorem sinks_next {v : List Int} {k : Nat} (hk : k < v.length) (hn : nxt v k = none) : ∃ h : (sinksTo v k).length < (sinks v).length, (sinks v)[(sinksTo v k).length] = (k : Int) := by
  obtain ⟨r, hr⟩ := sinksTo_prefix v (k + 1) (show k + 1 ≤ v.length by omega)
  rw [sinks_whole, sinksTo_hit hn, List.append_assoc] at hr
  have hl : (sinksTo v k).length < (sinks v).length := by rw [hr]; simp
  refine ⟨hl, ?_⟩
  have h2 : (sinks v)[(sinksTo v k).length]? = some (k : Int) := by rw [hr]; simp
  rw [List.getElem?_eq_getElem hl] at h2
  injection h2

/-- A loop's node: its step is the next one; all but the first are behind the first. -/
theorem loop_facts {v cl : List Int} (hg : goodB v = true) (e : cl = loopL v) {i : Nat} (h : i < cl.length) :
    ∃ x y z : Nat, cl[i] = (x : Int) ∧ (∃ hx : x < v.length, v[x] = (y : Int)) ∧ (i + 1) % cl.length < cl.length ∧ cl[(i + 1) % cl.length]? = some (y : Int) ∧ cl[0]? = some (z : Int) ∧ (0 < i → z < x) := by
  subst e
  obtain ⟨u, p, hu, hc, hp, hpl, hl, e⟩ := loop_ring hg (by omega)
  have hlen : (loopL v).length = p := by rw [e, List.length_map, ringTo_len]
  have hat : ∀ k, k < p → (loopL v)[k]? = some ((at_ v u k : Nat) : Int) := fun k hk => by
    rw [e, List.getElem?_map]
    simp [ringTo, hk]
  have hp0 := hp.1
  have hm : (i + 1) % (loopL v).length < (loopL v).length := Nat.mod_lt _ (by omega)
  refine ⟨at_ v u i, at_ v u (i + 1), u, ?_, ⟨(hc.all hg hu i).2, ?_⟩, hm, ?_, ?_, fun hi => ?_⟩
  · have := hat i (by omega)
    rw [List.getElem?_eq_getElem h] at this
    injection this
  · have h1 := hc.val hg hu i
    rw [List.getElem?_eq_getElem (hc.all hg hu i).2] at h1
    injection h1
  · rw [hlen] at hm ⊢
    rw [hat _ hm]
    by_cases e1 : i + 1 = p
    · rw [e1, Nat.mod_self, per_eq hp]; rfl
    · rw [Nat.mod_eq_of_lt (by omega)]
  · have := hat 0 hp0
    exact this
  · have h1 := per_ne hg hu hc hp hi (by omega)
    have h2 := cyc_along hc (hc.all hg hu i).1
    rcases Nat.lt_trichotomy (at_ v u i) u with h3 | h3 | h3
    · exact absurd h2 (hl _ h3)
    · exact absurd h3 h1
    · exact h3
/-- A rank: below how many nodes there are, 0 at the ends, one more than that of the step. -/
theorem ranks_facts {v rl : List Int} (hg : goodB v = true) (ha : allRanked v = true) (e : rl = ranksL v) {i : Nat} (hi : i < v.length) :
    ∃ k : Nat, rl[i]? = some (k : Int) ∧ k < v.length ∧ (v[i] < 0 → k = 0) ∧ ∀ y : Nat, v[i] = (y : Int) → ∃ j : Nat, y < v.length ∧ rl[y]? = some (j : Int) ∧ k = j + 1 := by
  subst e
  have hat : ∀ u k, u < v.length → IsRank v k u → (ranksL v)[u]? = some (k : Int) := fun u k hu hk => by
    rw [List.getElem?_eq_getElem (by rw [ranks_len]; exact hu), ranks_at hg _ hk]
  obtain ⟨k, hk⟩ := (allRanked_iff hg).1 ha i hi
  refine ⟨k, hat i k hi hk, hk.bound hg, fun hneg => ?_, fun y hy => ?_⟩
  · have h0 : IsRank v 0 i := ⟨hi, nxt_of_neg hi hneg⟩
    exact hk.unique h0
  · have hn : nxt v i = some y := by rw [nxt_of_nonneg hi (by omega), hy]; simp
    cases k with
    | zero => have := hk.2; rw [hn] at this; cases this
    | succ j =>
      obtain ⟨z, hz, hr⟩ := hk
      rw [hn] at hz
      injection hz with hz
      subst hz
      exact ⟨j, (nxt_lt hg hn).2, hat y j (nxt_lt hg hn).2 hr, rfl⟩
end Go.Proofs.Ytcjenchkcbnphaa.Gr
