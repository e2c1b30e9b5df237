/- PLAIN LAWS of loops and ranks, as the graph's laws have them. No conditions.
PLAIN LAW: what atoms of a network hold to; the certificate made of them may be. Conditions: a network that may be, of one node at least. -/
import Derived.Test.YtpjoefekhgmlhaaGreatMa02
import Derived.Test.YtpjoefekhgmlhaaGreatMa04
import Derived.Test.YtpjoefekhgmlhaaGreatMa30
import Derived.Test.YtpjoefekhgmlhaaGreatMa18
import Derived.Test.YtpjoefekhgmlhaaGreatMa27
namespace Go.Proofs.YtpjoefekhgmlhaaGreat.Gr


theorem loop_empty {v : List Int} (hg : goodB v = true) (h : allRanked v = true) : loopL v = [] := by
  unfold loopL; rw [loopOf_none hg ((ranked_iff_no_cyc hg).1 h)]; rfl
theorem loop_full {v : List Int} (hg : goodB v = true) (h : allRanked v = false) : 0 < (loopL v).length := by
  have hne : ¬ ∀ u, u < v.length → ¬ Cyc v u := fun hc => by rw [(ranked_iff_no_cyc hg).2 hc] at h; cases h
  have : ∃ u, u < v.length ∧ Cyc v u := Classical.byContradiction fun hn => hne fun u hu hc => hn ⟨u, hu, hc⟩
  obtain ⟨u, ⟨hu, hc⟩, hl⟩ := least_nat this
  unfold loopL
  rw [loopOf_some hg hu hc (fun x hx hcx => hl x hx ⟨by omega, hcx⟩)]
  simp [ringOf]
theorem ranks_len (v : List Int) : (ranksL v).length = v.length := by simp [ranksL]
theorem ranks_at {v : List Int} (hg : goodB v = true) {u k : Nat} (hu : u < (ranksL v).length) (h : IsRank v k u) : (ranksL v)[u] = (k : Int) := by
  simp [ranksL, rankOf_eq hg h]

def revAt (n : Nat) (x : Int) : Int := if x < 0 then -1 else (n : Int) - 1 - x
def revV (v : List Int) : List Int := v.reverse.map (revAt v.length)
theorem rev_len (v : List Int) : (revV v).length = v.length := by simp [revV]
theorem rev_at {v : List Int} {u : Nat} (hu : u < v.length) (hu' : v.length - 1 - u < (revV v).length) : (revV v)[v.length - 1 - u] = revAt v.length v[u] := by
  simp only [revV, List.getElem_map, List.getElem_reverse]
  congr 2; omega
theorem rev_good {v : List Int} (hg : goodB v = true) : goodB (revV v) = true := by
  rw [good_iff] at hg ⊢
  intro x hx
  rw [rev_len]
  unfold revV at hx
  obtain ⟨y, hy, rfl⟩ := List.mem_map.1 hx
  have := hg y (List.mem_reverse.1 hy)
  unfold revAt
  split <;> omega
theorem rev_none {v : List Int} {u : Nat} (hu : u < v.length) (h : nxt v u = none) : nxt (revV v) (v.length - 1 - u) = none := by
  have hu' : v.length - 1 - u < (revV v).length := by rw [rev_len]; omega
  rw [nxt_at hu] at h
  split at h
  · rename_i hn
    exact nxt_of_neg hu' (by rw [rev_at hu, revAt, if_pos hn]; decide)
  · cases h
theorem rev_some {v : List Int} (hg : goodB v = true) {u y : Nat} (h : nxt v u = some y) : nxt (revV v) (v.length - 1 - u) = some (v.length - 1 - y) := by
  obtain ⟨hu, hy⟩ := nxt_lt hg h
  have hu' : v.length - 1 - u < (revV v).length := by rw [rev_len]; omega
  have hb := good_at hg hu
  rw [nxt_at hu] at h
  split at h
  · cases h
  · rename_i hn
    injection h with h
    rw [nxt_of_nonneg hu' (by rw [rev_at hu, revAt, if_neg hn]; omega), rev_at hu, revAt, if_neg hn]
    congr 1; omega
theorem rev_rank {v : List Int} (hg : goodB v = true) : ∀ {k u : Nat}, IsRank v k u → IsRank (revV v) k (v.length - 1 - u)
  | 0, u, h => ⟨by rw [rev_len]; have := h.1; omega, rev_none h.1 h.2⟩
  | k + 1, u, ⟨y, hy, h⟩ => ⟨_, rev_some hg hy, rev_rank hg h⟩
theorem rev_back {v : List Int} (hg : goodB v = true) : ∀ {k u : Nat}, u < v.length → IsRank (revV v) k (v.length - 1 - u) → IsRank v k u
  | 0, u, hu, h => ⟨hu, by
    cases hn : nxt v u with
    | none => rfl
    | some y => have := h.2; rw [rev_some hg hn] at this; cases this⟩
  | k + 1, u, hu, ⟨z, hz, h⟩ => by
    cases hn : nxt v u with
    | none => rw [rev_none hu hn] at hz; cases hz
    | some y =>
      rw [rev_some hg hn] at hz
      injection hz with hz
      subst hz
      exact ⟨y, hn, rev_back hg (nxt_lt hg hn).2 h⟩
theorem rev_all {v : List Int} (hg : goodB v = true) : allRanked (revV v) = allRanked v := by
  rw [Bool.eq_iff_iff, allRanked_iff hg, allRanked_iff (rev_good hg)]
  constructor
  · intro h u hu
    obtain ⟨k, hk⟩ := h (v.length - 1 - u) (by rw [rev_len]; omega)
    exact ⟨k, rev_back hg hu hk⟩
  · intro h u hu
    rw [rev_len] at hu
    obtain ⟨k, hk⟩ := h (v.length - 1 - u) (by omega)
    have := rev_rank hg hk
    rw [show v.length - 1 - (v.length - 1 - u) = u by omega] at this
    exact ⟨k, this⟩
theorem rev_ranks {v : List Int} (hg : goodB v = true) (ha : allRanked v = true) {u : Nat} (hu : u < (ranksL v).length) (hu' : v.length - 1 - u < (ranksL (revV v)).length) : (ranksL (revV v))[v.length - 1 - u] = (ranksL v)[u] := by
  have hu0 : u < v.length := by rw [ranks_len] at hu; exact hu
  obtain ⟨k, hk⟩ := (allRanked_iff hg).1 ha u hu0
  rw [ranks_at hg hu hk, ranks_at (rev_good hg) hu' (rev_rank hg hk)]
theorem rev_fill {v : List Int} {k : Nat} (hk : k < v.length) (xs : List Int) (hx : xs.length = v.length)
    (hp : ∀ i (hi : i < v.length), i < k → xs[v.length - 1 - i]? = some (revAt v.length v[i])) :
    ∀ i (hi : i < v.length), i < k + 1 → (xs.set (v.length - 1 - k) (revAt v.length v[k]))[v.length - 1 - i]? = some (revAt v.length v[i]) := fun i hi hik => by
  rw [List.getElem?_set]
  by_cases e : i = k
  · subst e; rw [if_pos rfl, if_pos (by omega)]
  · rw [if_neg (by omega)]; exact hp i hi (by omega)
theorem rev_full {v xs : List Int} (hx : xs.length = v.length) (hp : ∀ i (hi : i < v.length), xs[v.length - 1 - i]? = some (revAt v.length v[i])) : xs = revV v := by
  apply List.ext_getElem
  · rw [rev_len, hx]
  · intro j h1 h2
    have h := hp (v.length - 1 - j) (by omega)
    have h' := rev_at (v := v) (u := v.length - 1 - j) (by omega) (by rw [rev_len]; omega)
    simp only [show v.length - 1 - (v.length - 1 - j) = j by omega] at h h'
    rw [List.getElem?_eq_getElem h1] at h
    injection h with h
    rw [h, h']


theorem per_inj {v : List Int} (hg : goodB v = true) {u p : Nat} (hu : u < v.length) (hc : Cyc v u) (h : Per v u p) {i j : Nat} (hij : i < j) (hj : j < p) : at_ v u i ≠ at_ v u j := fun e => by
  have h1 := (hc.all hg hu i).1
  have h2 := (hc.all hg hu j).1
  have h3 : iter v (j + (p - j)) u = some u := by rw [show j + (p - j) = p by omega]; exact h.2.1
  rw [iter_add, h2, Option.bind_some, ← e] at h3
  have h4 : iter v (i + (p - j)) u = some u := by rw [iter_add, h1, Option.bind_some]; exact h3
  exact h.2.2 _ (by omega) (by omega) h4
/-- Facts of the loop that is told: a ring of some period. -/
theorem loop_ring {v : List Int} (hg : goodB v = true) (h : 0 < (loopL v).length) : ∃ u p, u < v.length ∧ Cyc v u ∧ Per v u p ∧ p ≤ v.length ∧ (∀ x, x < u → ¬ Cyc v x) ∧ loopL v = (ringTo v u p).map fun x : Nat => (x : Int) := by
  have ha : ¬ allRanked v = true := fun ha => by rw [loop_empty hg ha] at h; simp at h
  have hne : ¬ ∀ u, u < v.length → ¬ Cyc v u := fun hc => ha ((ranked_iff_no_cyc hg).2 hc)
  have : ∃ u, u < v.length ∧ Cyc v u := Classical.byContradiction fun hn => hne fun u hu hc => hn ⟨u, hu, hc⟩
  obtain ⟨u, ⟨hu, hc⟩, hl⟩ := least_nat this
  obtain ⟨p, hp, hpl⟩ := hc.per hg hu
  refine ⟨u, p, hu, hc, hp, hpl, fun x hx hcx => hl x hx ⟨by omega, hcx⟩, ?_⟩
  unfold loopL
  rw [loopOf_some hg hu hc (fun x hx hcx => hl x hx ⟨by omega, hcx⟩), ringOf_eq hg hu hc hp hpl]
/-- The nodes of the loop: each a node with a step, no two alike. -/
theorem loop_nodes {v : List Int} (hg : goodB v = true) {i : Nat} (h : i < (loopL v).length) :
    ∃ x : Nat, (loopL v)[i] = (x : Int) ∧ ∃ hx : x < v.length, 0 ≤ v[x] ∧ ∀ j (hj : j < i), (loopL v)[j]'(by omega) ≠ (x : Int) := by
  obtain ⟨u, p, hu, hc, hp, hpl, hl, e⟩ := loop_ring hg (by omega)
  have hlen : (loopL v).length = p := by rw [e, List.length_map, ringTo_len]
  have hat : ∀ k (hk : k < (loopL v).length), (loopL v)[k] = ((at_ v u k : Nat) : Int) := fun k hk => by
    simp only [e, List.getElem_map, ringTo, List.getElem_range]
  refine ⟨at_ v u i, hat i h, (hc.all hg hu i).2, ?_, fun j hj => ?_⟩
  · have h1 := hc.val hg hu i
    rw [List.getElem?_eq_getElem (hc.all hg hu i).2] at h1
    injection h1 with h1
    omega
  · rw [hat j (by omega)]
    have := per_inj hg hu hc hp hj (by omega)
    omega

/-- How many nodes have a step. -/
def cnt (v : List Int) : Nat := v.countP fun x => decide (0 ≤ x)
theorem cnt_le (v : List Int) : cnt v ≤ v.length := List.countP_le_length
theorem cnt_set : ∀ {v : List Int} {k : Nat} (h : k < v.length), 0 ≤ v[k] → cnt (v.set k (-1)) + 1 = cnt v
  | x :: v, 0, h, hx => by
    simp only [List.getElem_cons_zero] at hx
    simp [cnt, hx]
  | x :: v, k + 1, h, hx => by
    simp only [List.getElem_cons_succ] at hx
    have := cnt_set (v := v) (k := k) (by simpa using h) hx
    simp only [cnt, List.set_cons_succ, List.countP_cons] at this ⊢
    omega
theorem set_good {v : List Int} (hg : goodB v = true) (k : Nat) : goodB (v.set k (-1)) = true := by
  rw [good_iff] at hg ⊢
  intro x hx
  rw [List.length_set]
  rcases List.mem_or_eq_of_mem_set hx with h | rfl
  · exact hg x h
  · omega
theorem ends_all {v : List Int} (h : ∀ i (hi : i < v.length), v[i] = -1) : goodB v = true ∧ allRanked v = true ∧ (∀ i (hi : i < (ranksL v).length), (ranksL v)[i] = 0) ∧ (sinks v).length = v.length := by
  have hg : goodB v = true := by
    rw [good_iff]
    intro x hx
    obtain ⟨i, hi, rfl⟩ := List.mem_iff_getElem.1 hx
    rw [h i hi]; omega
  have hn : ∀ u, u < v.length → nxt v u = none := fun u hu => nxt_of_neg hu (by rw [h u hu]; decide)
  have hr : ∀ u, u < v.length → IsRank v 0 u := fun u hu => ⟨hu, hn u hu⟩
  refine ⟨hg, (allRanked_iff hg).2 fun u hu => ⟨0, hr u hu⟩, fun i hi => ?_, ?_⟩
  · exact ranks_at hg hi (hr i (by rw [ranks_len] at hi; exact hi))
  · unfold sinks
    rw [List.length_map, List.filter_eq_self.2 (fun u hu => by rw [hn u (List.mem_range.1 hu)]; rfl), List.length_range]
theorem ends_fill {k : Nat} (xs : List Int) (hp : ∀ i (hi : i < xs.length), i < k → xs[i] = -1) :
    ∀ i (hi : i < (xs.set k (-1)).length), i < k + 1 → (xs.set k (-1))[i] = -1 := fun i hi hik => by
  rw [List.getElem_set]
  by_cases e : k = i
  · subst e; rw [if_pos rfl]
  · rw [if_neg e]; exact hp i (by rw [List.length_set] at hi; exact hi) (by omega)
/-- A loop's node: its step is the next one; all but the first are behind the first. -/
theorem loop_facts {v cl : List Int} (hg : goodB v = true) (e : cl = loopL v) {i : Nat} (h : i < cl.length) :
    ∃ x y z : Nat, cl[i] = (x : Int) ∧ (∃ hx : x < v.length, v[x] = (y : Int)) ∧ (i + 1) % cl.length < cl.length ∧ cl[(i + 1) % cl.length]? = some (y : Int) ∧ cl[0]? = some (z : Int) ∧ (0 < i → z < x) := by
  subst e
  obtain ⟨u, p, hu, hc, hp, hpl, hl, e⟩ := loop_ring hg (by omega)
  have hlen : (loopL v).length = p := by rw [e, List.length_map, ringTo_len]
  have hat : ∀ k, k < p → (loopL v)[k]? = some ((at_ v u k : Nat) : Int) := fun k hk => by
    rw [e, List.getElem?_map]
    simp [ringTo, hk]
  have hp0 := hp.1
  have hm : (i + 1) % (loopL v).length < (loopL v).length := Nat.mod_lt _ (by omega)
  refine ⟨at_ v u i, at_ v u (i + 1), u, ?_, ⟨(hc.all hg hu i).2, ?_⟩, hm, ?_, ?_, fun hi => ?_⟩
  · have := hat i (by omega)
    rw [List.getElem?_eq_getElem h] at this
    injection this
  · have h1 := hc.val hg hu i
    rw [List.getElem?_eq_getElem (hc.all hg hu i).2] at h1
    injection h1
  · rw [hlen] at hm ⊢
    rw [hat _ hm]
    by_cases e1 : i + 1 = p
    · rw [e1, Nat.mod_self, per_eq hp]; rfl
    · rw [Nat.mod_eq_of_lt (by omega)]
  · have := hat 0 hp0
    exact this
  · have h1 := per_ne hg hu hc hp hi (by omega)
    have h2 := cyc_along hc (hc.all hg hu i).1
    rcases Nat.lt_trichotomy (at_ v u i) u with h3 | h3 | h3
    · exact absurd h2 (hl _ h3)
    · exact absurd h3 h1
    · exact h3
/-- A rank: below how many nodes there are, 0 at the ends, one more than that of the step. -/
theorem ranks_facts {v rl : List Int} (hg : goodB v = true) (ha : allRanked v = true) (e : rl = ranksL v) {i : Nat} (hi : i < v.length) :
    ∃ k : Nat, rl[i]? = some (k : Int) ∧ k < v.length ∧ (v[i] < 0 → k = 0) ∧ ∀ y : Nat, v[i] = (y : Int) → ∃ j : Nat, y < v.length ∧ rl[y]? = some (j : Int) ∧ k = j + 1 := by
  subst e
  have hat : ∀ u k, u < v.length → IsRank v k u → (ranksL v)[u]? = some (k : Int) := fun u k hu hk => by
    rw [List.getElem?_eq_getElem (by rw [ranks_len]; exact hu), ranks_at hg _ hk]
  obtain ⟨k, hk⟩ := (allRanked_iff hg).1 ha i hi
  refine ⟨k, hat i k hi hk, hk.bound hg, fun hneg => ?_, fun y hy => ?_⟩
  · have h0 : IsRank v 0 i := ⟨hi, nxt_of_neg hi hneg⟩
    exact hk.unique h0
  · have hn : nxt v i = some y := by rw [nxt_of_nonneg hi (by omega), hy]; simp
    cases k with
    | zero => have := hk.2; rw [hn] at this; cases this
    | succ j =>
      obtain ⟨z, hz, hr⟩ := hk
      rw [hn] at hz
      injection hz with hz
      subst hz
      exact ⟨j, (nxt_lt hg hn).2, hat y j (nxt_lt hg hn).2 hr, rfl⟩
end Go.Proofs.YtpjoefekhgmlhaaGreat.Gr

namespace Go.Proofs.YtpjoefekhgmlhaaGreat.Tp
open Go.RowKit Mem

def hasLoop (v : List Int) : Bool := decide (0 < (Gr.loopOf v).length)
/-- The ranks as numbers. -/
def ranksN (v : List Int) : List Nat := (List.range v.length).map (Gr.rankOf v)
theorem ranksN_ints (v : List Int) : Gr.ints (Gr.ranksL v) = nums (ranksN v) := by
  unfold Gr.ranksL ranksN
  simp [Gr.ints, nums]
def partOf (s : AtS) (j : Nat) : PartT := ⟨s.F.getD j 0, cutHi s.F j, ranksN (s.V.getD (s.H.getD j 0) [])⟩
def partsOf (s : AtS) : List PartT := (List.range s.F.length).map (partOf s)
/-- The certificate that analyze.Net makes of atoms. -/
def anCert (s : AtS) : CertT := match s.V.findIdx? hasLoop with
  | some i => ⟨2, [], s.F.getD (s.H.idxOf i) 0, Gr.loopOf (s.V.getD i [])⟩
  | none => ⟨1, partsOf s, 0, []⟩
/-- What atoms of a network hold to. -/
structure SOk (s : AtS) : Prop where
  len : s.F.length = s.H.length
  lt : ∀ j ∈ s.H, j < s.V.length
  all : ∀ i, i < s.V.length → i ∈ s.H
  num : ∀ a ∈ s.F, a < 4294967296
  pos : ∀ j (hj : j < s.F.length), 0 < j → 0 < s.F[j]
  few : s.F.length ≤ 100000
  vec : ∀ v ∈ s.V, Gr.errno v = 0
  some_ : ∀ v ∈ s.V, 0 < v.length
  fewV : s.V.length ≤ s.H.length
theorem ranked_of {v : List Int} (he : Gr.errno v = 0) (h : hasLoop v = false) : Gr.allRanked v = true := by
  obtain ⟨hl, hg⟩ := Gr.errno_zero he
  rw [Gr.ranked_iff_no_cyc hg]
  intro u hu hc
  have hn : Gr.loopOf v = [] := by
    unfold hasLoop at h
    rw [decide_eq_false_iff_not] at h
    exact List.length_eq_zero_iff.1 (by omega)
  unfold Gr.loopOf at hn
  cases e : (List.range v.length).find? (Gr.cycB v) with
  | some x => rw [e] at hn; simp [Gr.ringOf] at hn
  | none =>
    have := List.find?_eq_none.1 e u (by simpa using hu)
    exact this ((Gr.cyc_iff hg hu).2 hc)

def AnPost (w : World) (c : CertT) (e : Ending) (w' : World) : Prop := ∃ A B cA cB, e = .returned (.tuple #[.agg #[.int .i64 (c.verdict : Int), .slice A c.parts.length cA, .int .u32 (c.dest : Int), .slice B c.trace.length cB], .int .i64 0]) ∧
  PartsAt w' A c.parts ∧ Lies w' B (nums c.trace) ∧ (∀ a, B = some a → w.heap.size ≤ a.block) ∧ Below w.heap.size w w'
/-- What analyze.Net answers of a network. -/
def AnetOf (net : List (List RuleT)) (c : CertT) : Prop := ∀ (N : Option Addr) (cN : Nat) (w : World), NetAt w N net → Calls Tryz.prog 8 #[.agg #[.slice N net.length cN]] w (AnPost w c)
theorem vecL_good {net : List (List RuleT)} (h : NetOk net) (a : Nat) : Gr.errno (vecL net a) = 0 := by
  have hl := vecL_len net a
  have hn := h.nodes
  unfold Gr.errno
  rw [if_neg (by omega), if_pos]
  rw [Gr.good_iff]
  intro x hx
  obtain ⟨l, hml, rfl⟩ := List.mem_map.1 hx
  rw [hl]
  unfold goesI nextL
  cases e : findL l a with
  | none => simp only; omega
  | some r =>
    have hr := ((h.table l hml).rule r (find_mem e)).act
    by_cases h1 : r.act = 1
    · simp only [h1, if_true]; omega
    · simp only [h1, if_false]; omega
/-- What the rounds of atoms.Of hold to. -/
structure SInv (net : List (List RuleT)) (l : List Nat) (s : AtS) : Prop where
  len : s.F.length = s.H.length
  lt : ∀ j ∈ s.H, j < s.V.length
  all : ∀ i, i < s.V.length → i ∈ s.H
  sub : s.F.Sublist l
  vec : ∀ v ∈ s.V, ∃ a, v = vecL net a
  few : s.V.length ≤ s.H.length
theorem SInv.step {net : List (List RuleT)} {l : List Nat} {s : AtS} (h : SInv net l s) (a : Nat) : SInv net (l ++ [a]) (atStep net s a) := by
  have hs2 : (s.F ++ [a]).Sublist (l ++ [a]) := h.sub.append (List.Sublist.refl _)
  unfold atStep
  split
  · rename_i hm
    split
    · exact ⟨h.len, h.lt, h.all, h.sub.trans (List.sublist_append_left _ _), h.vec, h.few⟩
    · refine ⟨by simp [h.len], fun j hj => ?_, fun i hi => by simp [h.all i hi], hs2, h.vec, by have := h.few; simp; omega⟩
      rcases List.mem_append.1 hj with h1 | h1
      · exact h.lt j h1
      · simp at h1; rw [h1]; exact List.idxOf_lt_length_of_mem hm
  · refine ⟨by simp [h.len], fun j hj => ?_, fun i hi => ?_, hs2, fun v hv => ?_, by have := h.few; simp; omega⟩
    · rw [List.length_append, List.length_singleton]
      rcases List.mem_append.1 hj with h1 | h1
      · have := h.lt j h1; omega
      · simp at h1; omega
    · simp only [List.length_append, List.length_singleton] at hi
      by_cases e : i < s.V.length
      · simp [h.all i e]
      · simp; right; omega
    · rcases List.mem_append.1 hv with h1 | h1
      · exact h.vec v h1
      · simp at h1; exact ⟨a, h1⟩
theorem sinv (net : List (List RuleT)) (l : List Nat) : SInv net l (atomsTo net l) := by
  have : ∀ k, k ≤ l.length → SInv net (l.take k) (atomsTo net (l.take k)) := fun k => by
    induction k with
    | zero => intro _; exact ⟨rfl, by simp [atomsTo], by simp [atomsTo], by simp [atomsTo], by simp [atomsTo], by simp [atomsTo]⟩
    | succ k ih =>
      intro hk
      rw [atomsTo_next (by omega), List.take_succ_eq_append_getElem (by omega)]
      exact (ih (by omega)).step _
  have h := this l.length (Nat.le_refl _)
  rwa [List.take_of_length_le (Nat.le_refl _)] at h
theorem sok {net : List (List RuleT)} {l : List Nat} (h : NetOk net) (hpos : 0 < net.length) (hl : l.Pairwise (· < ·)) (hb : ∀ a ∈ l, a < 4294967296) (hf : l.length ≤ 100000) : SOk (atomsTo net l) := by
  have hi := sinv net l
  have hp := hl.sublist hi.sub
  refine ⟨hi.len, hi.lt, hi.all, fun a ha => hb a (hi.sub.subset ha), fun j hj h0 => ?_, Nat.le_trans hi.sub.length_le hf, fun v hv => ?_, fun v hv => ?_, hi.few⟩
  · have := (List.pairwise_iff_getElem.1 hp) 0 j (by omega) hj h0
    omega
  · obtain ⟨a, rfl⟩ := hi.vec v hv; exact vecL_good h a
  · obtain ⟨a, rfl⟩ := hi.vec v hv; rw [vecL_len]; exact hpos
theorem atoms_head {net : List (List RuleT)} {l : List Nat} (h0 : 0 < l.length) : ∃ h : 0 < (atomsTo net l).F.length, (atomsTo net l).F[0] = l[0] := by
  have : ∀ k, k + 1 ≤ l.length → ∃ h : 0 < (atomsTo net (l.take (k + 1))).F.length, (atomsTo net (l.take (k + 1))).F[0] = l[0] := fun k => by
    induction k with
    | zero =>
      intro hk
      rw [atomsTo_next (by omega)]
      refine ⟨?_, ?_⟩
      · simp [atomsTo, atStep]
      · simp [atomsTo, atStep]
    | succ k ih =>
      intro hk
      obtain ⟨hl, he⟩ := ih (by omega)
      have key : ∀ s : AtS, s = atomsTo net (l.take (k + 1)) → ∀ h : 0 < s.F.length, s.F[0] = l[0] → ∃ h : 0 < (atStep net s l[k + 1]).F.length, (atStep net s l[k + 1]).F[0] = l[0] := fun s _ hs e => by
        unfold atStep
        split
        · split
          · exact ⟨hs, e⟩
          · exact ⟨by simp, by rw [List.getElem_append_left hs]; exact e⟩
        · exact ⟨by simp, by rw [List.getElem_append_left hs]; exact e⟩
      have := key _ rfl hl he
      rw [atomsTo_next (by omega)]
      exact this
  have := this (l.length - 1) (by omega)
  rwa [show l.length - 1 + 1 = l.length by omega, List.take_of_length_le (Nat.le_refl _)] at this
theorem cutHi_mid {l : List Nat} {i : Nat} (h : i + 1 < l.length) : cutHi l i = l[i + 1] - 1 := by
  unfold cutHi
  rw [if_pos h]
  simp [List.getD, List.getElem?_eq_getElem h]
theorem cutHi_last {l : List Nat} {i : Nat} (h : ¬ i + 1 < l.length) : cutHi l i = 4294967295 := by unfold cutHi; rw [if_neg h]
theorem getD_at {l : List Nat} {i : Nat} (h : i < l.length) : l.getD i 0 = l[i] := by simp [List.getD, List.getElem?_eq_getElem h]
/-- The parts meet, from zero to the top. -/
theorem parts_meet {s : AtS} (hF : s.F.Pairwise (· < ·)) (hb : ∀ a ∈ s.F, a < 4294967296) (h0 : ∃ h : 0 < s.F.length, s.F[0] = 0) (hf : s.F.length ≤ 8193) : Meets (partsOf s) := by
  obtain ⟨hpos, hz⟩ := h0
  have hlen : (partsOf s).length = s.F.length := by simp [partsOf]
  have hat : ∀ i (hi : i < (partsOf s).length), (partsOf s)[i] = partOf s i := fun i hi => by simp [partsOf]
  have hlt := List.pairwise_iff_getElem.1 hF
  have hmem : ∀ i (hi : i < s.F.length), s.F[i] < 4294967296 := fun i hi => hb _ (List.getElem_mem hi)
  refine ⟨by omega, by omega, fun p hp => ?_, fun h => ?_, fun h => ?_, fun i hi => ?_, fun i hi => ?_⟩
  · obtain ⟨i, hi, rfl⟩ := List.getElem_of_mem hp
    rw [hat i hi]
    have hi' : i < s.F.length := by omega
    refine ⟨?_, ?_⟩
    · show s.F.getD i 0 < _
      rw [getD_at hi']; exact hmem i hi'
    · show cutHi s.F i < _
      by_cases e : i + 1 < s.F.length
      · rw [cutHi_mid e]; have := hmem _ e; omega
      · rw [cutHi_last e]; omega
  · rw [hat 0 h]
    show s.F.getD 0 0 = 0
    rw [getD_at hpos]; exact hz
  · rw [hat _ h]
    show cutHi s.F _ = _
    exact cutHi_last (by omega)
  · rw [hat i hi]
    have hi' : i < s.F.length := by omega
    show s.F.getD i 0 ≤ cutHi s.F i
    rw [getD_at hi']
    by_cases e : i + 1 < s.F.length
    · rw [cutHi_mid e]; have := hlt i (i + 1) hi' e (by omega); omega
    · rw [cutHi_last e]; have := hmem _ hi'; omega
  · rw [hat i (by omega), hat (i + 1) hi]
    have e : i + 1 < s.F.length := by omega
    have h1 := hlt i (i + 1) (by omega) e (by omega)
    have h2 := hmem _ e
    refine ⟨?_, ?_⟩
    · show cutHi s.F i ≠ _
      rw [cutHi_mid e]; omega
    · show s.F.getD (i + 1) 0 = cutHi s.F i + 1
      rw [getD_at e, cutHi_mid e]; omega
theorem loop_trace {v : List Int} (he : Gr.errno v = 0) (h : hasLoop v = true) : TraceOk (Gr.loopOf v) ∧ (Gr.loopOf v).length ≤ v.length ∧ ∀ x ∈ Gr.loopOf v, x < v.length := by
  obtain ⟨hl, hg⟩ := Gr.errno_zero he
  have hpos : 0 < (Gr.loopOf v).length := by unfold hasLoop at h; simpa using h
  have hll : (Gr.loopL v).length = (Gr.loopOf v).length := by simp [Gr.loopL]
  obtain ⟨u, p, hu, hc, hp, hpl, hmin, e⟩ := Gr.loop_ring hg (by omega)
  have he2 : Gr.loopOf v = Gr.ringTo v u p := by
    unfold Gr.loopL at e
    exact (List.map_inj_right (fun a b hab => by omega)).1 e
  have hpl2 : (Gr.loopOf v).length = p := by rw [he2, Gr.ringTo_len]
  have hat : ∀ i (hi : i < (Gr.loopOf v).length), (Gr.loopOf v)[i] = Gr.at_ v u i := fun i hi => by
    simp only [he2, Gr.ringTo, List.getElem_map, List.getElem_range]
  have hltv : ∀ x ∈ Gr.loopOf v, x < v.length := fun x hx => by
    obtain ⟨i, hi, rfl⟩ := List.getElem_of_mem hx
    rw [hat i hi]; exact (hc.all hg hu i).2
  refine ⟨⟨hpos, by omega, fun x hx => by have := hltv x hx; omega, fun i hi hm => ?_, fun i hi h0 => ?_⟩, by omega, hltv⟩
  · obtain ⟨j, hj, hje⟩ := List.getElem_of_mem hm
    rw [List.length_take] at hj
    rw [List.getElem_take, hat j (by omega), hat i hi] at hje
    exact Gr.per_inj hg hu hc hp (show j < i by omega) (by omega) hje
  · rw [hat 0 h0, hat i hi]
    have h00 : Gr.at_ v u 0 = u := by simp [Gr.at_, Gr.iter]
    rw [h00]
    rcases Nat.lt_or_ge (Gr.at_ v u i) u with hlt | hge
    · exact absurd (Gr.cyc_along hc (hc.all hg hu i).1) (hmin _ hlt)
    · exact hge
theorem ranks_good {v : List Int} (he : Gr.errno v = 0) (h : hasLoop v = false) : (ranksN v).length = v.length ∧ ∀ x ∈ ranksN v, x < v.length := by
  obtain ⟨hl, hg⟩ := Gr.errno_zero he
  have hr := ranked_of he h
  refine ⟨by simp [ranksN], fun x hx => ?_⟩
  obtain ⟨i, hi, rfl⟩ := List.getElem_of_mem hx
  have hi' : i < v.length := by simpa [ranksN] using hi
  obtain ⟨k, hk, hkl, -⟩ := Gr.ranks_facts hg hr rfl hi'
  have h2 : Gr.ranksL v = (ranksN v).map fun x : Nat => (x : Int) := by unfold Gr.ranksL ranksN; simp
  rw [h2, List.getElem?_map, List.getElem?_eq_getElem hi] at hk
  simp at hk
  omega
/-- The certificate of atoms may be. -/
theorem cert_ok {net : List (List RuleT)} {l : List Nat} (h : NetOk net) (hpos : 0 < net.length) (hl : l.Pairwise (· < ·)) (hb : ∀ a ∈ l, a < 4294967296) (hf : l.length ≤ 8193) (h0 : ∃ h : 0 < l.length, l[0] = 0) : CertOk net.length (anCert (atomsTo net l)) := by
  have hs := sok h hpos hl hb (by omega)
  have hi := sinv net l
  have hlenv : ∀ v ∈ (atomsTo net l).V, v.length = net.length := fun v hv => by
    obtain ⟨a, rfl⟩ := hi.vec v hv; exact vecL_len net a
  unfold anCert
  cases e : (atomsTo net l).V.findIdx? hasLoop with
  | some i =>
    obtain ⟨hil, hpi, -⟩ := List.findIdx?_eq_some_iff_getElem.1 e
    have hv := List.getElem_mem hil
    obtain ⟨t1, t2, t3⟩ := loop_trace (hs.vec _ hv) hpi
    have hgd : (atomsTo net l).V.getD i [] = (atomsTo net l).V[i] := by simp [List.getD, List.getElem?_eq_getElem hil]
    have hlv := hlenv _ hv
    refine .inr ⟨rfl, rfl, ?_, ?_, ?_, ?_⟩
    · show (atomsTo net l).F.getD _ 0 < _
      have hlt : (atomsTo net l).H.idxOf i < (atomsTo net l).F.length := by rw [hs.len]; exact List.idxOf_lt_length_of_mem (hs.all i hil)
      rw [getD_at hlt]; exact hs.num _ (List.getElem_mem hlt)
    · show TraceOk (Gr.loopOf _); rw [hgd]; exact t1
    · show (Gr.loopOf _).length ≤ _; rw [hgd]; omega
    · show ∀ x ∈ Gr.loopOf _, _; rw [hgd, ← hlv]; exact t3
  | none =>
    have hno := List.findIdx?_eq_none_iff.1 e
    refine .inl ⟨rfl, ⟨?_, ?_, ?_⟩, rfl, rfl⟩
    · obtain ⟨hl0, hz⟩ := h0
      obtain ⟨hF0, hFz⟩ := atoms_head (net := net) hl0
      exact parts_meet (hl.sublist hi.sub) hs.num ⟨hF0, by rw [hFz]; exact hz⟩ (Nat.le_trans hi.sub.length_le hf)
    all_goals (
      intro p hp
      obtain ⟨j, hj, rfl⟩ := List.mem_map.1 hp
      rw [List.mem_range] at hj
      have hjH : j < (atomsTo net l).H.length := by rw [← hs.len]; exact hj
      have hk := hs.lt _ (List.getElem_mem hjH)
      have hv := List.getElem_mem hk
      obtain ⟨r1, r2⟩ := ranks_good (hs.vec _ hv) (by simpa using hno _ hv)
      have e1 : (partOf (atomsTo net l) j).ranks = ranksN ((atomsTo net l).V[(atomsTo net l).H[j]]) := by
        show ranksN ((atomsTo net l).V.getD ((atomsTo net l).H.getD j 0) []) = _
        rw [getD_at hjH]
        simp [List.getD, List.getElem?_eq_getElem hk]
      rw [e1]
      rw [hlenv _ hv] at r1 r2
      first | exact r1 | exact r2)
/-- What the cuts of a network hold to. -/
theorem cuts_ok {net : List (List RuleT)} (h : NetOk net) : (cutsL net).Pairwise (· < ·) ∧ (∀ a ∈ cutsL net, a < 4294967296) ∧ (∃ h0 : 0 < (cutsL net).length, (cutsL net)[0] = 0) := by
  have trn : ∀ a b c : Nat, decide (a ≤ b) = true → decide (b ≤ c) = true → decide (a ≤ c) = true := fun a b c h1 h2 => by simp only [decide_eq_true_eq] at *; omega
  have ton : ∀ a b : Nat, (decide (a ≤ b) || decide (b ≤ a)) = true := fun a b => by simp only [Bool.or_eq_true, decide_eq_true_eq]; omega
  have hs := List.pairwise_mergeSort trn ton (dedN (ptsN net))
  have hperm := List.mergeSort_perm (dedN (ptsN net)) fun x y => decide (x ≤ y)
  have hnd : (cutsL net).Nodup := hperm.nodup_iff.2 (nodup_dedN _)
  have hp : (cutsL net).Pairwise (· < ·) := by
    refine (List.pairwise_and_iff.2 ⟨hs, hnd⟩).imp ?_
    rintro a b ⟨h1, h2⟩
    simp only [decide_eq_true_eq] at h1
    exact Nat.lt_of_le_of_ne h1 h2
  have hm : ∀ a, a ∈ cutsL net ↔ a ∈ ptsN net := fun a => (hperm.mem_iff).trans mem_dedN
  have h0m : 0 ∈ cutsL net := (hm 0).2 (by simp [ptsN])
  refine ⟨hp, fun a ha => ?_, ?_⟩
  · have := (hm a).1 ha
    rcases List.mem_cons.1 this with rfl | h1
    · omega
    · obtain ⟨t, ht, h2⟩ := List.mem_flatMap.1 h1
      obtain ⟨r, hr, h3⟩ := List.mem_flatMap.1 h2
      have hok := (h.table t ht).rule r hr
      unfold ptsR at h3
      rcases List.mem_cons.1 h3 with rfl | h4
      · exact cutLow_lt hok.a
      · split at h4
        · simp at h4
        · simp at h4
          have := cutHigh_lt hok.a hok.len
          omega
  · obtain ⟨i, hi, he⟩ := List.getElem_of_mem h0m
    have hpos : 0 < (cutsL net).length := by omega
    refine ⟨hpos, ?_⟩
    by_cases e : i = 0
    · subst e; exact he
    · have := (List.pairwise_iff_getElem.1 hp) 0 i hpos hi (by omega)
      omega
end Go.Proofs.YtpjoefekhgmlhaaGreat.Tp
