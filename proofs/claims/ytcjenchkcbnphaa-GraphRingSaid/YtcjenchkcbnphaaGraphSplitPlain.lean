/- PLAIN LAW: two vectors put behind each other. -/
import Derived.Test.YtcjenchkcbnphaaGraphRanksLawPlain
namespace Go.Proofs.Ytcjenchkcbnphaa.Gr

def shiftAt (n : Nat) (t : Int) : Int := if t < 0 then -1 else (n : Int) + t
def catV (x y : List Int) : List Int := x ++ y.map (shiftAt x.length)
theorem cat_len (x y : List Int) : (catV x y).length = x.length + y.length := by simp [catV]
theorem cat_good {x y : List Int} (hx : goodB x = true) (hy : goodB y = true) : goodB (catV x y) = true := by
  rw [good_iff] at hx hy ⊢
  intro t ht
  rw [cat_len]
  unfold catV at ht
  rcases List.mem_append.1 ht with h | h
  · have := hx t h; omega
  · obtain ⟨s, hs, rfl⟩ := List.mem_map.1 h
    have := hy s hs
    unfold shiftAt
    split <;> omega
theorem cat_nxt_l (x y : List Int) {u : Nat} (hu : u < x.length) : nxt (catV x y) u = nxt x u := by
  unfold nxt catV; rw [List.getElem?_append_left hu]
theorem cat_nxt_r (x : List Int) {y : List Int} {u : Nat} (hu : u < y.length) : nxt (catV x y) (x.length + u) = (nxt y u).map (x.length + ·) := by
  have h1 : (catV x y)[x.length + u]? = some (shiftAt x.length y[u]) := by
    unfold catV
    rw [List.getElem?_append_right (by omega), show x.length + u - x.length = u by omega, List.getElem?_map, List.getElem?_eq_getElem hu]; rfl
  rw [nxt_at hu]
  unfold nxt
  rw [h1]
  simp only []
  unfold shiftAt
  by_cases h : y[u] < 0
  · rw [if_pos h, if_pos h, if_pos (by omega)]; rfl
  · rw [if_neg h, if_neg h, if_neg (by omega)]
    simp only [Option.map_some]
    congr 1
    omega
theorem cat_iter_l {x : List Int} (y : List Int) (hx : goodB x = true) : ∀ (k u : Nat), u < x.length → iter (catV x y) k u = iter x k u
  | 0, _, _ => rfl
  | k + 1, u, hu => by
    simp only [iter, cat_nxt_l x y hu]
    cases h : nxt x u with
    | none => rfl
    | some z => exact cat_iter_l y hx k z (nxt_lt hx h).2
theorem cat_iter_r (x : List Int) {y : List Int} (hy : goodB y = true) : ∀ (k u : Nat), u < y.length → iter (catV x y) k (x.length + u) = (iter y k u).map (x.length + ·)
  | 0, _, _ => rfl
  | k + 1, u, hu => by
    simp only [iter, cat_nxt_r x hu]
    cases h : nxt y u with
    | none => rfl
    | some z => exact cat_iter_r x hy k z (nxt_lt hy h).2
theorem cat_cyc_l {x : List Int} (y : List Int) (hx : goodB x = true) {u : Nat} (hu : u < x.length) : Cyc (catV x y) u ↔ Cyc x u := by
  unfold Cyc
  constructor
  · rintro ⟨k, h0, h⟩; rw [cat_iter_l y hx k u hu] at h; exact ⟨k, h0, h⟩
  · rintro ⟨k, h0, h⟩; refine ⟨k, h0, ?_⟩; rw [cat_iter_l y hx k u hu]; exact h
theorem map_add_some {n u : Nat} : ∀ {o : Option Nat}, o.map (n + ·) = some (n + u) ↔ o = some u
  | none => by simp
  | some z => by simp
theorem cat_cyc_r (x : List Int) {y : List Int} (hy : goodB y = true) {u : Nat} (hu : u < y.length) : Cyc (catV x y) (x.length + u) ↔ Cyc y u := by
  unfold Cyc
  constructor
  · rintro ⟨k, h0, h⟩; rw [cat_iter_r x hy k u hu, map_add_some] at h; exact ⟨k, h0, h⟩
  · rintro ⟨k, h0, h⟩; refine ⟨k, h0, ?_⟩; rw [cat_iter_r x hy k u hu, map_add_some]; exact h
theorem cat_rank_l {x : List Int} (y : List Int) : ∀ {k u : Nat}, IsRank x k u → IsRank (catV x y) k u
  | 0, u, h => ⟨by rw [cat_len]; have := h.1; omega, by rw [cat_nxt_l x y h.1]; exact h.2⟩
  | k + 1, u, h => by
    have hu := h.lt
    obtain ⟨z, hz, hr⟩ := h
    exact ⟨z, by rw [cat_nxt_l x y hu]; exact hz, cat_rank_l y hr⟩
theorem cat_rank_r (x : List Int) {y : List Int} : ∀ {k u : Nat}, IsRank y k u → IsRank (catV x y) k (x.length + u)
  | 0, u, h => ⟨by rw [cat_len]; have := h.1; omega, by rw [cat_nxt_r x h.1, h.2]; rfl⟩
  | k + 1, u, h => by
    have hu := h.lt
    obtain ⟨z, hz, hr⟩ := h
    exact ⟨x.length + z, by rw [cat_nxt_r x hu, hz]; rfl, cat_rank_r x hr⟩
theorem cat_all {x y : List Int} (hx : goodB x = true) (hy : goodB y = true) : allRanked (catV x y) = (allRanked x && allRanked y) := by
  rw [Bool.eq_iff_iff, Bool.and_eq_true, ranked_iff_no_cyc (cat_good hx hy), ranked_iff_no_cyc hx, ranked_iff_no_cyc hy]
  constructor
  · intro h
    refine ⟨fun u hu hc => h u (by rw [cat_len]; omega) ((cat_cyc_l y hx hu).2 hc), fun u hu hc => h (x.length + u) (by rw [cat_len]; omega) ((cat_cyc_r x hy hu).2 hc)⟩
  · rintro ⟨h1, h2⟩ u hu hc
    rw [cat_len] at hu
    by_cases h : u < x.length
    · exact h1 u h ((cat_cyc_l y hx h).1 hc)
    · obtain ⟨v, rfl⟩ : ∃ v, u = x.length + v := ⟨u - x.length, by omega⟩
      exact h2 v (by omega) ((cat_cyc_r x hy (by omega)).1 hc)
theorem cat_ranks {x y : List Int} (hx : goodB x = true) (hy : goodB y = true) (h1 : allRanked x = true) (h2 : allRanked y = true) : ranksL (catV x y) = ranksL x ++ ranksL y := by
  have hg := cat_good hx hy
  apply List.ext_getElem
  · rw [List.length_append, ranks_len, ranks_len, ranks_len, cat_len]
  · intro i hi1 hi2
    have hi : i < x.length + y.length := by rw [ranks_len, cat_len] at hi1; exact hi1
    by_cases h : i < x.length
    · obtain ⟨k, hk⟩ := (allRanked_iff hx).1 h1 i h
      rw [List.getElem_append_left (by rw [ranks_len]; exact h), ranks_at hg hi1 (cat_rank_l y hk), ranks_at hx _ hk]
    · obtain ⟨v, rfl⟩ : ∃ v, i = x.length + v := ⟨i - x.length, by omega⟩
      obtain ⟨k, hk⟩ := (allRanked_iff hy).1 h2 v (by omega)
      have e : (x.length + v - (ranksL x).length) = v := by rw [ranks_len]; omega
      rw [List.getElem_append_right (by rw [ranks_len]; omega), ranks_at hg hi1 (cat_rank_r x hk)]
      simp only [e]
      rw [ranks_at hy _ hk]
/-- A loop of the first one is that of both. -/
theorem cat_loop_l {x : List Int} (y : List Int) (hx : goodB x = true) (hy : goodB y = true) (h1 : allRanked x = false) : loopL (catV x y) = loopL x := by
  have hg := cat_good hx hy
  obtain ⟨u, p, hu, hc, hp, hpl, hl, e⟩ := loop_ring hx (loop_full hx h1)
  rw [e]
  have hp' : Per (catV x y) u p := ⟨hp.1, by rw [cat_iter_l y hx p u hu]; exact hp.2.1, fun i hi hip => by rw [cat_iter_l y hx i u hu]; exact hp.2.2 i hi hip⟩
  have hu' : u < (catV x y).length := by rw [cat_len]; omega
  have hc' := (cat_cyc_l y hx hu).2 hc
  unfold loopL
  rw [loopOf_some hg hu' hc' (fun z hz hcz => hl z hz ((cat_cyc_l y hx (by omega)).1 hcz)), ringOf_eq hg hu' hc' hp' (by rw [cat_len]; omega)]
  congr 1
  unfold ringTo
  apply List.map_congr_left
  intro i _
  unfold at_
  rw [cat_iter_l y hx i u hu]
theorem cat_loop_r {x y : List Int} (hx : goodB x = true) (hy : goodB y = true) (h1 : allRanked x = true) (h2 : allRanked y = false) : loopL (catV x y) = (loopL y).map fun t => t + (x.length : Int) := by
  have hg := cat_good hx hy
  obtain ⟨u, p, hu, hc, hp, hpl, hl, e⟩ := loop_ring hy (loop_full hy h2)
  rw [e]
  have hp' : Per (catV x y) (x.length + u) p := ⟨hp.1, by rw [cat_iter_r x hy p u hu, map_add_some]; exact hp.2.1, fun i hi hip => by rw [cat_iter_r x hy i u hu, Ne, map_add_some]; exact hp.2.2 i hi hip⟩
  have hu' : x.length + u < (catV x y).length := by rw [cat_len]; omega
  have hc' := (cat_cyc_r x hy hu).2 hc
  have hno := (ranked_iff_no_cyc hx).1 h1
  unfold loopL
  rw [loopOf_some hg hu' hc' (fun z hz hcz => by
    by_cases h : z < x.length
    · exact hno z h ((cat_cyc_l y hx h).1 hcz)
    · obtain ⟨v, rfl⟩ : ∃ v, z = x.length + v := ⟨z - x.length, by omega⟩
      exact hl v (by omega) ((cat_cyc_r x hy (by omega)).1 hcz)), ringOf_eq hg hu' hc' hp' (by rw [cat_len]; omega)]
  unfold ringTo
  rw [List.map_map, List.map_map, List.map_map]
  apply List.map_congr_left
  intro i _
  simp only [Function.comp_apply]
  have hi := (hc.all hy hu i).1
  unfold at_
  rw [cat_iter_r x hy i u hu, hi]
  simp only [Option.map_some, Option.getD_some]
  omega
/-- The row so far. -/
def catTo (x y : List Int) (k : Nat) : List Int := x ++ (y.take k).map (shiftAt x.length)
theorem catTo_next {x y : List Int} {k : Nat} (h : k < y.length) : catTo x y (k + 1) = catTo x y k ++ [shiftAt x.length y[k]] := by
  unfold catTo; rw [List.take_succ_eq_append_getElem h, List.map_append, List.append_assoc]; rfl
theorem catTo_len {x y : List Int} {k : Nat} (h : k ≤ y.length) : (catTo x y k).length = x.length + k := by simp [catTo]; omega
theorem catTo_end (x y : List Int) : catTo x y y.length = catV x y := by unfold catTo catV; rw [List.take_of_length_le (by omega)]
theorem catTo_zero (x y : List Int) : catTo x y 0 = x := by simp [catTo]
end Go.Proofs.Ytcjenchkcbnphaa.Gr
