/- PLAIN LAW: a ring of k nodes from f on, with others that lead into it. -/
import Derived.Test.YtcjenchkcbnphaaGraphRanksLawPlain
namespace Go.Proofs.Ytcjenchkcbnphaa.Gr

/-- The first i numbers are laid: within the ring its steps, elsewhere steps into it. -/
def Laid (xs : List Int) (k f i : Nat) : Prop :=
  ∀ j, j < i → (f ≤ j → j < f + k → xs[j]? = some (((f + (j - f + 1) % k : Nat) : Nat) : Int)) ∧ (¬(f ≤ j ∧ j < f + k) → ∃ c, c < k ∧ xs[j]? = some ((f + c : Nat) : Int))
theorem Laid.zero (xs : List Int) (k f : Nat) : Laid xs k f 0 := fun _ h => absurd h (by omega)
theorem Laid.ring {xs : List Int} {k f i : Nat} (h : Laid xs k f i) (hi : i < xs.length) (h1 : f ≤ i) (h2 : i < f + k) : Laid (xs.set i ((f + (i - f + 1) % k : Nat) : Int)) k f (i + 1) := fun j hj => by
  rw [List.getElem?_set]
  by_cases e : i = j
  · subst e
    rw [if_pos rfl, if_pos hi]
    exact ⟨fun _ _ => rfl, fun h' => absurd ⟨h1, h2⟩ h'⟩
  · rw [if_neg e]; exact h j (by omega)
theorem Laid.into {xs : List Int} {k f i c : Nat} (h : Laid xs k f i) (hi : i < xs.length) (h1 : ¬(f ≤ i ∧ i < f + k)) (hc : c < k) : Laid (xs.set i ((f + c : Nat) : Int)) k f (i + 1) := fun j hj => by
  rw [List.getElem?_set]
  by_cases e : i = j
  · subst e
    rw [if_pos rfl, if_pos hi]
    exact ⟨fun h2 h3 => absurd ⟨h2, h3⟩ h1, fun _ => ⟨c, hc, rfl⟩⟩
  · rw [if_neg e]; exact h j (by omega)

section
variable {v : List Int} {k f : Nat}
theorem Laid.in_ (h : Laid v k f v.length) {j : Nat} (hj : f + j < v.length) (hk : j < k) : nxt v (f + j) = some (f + (j + 1) % k) := by
  have := (h (f + j) hj).1 (by omega) (by omega)
  unfold nxt
  rw [this]
  simp only []
  rw [if_neg (by omega), show f + j - f + 1 = j + 1 by omega]
  simp only [Option.some.injEq]
  omega
theorem Laid.any (h : Laid v k f v.length) (hk : 0 < k) {u : Nat} (hu : u < v.length) : ∃ c, c < k ∧ nxt v u = some (f + c) ∧ v[u]? = some ((f + c : Nat) : Int) := by
  by_cases hr : f ≤ u ∧ u < f + k
  · obtain ⟨j, rfl⟩ : ∃ j, u = f + j := ⟨u - f, by omega⟩
    refine ⟨(j + 1) % k, Nat.mod_lt _ hk, h.in_ hu (by omega), ?_⟩
    have := (h (f + j) hu).1 (by omega) (by omega)
    rw [this, show f + j - f + 1 = j + 1 by omega]
  · obtain ⟨c, hc, e⟩ := (h u hu).2 hr
    refine ⟨c, hc, ?_, e⟩
    unfold nxt
    rw [e]
    simp only []
    rw [if_neg (by omega)]
    simp only [Option.some.injEq]
    omega
theorem Laid.good (h : Laid v k f v.length) (hk : 0 < k) (hl : f + k ≤ v.length) : goodB v = true := by
  rw [good_iff]
  intro x hx
  obtain ⟨u, hu, rfl⟩ := List.mem_iff_getElem.1 hx
  obtain ⟨c, hc, _, e⟩ := h.any hk hu
  rw [List.getElem?_eq_getElem hu] at e
  injection e with e
  omega
theorem Laid.iter (h : Laid v k f v.length) (hk : 0 < k) (hl : f + k ≤ v.length) : ∀ j, Gr.iter v j f = some (f + j % k)
  | 0 => by simp [Gr.iter]
  | j + 1 => by
    have hm := Nat.mod_lt j hk
    rw [iter_add, Laid.iter h hk hl j]
    simp only [Option.bind_some, Gr.iter]
    rw [h.in_ (by omega) hm]
    simp only [Option.some.injEq]
    rw [Nat.mod_add_mod]
theorem Laid.per (h : Laid v k f v.length) (hk : 0 < k) (hl : f + k ≤ v.length) : Per v f k := by
  refine ⟨hk, by rw [h.iter hk hl, Nat.mod_self]; rfl, fun i h1 h2 e => ?_⟩
  rw [h.iter hk hl, Nat.mod_eq_of_lt h2] at e
  injection e with e
  omega
theorem Laid.none_below (h : Laid v k f v.length) (hk : 0 < k) (hl : f + k ≤ v.length) : ∀ x, x < f → ¬ Cyc v x := by
  rintro x hx ⟨m, hm, e⟩
  have hge : ∀ (n u y : Nat), u < v.length → Gr.iter v (n + 1) u = some y → f ≤ y ∧ y < v.length := by
    intro n
    induction n with
    | zero =>
      intro u y hu e
      obtain ⟨c, hc, e2, _⟩ := h.any hk hu
      simp only [Gr.iter, e2] at e
      injection e with e
      omega
    | succ n ih =>
      intro u y hu e
      obtain ⟨c, hc, e2, _⟩ := h.any hk hu
      rw [Gr.iter, e2] at e
      exact ih (f + c) y (by omega) e
  have := hge (m - 1) x x (by omega) (by rw [show m - 1 + 1 = m by omega]; exact e)
  omega
theorem Laid.loop (h : Laid v k f v.length) (hk : 0 < k) (hl : f + k ≤ v.length) : (loopL v).length = k ∧ ∀ i (hi : i < (loopL v).length), (loopL v)[i] = ((f + i : Nat) : Int) := by
  have hg := h.good hk hl
  have hp := h.per hk hl
  have hc : Cyc v f := ⟨k, hp.1, hp.2.1⟩
  have e : loopL v = (ringTo v f k).map fun x : Nat => (x : Int) := by
    unfold loopL
    rw [loopOf_some hg (by omega) hc (h.none_below hk hl), ringOf_eq hg (by omega) hc hp (by omega)]
  have hlen : (loopL v).length = k := by rw [e, List.length_map, ringTo_len]
  refine ⟨hlen, fun i hi => ?_⟩
  simp only [e, List.getElem_map, ringTo, List.getElem_range]
  unfold at_
  rw [h.iter hk hl, Nat.mod_eq_of_lt (by omega)]; rfl
theorem Laid.round (h : Laid v k f v.length) (hk : 0 < k) (hl : f + k ≤ v.length) : allRanked v = false := by
  have hp := h.per hk hl
  cases ha : allRanked v with
  | false => rfl
  | true => exact absurd ⟨k, hp.1, hp.2.1⟩ ((ranked_iff_no_cyc (h.good hk hl)).1 ha f (by omega))

/-! ### one step taken out -/
theorem out_len : (v.set f (-1)).length = v.length := List.length_set
theorem out_nxt {u : Nat} (hne : u ≠ f) : nxt (v.set f (-1)) u = nxt v u := by
  unfold nxt
  rw [List.getElem?_set, if_neg (by omega)]
theorem out_end (hf : f < v.length) : nxt (v.set f (-1)) f = none := nxt_of_neg (by rw [out_len]; exact hf) (by rw [List.getElem_set_self]; decide)
theorem Laid.out_rank (h : Laid v k f v.length) (hl : f + k ≤ v.length) : ∀ j, j < k → 0 < j → IsRank (v.set f (-1)) j (f + (k - j))
  | 0, _, h0 => absurd h0 (by omega)
  | j + 1, hj, _ => by
    have hs := h.in_ (j := k - (j + 1)) (by omega) (by omega)
    rw [show k - (j + 1) + 1 = k - j by omega] at hs
    refine ⟨f + (k - j) % k, by rw [out_nxt (by omega)]; exact hs, ?_⟩
    by_cases h0 : j = 0
    · subst h0
      rw [Nat.sub_zero, Nat.mod_self, Nat.add_zero]
      exact ⟨by rw [out_len]; omega, out_end (by omega)⟩
    · rw [Nat.mod_eq_of_lt (by omega)]
      exact Laid.out_rank h hl j (by omega) (by omega)
theorem Laid.out_ring (h : Laid v k f v.length) (hk : 0 < k) (hl : f + k ≤ v.length) {c : Nat} (hc : c < k) : ∃ r, IsRank (v.set f (-1)) r (f + c) := by
  by_cases h0 : c = 0
  · subst h0; exact ⟨0, by rw [out_len]; omega, out_end (by omega)⟩
  · have := h.out_rank hl (k - c) (by omega) (by omega)
    rw [show k - (k - c) = c by omega] at this
    exact ⟨_, this⟩
theorem Laid.out (h : Laid v k f v.length) (hk : 0 < k) (hl : f + k ≤ v.length) : goodB (v.set f (-1)) = true ∧ allRanked (v.set f (-1)) = true := by
  have hg := set_good (h.good hk hl) f
  refine ⟨hg, (allRanked_iff hg).2 fun u hu => ?_⟩
  rw [out_len] at hu
  by_cases e : u = f
  · subst e; exact ⟨0, by rw [out_len]; omega, out_end (by omega)⟩
  · obtain ⟨c, hc, hn, _⟩ := h.any hk hu
    obtain ⟨r, hr⟩ := h.out_ring hk hl hc
    exact ⟨r + 1, f + c, by rw [out_nxt e]; exact hn, hr⟩
theorem Laid.out_first (h : Laid v k f v.length) (hk : 0 < k) (hl : f + k ≤ v.length) (hi : f < (ranksL (v.set f (-1))).length) : (ranksL (v.set f (-1)))[f] = 0 :=
  ranks_at (h.out hk hl).1 hi ⟨by rw [out_len]; omega, out_end (by omega)⟩
theorem Laid.out_second (h : Laid v k f v.length) (hk : 1 < k) (hl : f + k ≤ v.length) (hi : f + 1 < (ranksL (v.set f (-1))).length) : (ranksL (v.set f (-1)))[f + 1] = ((k - 1 : Nat) : Int) := by
  have := h.out_rank hl (k - 1) (by omega) (by omega)
  rw [show k - (k - 1) = 1 by omega] at this
  exact ranks_at (h.out (by omega) hl).1 hi this
end
end Go.Proofs.Ytcjenchkcbnphaa.Gr
