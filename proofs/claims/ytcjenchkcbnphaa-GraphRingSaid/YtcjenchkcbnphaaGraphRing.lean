/- PLAIN LAWS of loops: the first return, the ring of a node, the least loop. No program in sight. Conditions: the vector may be. -/
import Derived.Test.YtcjenchkcbnphaaGraphPlain
namespace Go.Proofs.Ytcjenchkcbnphaa.Gr

/-- p is the first return to u. -/
def Per (v : List Int) (u p : Nat) : Prop := 0 < p ∧ iter v p u = some u ∧ ∀ i, 0 < i → i < p → iter v i u ≠ some u
theorem least_nat {P : Nat → Prop} (h : ∃ n, P n) : ∃ n, P n ∧ ∀ m, m < n → ¬ P m := by
  obtain ⟨n, hn⟩ := h
  induction n using Nat.strongRecOn with
  | _ n ih =>
    by_cases hm : ∃ m, m < n ∧ P m
    · obtain ⟨m, hlt, hp⟩ := hm
      exact ih m hlt hp
    · exact ⟨n, hn, fun m hlt hp => hm ⟨m, hlt, hp⟩⟩
theorem Cyc.per {v : List Int} (hg : goodB v = true) {u : Nat} (hu : u < v.length) (h : Cyc v u) : ∃ p, Per v u p ∧ p ≤ v.length := by
  obtain ⟨p, ⟨h1, h2⟩, h3⟩ := least_nat h
  refine ⟨p, ⟨h1, h2, fun i hi hip e => h3 i hip ⟨hi, e⟩⟩, ?_⟩
  have hb := (cyc_iff hg hu).2 h
  unfold cycB at hb
  rw [List.any_eq_true] at hb
  obtain ⟨k, hk, hkk⟩ := hb
  have hkl := List.mem_range.1 hk
  have hkk : iter v (k + 1) u = some u := by simpa using hkk
  rcases Nat.lt_or_ge (k + 1) p with h' | h'
  · exact absurd ⟨by omega, hkk⟩ (h3 (k + 1) h')
  · omega
/-- The node that so many steps lead to. -/
def at_ (v : List Int) (u i : Nat) : Nat := (iter v i u).getD 0
def ringTo (v : List Int) (u i : Nat) : List Nat := (List.range i).map (at_ v u)
theorem ringTo_next (v : List Int) (u i : Nat) : ringTo v u (i + 1) = ringTo v u i ++ [at_ v u i] := by unfold ringTo; rw [List.range_succ, List.map_append]; rfl
theorem ringTo_len (v : List Int) (u i : Nat) : (ringTo v u i).length = i := by simp [ringTo]

theorem Cyc.all {v : List Int} (hg : goodB v = true) {u : Nat} (hu : u < v.length) (h : Cyc v u) (i : Nat) : iter v i u = some (at_ v u i) ∧ at_ v u i < v.length := by
  obtain ⟨y, hy⟩ := no_rank_iter hg i u hu h.no_rank
  unfold at_
  rw [hy]
  exact ⟨rfl, iter_lt hg hu hy⟩
theorem Cyc.next {v : List Int} (hg : goodB v = true) {u : Nat} (hu : u < v.length) (h : Cyc v u) (i : Nat) : nxt v (at_ v u i) = some (at_ v u (i + 1)) := by
  have h1 := (h.all hg hu i).1
  have h2 := (h.all hg hu (i + 1)).1
  rw [iter_add, h1] at h2
  simp only [Option.bind_some, iter] at h2
  cases hn : nxt v (at_ v u i) with
  | none => rw [hn] at h2; cases h2
  | some y => rw [hn] at h2; simpa using h2
theorem Cyc.val {v : List Int} (hg : goodB v = true) {u : Nat} (hu : u < v.length) (h : Cyc v u) (i : Nat) : v[at_ v u i]? = some ((at_ v u (i + 1) : Nat) : Int) := by
  have hn := h.next hg hu i
  have hl := (h.all hg hu i).2
  have hb := good_at hg hl
  rw [nxt_at hl] at hn
  rw [List.getElem?_eq_getElem hl]
  split at hn
  · cases hn
  · injection hn with hn
    congr 1
    omega
theorem per_ne {v : List Int} (hg : goodB v = true) {u p : Nat} (hu : u < v.length) (hc : Cyc v u) (h : Per v u p) {i : Nat} (h1 : 0 < i) (h2 : i < p) : at_ v u i ≠ u := fun e => by
  have := (hc.all hg hu i).1
  rw [e] at this
  exact h.2.2 i h1 h2 this
theorem per_eq {v : List Int} {u p : Nat} (h : Per v u p) : at_ v u p = u := by unfold at_; rw [h.2.1]; rfl
theorem orbit_eq {v : List Int} (hg : goodB v = true) {u p : Nat} (hu : u < v.length) (hc : Cyc v u) (h : Per v u p) : ∀ (f i : Nat), 0 < i → i ≤ p → p - i ≤ f → orbit v u f (at_ v u i) = (List.range' i (p - i)).map (at_ v u)
  | 0, i, h1, h2, h3 => by
    have : i = p := by omega
    subst this
    simp [orbit]
  | f + 1, i, h1, h2, h3 => by
    unfold orbit
    by_cases hip : i = p
    · subst hip
      rw [if_pos (per_eq h)]; simp
    · rw [if_neg (per_ne hg hu hc h h1 (by omega)), hc.next hg hu i]
      simp only []
      rw [orbit_eq hg hu hc h f (i + 1) (by omega) (by omega) (by omega), show p - i = (p - (i + 1)) + 1 by omega, List.range'_succ, List.map_cons]
theorem ringOf_eq {v : List Int} (hg : goodB v = true) {u p : Nat} (hu : u < v.length) (hc : Cyc v u) (h : Per v u p) (hp : p ≤ v.length) : ringOf v u = ringTo v u p := by
  unfold ringOf
  have hn := hc.next hg hu 0
  have h0 : at_ v u 0 = u := rfl
  rw [h0] at hn
  rw [hn]
  simp only []
  rw [orbit_eq hg hu hc h v.length 1 (by omega) h.1 (by omega)]
  unfold ringTo
  have hpp := h.1
  rw [List.range_eq_range', show p = (p - 1) + 1 by omega, List.range'_succ, List.map_cons, h0]
  simp

theorem cyc_back {v : List Int} {u y i : Nat} (h : Cyc v u) (hy : iter v i u = some y) : ∃ b, iter v b y = some u := by
  obtain ⟨m, hm, hmu⟩ := h
  have hmul : ∀ t, iter v (m * t) u = some u := by
    intro t
    induction t with
    | zero => rfl
    | succ t ih => rw [Nat.mul_succ, iter_add, ih]; exact hmu
  refine ⟨m * i - i, ?_⟩
  have h1 : iter v (i + (m * i - i)) u = some u := by
    have : i ≤ m * i := Nat.le_mul_of_pos_left i hm
    rw [show i + (m * i - i) = m * i by omega]; exact hmul i
  rw [iter_add, hy] at h1
  exact h1
theorem cyc_along {v : List Int} {u y i : Nat} (h : Cyc v u) (hy : iter v i u = some y) : Cyc v y := by
  obtain ⟨b, hb⟩ := cyc_back h hy
  obtain ⟨m, hm, hmu⟩ := h
  refine ⟨b + m + i, by omega, ?_⟩
  rw [iter_add, iter_add, hb]
  simp only [Option.bind_some]
  rw [hmu]
  exact hy
theorem per_mod {v : List Int} {u p : Nat} (h : Per v u p) (c : Nat) : iter v c u = iter v (c % p) u := by
  have hmul : ∀ t, iter v (p * t) u = some u := by
    intro t
    induction t with
    | zero => rfl
    | succ t ih => rw [Nat.mul_succ, iter_add, ih]; exact h.2.1
  conv => lhs; rw [← Nat.div_add_mod c p, iter_add, hmul]
  rfl
/-- Whoever is passed from a node of a loop on lies on its ring. -/
theorem mem_ring {v : List Int} {u p y c : Nat} (h : Per v u p) (hy : iter v c u = some y) : y ∈ ringTo v u p := by
  rw [per_mod h c] at hy
  refine List.mem_map.2 ⟨c % p, List.mem_range.2 (Nat.mod_lt _ h.1), ?_⟩
  unfold at_
  rw [hy]; rfl
theorem ring_cyc {v : List Int} (hg : goodB v = true) {u p y : Nat} (hu : u < v.length) (hc : Cyc v u) (h : y ∈ ringTo v u p) : Cyc v y ∧ y < v.length := by
  obtain ⟨i, _, rfl⟩ := List.mem_map.1 h
  have := hc.all hg hu i
  exact ⟨cyc_along hc this.1, this.2⟩
theorem closed_iter {v : List Int} {S : Nat → Prop} (h : ∀ x y, S x → nxt v x = some y → S y) : ∀ {k x y : Nat}, S x → iter v k x = some y → S y
  | 0, x, y, hx, e => by simp [iter] at e; rw [← e]; exact hx
  | k + 1, x, y, hx, e => by
    simp only [iter] at e
    split at e
    · cases e
    · rename_i z hz
      exact closed_iter h (h x z hx hz) e

/-! ### the least loop -/
theorem loopOf_none {v : List Int} (hg : goodB v = true) (h : ∀ u, u < v.length → ¬ Cyc v u) : loopOf v = [] := by
  unfold loopOf
  have : (List.range v.length).find? (cycB v) = none := by
    rw [List.find?_eq_none]
    intro u hu hc
    exact h u (List.mem_range.1 hu) ((cyc_iff hg (List.mem_range.1 hu)).1 hc)
  rw [this]
theorem find_range {p : Nat → Bool} {n u : Nat} (hu : u < n) (hp : p u = true) (hl : ∀ x, x < u → p x = false) : (List.range n).find? p = some u := by
  rw [List.find?_range_eq_some]
  exact ⟨hp, List.mem_range.2 hu, fun j hj => by rw [hl j hj]; rfl⟩
theorem loopOf_some {v : List Int} (hg : goodB v = true) {u : Nat} (hu : u < v.length) (hc : Cyc v u) (hl : ∀ x, x < u → ¬ Cyc v x) : loopOf v = ringOf v u := by
  unfold loopOf
  rw [find_range hu ((cyc_iff hg hu).2 hc) (fun x hx => by
    cases h : cycB v x with
    | false => rfl
    | true => exact absurd ((cyc_iff hg (by omega)).1 h) (hl x hx))]
end Go.Proofs.Ytcjenchkcbnphaa.Gr
