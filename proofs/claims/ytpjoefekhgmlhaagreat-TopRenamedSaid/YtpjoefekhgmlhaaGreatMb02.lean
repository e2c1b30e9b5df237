/- PLAIN LAWS of loops: the first return, the ring of a node, the least loop. No program in sight. Conditions: the vector may be. · CONTRACTS: the nodes of a loop from one of them on (graph.round); the least of some numbers (slices.Min). Conditions: the vector may be, has 256 numbers at most, and the node is on a loop; there is a number. · PLAIN LAWS of the walks that look for loops: what labels say when so many nodes have been begun from. No program in sight. Conditions: the vector may be. -/
import Derived.Test.YtpjoefekhgmlhaaGreatMb01
import Derived.Deep.LoopGhost
namespace Go.Proofs.YtpjoefekhgmlhaaGreat.Gr

/-- p is the first return to u. -/
def Per (v : List Int) (u p : Nat) : Prop := 0 < p ∧ iter v p u = some u ∧ ∀ i, 0 < i → i < p → iter v i u ≠ some u
theorem least_nat {P : Nat → Prop} (h : ∃ n, P n) : ∃ n, P n ∧ ∀ m, m < n → ¬ P m := by
  obtain ⟨n, hn⟩ := h
  induction n using Nat.strongRecOn with
  | _ n ih =>
    by_cases hm : ∃ m, m < n ∧ P m
    · obtain ⟨m, hlt, hp⟩ := hm
      exact ih m hlt hp
    · exact ⟨n, hn, fun m hlt hp => hm ⟨m, hlt, hp⟩⟩
theorem Cyc.per {v : List Int} (hg : goodB v = true) {u : Nat} (hu : u < v.length) (h : Cyc v u) : ∃ p, Per v u p ∧ p ≤ v.length := by
  obtain ⟨p, ⟨h1, h2⟩, h3⟩ := least_nat h
  refine ⟨p, ⟨h1, h2, fun i hi hip e => h3 i hip ⟨hi, e⟩⟩, ?_⟩
  have hb := (cyc_iff hg hu).2 h
  unfold cycB at hb
  rw [List.any_eq_true] at hb
  obtain ⟨k, hk, hkk⟩ := hb
  have hkl := List.mem_range.1 hk
  have hkk : iter v (k + 1) u = some u := by simpa using hkk
  rcases Nat.lt_or_ge (k + 1) p with h' | h'
  · exact absurd ⟨by omega, hkk⟩ (h3 (k + 1) h')
  · omega
/-- The node that so many steps lead to. -/
def at_ (v : List Int) (u i : Nat) : Nat := (iter v i u).getD 0
def ringTo (v : List Int) (u i : Nat) : List Nat := (List.range i).map (at_ v u)
theorem ringTo_next (v : List Int) (u i : Nat) : ringTo v u (i + 1) = ringTo v u i ++ [at_ v u i] := by unfold ringTo; rw [List.range_succ, List.map_append]; rfl
theorem ringTo_len (v : List Int) (u i : Nat) : (ringTo v u i).length = i := by simp [ringTo]

theorem Cyc.all {v : List Int} (hg : goodB v = true) {u : Nat} (hu : u < v.length) (h : Cyc v u) (i : Nat) : iter v i u = some (at_ v u i) ∧ at_ v u i < v.length := by
  obtain ⟨y, hy⟩ := no_rank_iter hg i u hu h.no_rank
  unfold at_
  rw [hy]
  exact ⟨rfl, iter_lt hg hu hy⟩
theorem Cyc.next {v : List Int} (hg : goodB v = true) {u : Nat} (hu : u < v.length) (h : Cyc v u) (i : Nat) : nxt v (at_ v u i) = some (at_ v u (i + 1)) := by
  have h1 := (h.all hg hu i).1
  have h2 := (h.all hg hu (i + 1)).1
  rw [iter_add, h1] at h2
  simp only [Option.bind_some, iter] at h2
  cases hn : nxt v (at_ v u i) with
  | none => rw [hn] at h2; cases h2
  | some y => rw [hn] at h2; simpa using h2
theorem Cyc.val {v : List Int} (hg : goodB v = true) {u : Nat} (hu : u < v.length) (h : Cyc v u) (i : Nat) : v[at_ v u i]? = some ((at_ v u (i + 1) : Nat) : Int) := by
  have hn := h.next hg hu i
  have hl := (h.all hg hu i).2
  have hb := good_at hg hl
  rw [nxt_at hl] at hn
  rw [List.getElem?_eq_getElem hl]
  split at hn
  · cases hn
  · injection hn with hn
    congr 1
    omega
theorem per_ne {v : List Int} (hg : goodB v = true) {u p : Nat} (hu : u < v.length) (hc : Cyc v u) (h : Per v u p) {i : Nat} (h1 : 0 < i) (h2 : i < p) : at_ v u i ≠ u := fun e => by
  have := (hc.all hg hu i).1
  rw [e] at this
  exact h.2.2 i h1 h2 this
theorem per_eq {v : List Int} {u p : Nat} (h : Per v u p) : at_ v u p = u := by unfold at_; rw [h.2.1]; rfl
theorem orbit_eq {v : List Int} (hg : goodB v = true) {u p : Nat} (hu : u < v.length) (hc : Cyc v u) (h : Per v u p) : ∀ (f i : Nat), 0 < i → i ≤ p → p - i ≤ f → orbit v u f (at_ v u i) = (List.range' i (p - i)).map (at_ v u)
  | 0, i, h1, h2, h3 => by
    have : i = p := by omega
    subst this
    simp [orbit]
  | f + 1, i, h1, h2, h3 => by
    unfold orbit
    by_cases hip : i = p
    · subst hip
      rw [if_pos (per_eq h)]; simp
    · rw [if_neg (per_ne hg hu hc h h1 (by omega)), hc.next hg hu i]
      simp only []
      rw [orbit_eq hg hu hc h f (i + 1) (by omega) (by omega) (by omega), show p - i = (p - (i + 1)) + 1 by omega, List.range'_succ, List.map_cons]
theorem ringOf_eq {v : List Int} (hg : goodB v = true) {u p : Nat} (hu : u < v.length) (hc : Cyc v u) (h : Per v u p) (hp : p ≤ v.length) : ringOf v u = ringTo v u p := by
  unfold ringOf
  have hn := hc.next hg hu 0
  have h0 : at_ v u 0 = u := rfl
  rw [h0] at hn
  rw [hn]
  simp only []
  rw [orbit_eq hg hu hc h v.length 1 (by omega) h.1 (by omega)]
  unfold ringTo
  have hpp := h.1
  rw [List.range_eq_range', show p = (p - 1) + 1 by omega, List.range'_succ, List.map_cons, h0]
  simp

theorem cyc_back {v : List Int} {u y i : Nat} (h : Cyc v u) (hy : iter v i u = some y) : ∃ b, iter v b y = some u := by
  obtain ⟨m, hm, hmu⟩ := h
  have hmul : ∀ t, iter v (m * t) u = some u := by
    intro t
    induction t with
    | zero => rfl
    | succ t ih => rw [Nat.mul_succ, iter_add, ih]; exact hmu
  refine ⟨m * i - i, ?_⟩
  have h1 : iter v (i + (m * i - i)) u = some u := by
    have : i ≤ m * i := Nat.le_mul_of_pos_left i hm
    rw [show i + (m * i - i) = m * i by omega]; exact hmul i
  rw [iter_add, hy] at h1
  exact h1
theorem cyc_along {v : List Int} {u y i : Nat} (h : Cyc v u) (hy : iter v i u = some y) : Cyc v y := by
  obtain ⟨b, hb⟩ := cyc_back h hy
  obtain ⟨m, hm, hmu⟩ := h
  refine ⟨b + m + i, by omega, ?_⟩
  rw [iter_add, iter_add, hb]
  simp only [Option.bind_some]
  rw [hmu]
  exact hy
theorem per_mod {v : List Int} {u p : Nat} (h : Per v u p) (c : Nat) : iter v c u = iter v (c % p) u := by
  have hmul : ∀ t, iter v (p * t) u = some u := by
    intro t
    induction t with
    | zero => rfl
    | succ t ih => rw [Nat.mul_succ, iter_add, ih]; exact h.2.1
  conv => lhs; rw [← Nat.div_add_mod c p, iter_add, hmul]
  rfl
/-- Whoever is passed from a node of a loop on lies on its ring. -/
theorem mem_ring {v : List Int} {u p y c : Nat} (h : Per v u p) (hy : iter v c u = some y) : y ∈ ringTo v u p := by
  rw [per_mod h c] at hy
  refine List.mem_map.2 ⟨c % p, List.mem_range.2 (Nat.mod_lt _ h.1), ?_⟩
  unfold at_
  rw [hy]; rfl
theorem ring_cyc {v : List Int} (hg : goodB v = true) {u p y : Nat} (hu : u < v.length) (hc : Cyc v u) (h : y ∈ ringTo v u p) : Cyc v y ∧ y < v.length := by
  obtain ⟨i, _, rfl⟩ := List.mem_map.1 h
  have := hc.all hg hu i
  exact ⟨cyc_along hc this.1, this.2⟩
theorem closed_iter {v : List Int} {S : Nat → Prop} (h : ∀ x y, S x → nxt v x = some y → S y) : ∀ {k x y : Nat}, S x → iter v k x = some y → S y
  | 0, x, y, hx, e => by simp [iter] at e; rw [← e]; exact hx
  | k + 1, x, y, hx, e => by
    simp only [iter] at e
    split at e
    · cases e
    · rename_i z hz
      exact closed_iter h (h x z hx hz) e

/-! ### the least loop -/
theorem loopOf_none {v : List Int} (hg : goodB v = true) (h : ∀ u, u < v.length → ¬ Cyc v u) : loopOf v = [] := by
  unfold loopOf
  have : (List.range v.length).find? (cycB v) = none := by
    rw [List.find?_eq_none]
    intro u hu hc
    exact h u (List.mem_range.1 hu) ((cyc_iff hg (List.mem_range.1 hu)).1 hc)
  rw [this]
theorem find_range {p : Nat → Bool} {n u : Nat} (hu : u < n) (hp : p u = true) (hl : ∀ x, x < u → p x = false) : (List.range n).find? p = some u := by
  rw [List.find?_range_eq_some]
  exact ⟨hp, List.mem_range.2 hu, fun j hj => by rw [hl j hj]; rfl⟩
theorem loopOf_some {v : List Int} (hg : goodB v = true) {u : Nat} (hu : u < v.length) (hc : Cyc v u) (hl : ∀ x, x < u → ¬ Cyc v x) : loopOf v = ringOf v u := by
  unfold loopOf
  rw [find_range hu ((cyc_iff hg hu).2 hc) (fun x hx => by
    cases h : cycB v x with
    | false => rfl
    | true => exact absurd ((cyc_iff hg (by omega)).1 h) (hl x hx))]
end Go.Proofs.YtpjoefekhgmlhaaGreat.Gr

namespace Go.Proofs.YtpjoefekhgmlhaaGreat.Gr
open Go.RowKit Mem

abbrev nats (l : List Nat) : List Int := l.map fun x : Nat => (x : Int)
theorem nats_next (v : List Int) (u i : Nat) : ints (nats (ringTo v u (i + 1))) = ints (nats (ringTo v u i)) ++ [.int .i64 ((at_ v u i : Nat) : Int)] := by
  rw [ringTo_next]; simp [ints, nats]

/-- What is handed back is new, and reads as l; nothing that was there has turned. -/
def SlicePost (w : World) (l : List Int) (e : Ending) (w' : World) : Prop := ∃ R m, e = .returned (.slice R l.length m) ∧ Lies w' R (ints l) ∧ Below w.heap.size w w'

/-- The slice is new memory, if it is any. -/
def New (w : World) (R : Option Addr) : Prop := ∀ a, R = some a → w.heap.size ≤ a.block
def SlicePostN (w : World) (l : List Int) (e : Ending) (w' : World) : Prop := ∃ R m, e = .returned (.slice R l.length m) ∧ Lies w' R (ints l) ∧ Below w.heap.size w w' ∧ New w R
theorem new_own {w wr : World} {R : Option Addr} {n c k : Nat} {xs : List Value} (h : wr.ownsRow w.heap.size 3 1 (.slice R n c) k xs) : New w R := fun a ha => by
  subst ha
  exact (h.lt a.block rfl).1

set_option maxHeartbeats 1000000 in
theorem round_anyN (A : Option Addr) (c : Nat) (v : List Int) (w : World) (hA : Lies w A (ints v)) (hl : v.length ≤ 256) (hg : goodB v = true) (u : Nat) (hu : u < v.length) (hc : Cyc v u) :
    Calls Tryz.prog 52 #[.slice A v.length c, .int .i64 (u : Int)] w (SlicePostN w (nats (ringOf v u))) := by
  obtain ⟨p, hp, hpn⟩ := hc.per hg hu
  rw [ringOf_eq hg hu hc hp hpn]
  obtain ⟨i0, hi, hz0, hz1, hz2⟩ := info_parts int_info
  have hp0 := hp.1
  have hcells : ∀ i, ∃ b off, A = some ⟨b, off, none⟩ ∧ b < w.heap.size ∧ at_ v u i < v.length ∧ w.cell? ⟨b, off + at_ v u i, none⟩ = some (.int .i64 ((at_ v u (i + 1) : Nat) : Int)) := fun i => by
    have h1 := (hc.all hg hu i).2
    obtain ⟨b, off, e, hb, hcell⟩ := hA.at_map h1
    have h2 := hc.val hg hu i
    rw [List.getElem?_eq_getElem h1] at h2
    injection h2 with h2
    rw [h2] at hcell
    exact ⟨b, off, e, hb, h1, hcell⟩
  have hne := fun i (h1 : 0 < i) (h2 : i < p) => per_ne hg hu hc hp h1 h2
  have hend := per_eq hp
  have HC := Lib.hid hcells
  have HN := Lib.hid hne
  have HE := Lib.hid hend
  have h0 : at_ v u 0 = u := rfl
  clear hp hcells hne hend hg hc
  obtain ⟨b, off, rfl, hb, h1, hcell⟩ := HC.out 0
  rw [h0] at hcell h1
  have HA0 := Lib.hid h0
  clear h0
  go_enter Tryz.func52, Tryz.ntmps52
  go_wp2_with fail
  have hown0 : (w.alloc (.cells #[.int .i64 (u : Int)] 3)).ownsRow w.heap.size 3 1 (.slice (some ⟨w.heap.size, 0, none⟩) 1 1) 1 (ints (nats (ringTo v u 1))) :=
    ⟨by simp [ringTo_len], .inr ⟨w.heap.size, 1, _, rfl, Nat.le_refl _, heap_alloc_new w _, Nat.le_refl _, by simp [maxLen], by simp, by simp [ringTo, at_, iter]⟩⟩
  go_loopg [5, 6] p (fun g s y wr => ∃ k : Nat, 0 < k ∧ k + g = p + 1 ∧ 0 < g ∧ y = .int .i64 ((at_ v u k : Nat) : Int) ∧ wr.ownsRow w.heap.size 3 1 s k (ints (nats (ringTo v u k))) ∧ Below w.heap.size w wr)
  case atStart => exact ⟨1, by omega, by omega, by omega, rfl, hown0, (Below.refl _ w).alloc (Nat.le_refl _) _⟩
  case round =>
    obtain ⟨k, hk0, hkg, hg0, rfl, hown, hbr⟩ := hrel
    have hk : k ≤ p := by omega
    obtain ⟨A5, m5, rfl, hm1, hm2⟩ := own_form hown
    by_cases hkp : k = p
    · subst hkp
      have t : (((at_ v u k : Nat) : Int) != (u : Int)) = false := by rw [HE.out]; simp
      go_wp2_with fail
      go_ret
      exact ⟨A5, m5, by simp [nats, ringTo_len], .of_own hown, hbr, new_own hown⟩
    · have hn := HN.out k hk0 (by omega)
      have t : (((at_ v u k : Nat) : Int) != (u : Int)) = true := by simp; omega
      obtain ⟨b', off', e, _, h1, hcell1⟩ := HC.out k
      injection e with e
      injection e with e1 e2
      subst e1 e2
      have hcell2 := (hbr.cell (p := ⟨b, off + at_ v u k, none⟩) hb).trans hcell1
      have hnx := nats_next v u k
      have HNX := Lib.hid hnx
      have HKP := Lib.hid hkp
      have hsz := hbr.size
      clear hnx hn hkp hcell1
      obtain ⟨y, hy⟩ : ∃ y, y = at_ v u k := ⟨_, rfl⟩
      obtain ⟨z, hz⟩ : ∃ z, z = at_ v u (k + 1) := ⟨_, rfl⟩
      rw [← hy] at hcell2 t h1 HNX ⊢
      rw [← hz] at hcell2
      have HZ := Lib.hid hz
      clear hy hz
      have hown1 := hown.alloc (.cells #[.int .i64 (y : Int)] 3)
      have hlie := Lies.new wr #[.int .i64 (y : Int)] 3
      go_wp2_with (at_builtin; refine wpList_append_lies _ rfl (.tmp 20) (.tmp 22) _ rfl w.heap.size 3 i0 _ 1 8 Tryz.underlying29 hi hz0 hz1 hz2 rfl (by omega) (.slice A5 k m5) k _ rfl hown1 (some ⟨wr.heap.size, 0, none⟩) 1 1 [.int .i64 (y : Int)] rfl rfl hlie (by intro u hu; simp at hu; subst hu; rfl) (by simp only [maxLen]; omega) (by omega) (by simp; omega) ?_; intro v2 w2 hown2 hg2 hat2; have hrow : ∀ g, (Value.slice A5 k m5).ownBlock = some g → w.heap.size ≤ g := (fun g h => (hown.lt g h).1); have hb2 : Below w.heap.size w w2 := (hbr.alloc hsz _).grown hg2 (by simp; omega) hrow; have hcell3 := (((Below.refl w.heap.size wr).alloc hsz _).grown hg2 (by simp; omega) hrow).cell (p := ⟨b, off + y, none⟩) hb; rw [hcell2] at hcell3)
      go_roundg (p - k)
      case measure => omega
      case rel => exact ⟨k + 1, by omega, by have := HKP.out; omega, by have := HKP.out; omega, by rw [HZ.out], by rw [HNX.out]; exact hown2, hb2⟩
theorem round_any (A : Option Addr) (c : Nat) (v : List Int) (w : World) (hA : Lies w A (ints v)) (hl : v.length ≤ 256) (hg : goodB v = true) (u : Nat) (hu : u < v.length) (hc : Cyc v u) :
    Calls Tryz.prog 52 #[.slice A v.length c, .int .i64 (u : Int)] w (SlicePost w (nats (ringOf v u))) :=
  (round_anyN A c v w hA hl hg u hu hc).mono fun _ _ ⟨R, m, h1, h2, h3, _⟩ => ⟨R, m, h1, h2, h3⟩


/-- The least number among some. -/
def LeastOf (l : List Int) (m : Int) : Prop := m ∈ l ∧ ∀ x ∈ l, m ≤ x
theorem least_take {l : List Int} {k : Nat} {m : Int} (h : LeastOf (l.take k) m) (hk : k < l.length) : LeastOf (l.take (k + 1)) (if l[k] < m then l[k] else m) := by
  rw [List.take_succ_eq_append_getElem hk]
  refine ⟨?_, fun x hx => ?_⟩
  · split
    · exact List.mem_append_right _ (List.mem_singleton.2 rfl)
    · exact List.mem_append_left _ h.1
  · rcases List.mem_append.1 hx with hx | hx
    · have := h.2 x hx
      split <;> omega
    · simp at hx
      subst hx
      split <;> omega
/-- The least is told, and nothing turns. -/
def MinPost (w : World) (l : List Int) (e : Ending) (w' : World) : Prop := ∃ m, e = .returned (.int .i64 m) ∧ LeastOf l m ∧ w = w'

set_option maxHeartbeats 1000000 in
theorem min_any (A : Option Addr) (c : Nat) (l : List Int) (w : World) (hA : Lies w A (ints l)) (hl : l.length ≤ 9223372036854775807) (h0 : 0 < l.length) :
    Calls Tryz.prog 51 #[.slice A l.length c] w (MinPost w l) := by
  obtain ⟨b, off, rfl, hb, hcell⟩ := hA.at_map h0
  obtain ⟨x0, hx0⟩ : ∃ x, x = l[0] := ⟨_, rfl⟩
  have hfirst : LeastOf (l.take 1) x0 := by
    rw [show (1 : Nat) = 0 + 1 by rfl, List.take_succ_eq_append_getElem h0, ← hx0]
    exact ⟨by simp, by simp⟩
  rw [← hx0, Nat.add_zero] at hcell
  have HF := Lib.hid hfirst
  clear hx0 hfirst
  have hn : 1 ≤ l.length := h0
  go_enter Tryz.func51, Tryz.ntmps51
  go_wp2
  go_loop [3, 4] (fun x i => ∃ (k : Nat) (m : Int), 1 ≤ k ∧ k ≤ l.length ∧ i = .int .i64 k ∧ x = .int .i64 m ∧ Hid (LeastOf (l.take k) m)) (fun _ i => l.length - (intOf i).toNat)
  case atStart => exact ⟨1, x0, by omega, hn, rfl, rfl, HF.out⟩
  case round =>
    obtain ⟨k, m, hk1, hk, rfl, rfl, HM⟩ := hrel
    by_cases hlt : k < l.length
    · obtain ⟨b', off', e, _, hcell1⟩ := hA.at_map hlt
      injection e with e
      injection e with e1 e2
      subst e1 e2
      have hnx := least_take HM.out hlt
      obtain ⟨y, hy⟩ : ∃ y, y = l[k] := ⟨_, rfl⟩
      rw [← hy] at hcell1 hnx
      have HN := Lib.hid hnx
      clear hnx hy
      by_cases hym : y < m
      · have hz : (if y < m then y else m) = y := if_pos hym
        have HZ := Lib.hid hz
        clear hz
        go_wp2
        refine ⟨⟨k + 1, y, by omega, by omega, by go_num, rfl, by have := HN.out; rw [HZ.out] at this; exact this⟩, by simp [intOf]; omega⟩
      · have hz : (if y < m then y else m) = m := if_neg hym
        have HZ := Lib.hid hz
        clear hz
        go_wp2
        refine ⟨⟨k + 1, m, by omega, by omega, by go_num, rfl, by have := HN.out; rw [HZ.out] at this; exact this⟩, by simp [intOf]; omega⟩
    · go_wp2
      go_ret
      refine ⟨m, rfl, ?_, rfl⟩
      have := HM.out
      rwa [List.take_of_length_le (by omega)] at this
end Go.Proofs.YtpjoefekhgmlhaaGreat.Gr

namespace Go.Proofs.YtpjoefekhgmlhaaGreat.Gr

/-- The label of a node, 0 if none. -/
def lab (ls : List Nat) (x : Nat) : Nat := ls.getD x 0
theorem lab_at {ls : List Nat} {x : Nat} (h : x < ls.length) : lab ls x = ls[x] := by simp [lab, List.getElem?_eq_getElem h]
theorem lab_lt {ls : List Nat} {x : Nat} (h : lab ls x ≠ 0) : x < ls.length := by
  rcases Nat.lt_or_ge x ls.length with h' | h'
  · exact h'
  · exact absurd (by simp [lab, List.getElem?_eq_none h']) h
theorem lab_set {ls : List Nat} {x : Nat} (h : x < ls.length) (a y : Nat) : lab (ls.set x a) y = if y = x then a else lab ls y := by
  unfold lab
  rw [List.getD_eq_getElem?_getD, List.getElem?_set, List.getD_eq_getElem?_getD]
  by_cases e : y = x
  · subst e; simp [h]
  · rw [if_neg (fun e' => e e'.symm), if_neg e]

/-- Behind k walks. -/
structure Lab (v : List Int) (ls : List Nat) (k : Nat) : Prop where
  len : ls.length = v.length
  le : ∀ x, lab ls x ≤ k
  closed : ∀ x y, lab ls x ≠ 0 → nxt v x = some y → lab ls y ≠ 0
  begun : ∀ x, x < k → lab ls x ≠ 0
/-- The least node of a loop among those that have labels, -1 if there is none. -/
def Least (v : List Int) (ls : List Nat) (m : Int) : Prop :=
  (m = -1 ∧ ∀ x, lab ls x ≠ 0 → ¬ Cyc v x) ∨ ∃ c : Nat, m = (c : Int) ∧ c < v.length ∧ Cyc v c ∧ ∀ x, lab ls x ≠ 0 → Cyc v x → c ≤ x
/-- In the midst of the walk from k: i nodes have been labelled, old labels stand. -/
structure Path (v : List Int) (ls : List Nat) (k i : Nat) (ls' : List Nat) : Prop where
  len : ls'.length = v.length
  fresh : ∀ j, j < i → ∃ y, iter v j k = some y ∧ y < v.length ∧ lab ls y = 0
  old : ∀ y, lab ls y ≠ 0 → lab ls' y = lab ls y
  new : ∀ j y, j < i → iter v j k = some y → lab ls' y = k + 1
  bare : ∀ y, lab ls y = 0 → (∀ j, j < i → iter v j k ≠ some y) → lab ls' y = 0
  inj : ∀ a b, a < i → b < i → iter v a k = iter v b k → a = b

section
variable {v : List Int} {ls ls' : List Nat} {k i x : Nat}
theorem Path.zero (h : Lab v ls k) : Path v ls k 0 ls :=
  ⟨h.len, fun _ h => absurd h (by omega), fun _ _ => rfl, fun _ _ h => absurd h (by omega), fun _ h _ => h, fun _ _ h => absurd h (by omega)⟩
theorem Path.step (h : Path v ls k i ls') (hx : iter v i k = some x) (hl : x < v.length) (h0 : lab ls' x = 0) : Path v ls k (i + 1) (ls'.set x (k + 1)) := by
  have hxl : x < ls'.length := by rw [h.len]; exact hl
  have hold : lab ls x = 0 := by
    by_cases e : lab ls x = 0
    · exact e
    · have := h.old x e; omega
  have hnot : ∀ j, j < i → iter v j k ≠ some x := fun j hj e => by have := h.new j x hj e; omega
  refine ⟨by simpa using h.len, fun j hj => ?_, fun y hy => ?_, fun j y hj e => ?_, fun y hy hn => ?_, fun a b ha hb e => ?_⟩
  · by_cases e : j = i
    · subst e; exact ⟨x, hx, hl, hold⟩
    · exact h.fresh j (by omega)
  · rw [lab_set hxl, if_neg (by rintro rfl; exact hy hold)]
    exact h.old y hy
  · rw [lab_set hxl]
    by_cases ey : y = x
    · rw [if_pos ey]
    · rw [if_neg ey]
      have : j ≠ i := by rintro rfl; rw [hx] at e; injection e with e; exact ey e.symm
      exact h.new j y (by omega) e
  · rw [lab_set hxl, if_neg (by rintro rfl; exact hn i (by omega) hx)]
    exact h.bare y hy (fun j hj => hn j (by omega))
  · by_cases ea : a = i <;> by_cases eb : b = i
    · omega
    · subst ea; rw [hx] at e; exact absurd e.symm (hnot b (by omega))
    · subst eb; rw [hx] at e; exact absurd e (hnot a (by omega))
    · exact h.inj a b (by omega) (by omega) e
theorem Path.bound (h : Path v ls k i ls') : i ≤ v.length := by
  rcases Nat.lt_or_ge v.length i with h' | h'
  · obtain ⟨a, b, hab, hb, e⟩ := pigeon (n := v.length) (m := v.length + 1) (fun j => (iter v j k).getD 0) (fun j hj => by
      obtain ⟨y, hy, hl, _⟩ := h.fresh j (by omega)
      simp only [hy, Option.getD_some]; exact hl) (by omega)
    obtain ⟨y, hy, _⟩ := h.fresh a (by omega)
    obtain ⟨z, hz, _⟩ := h.fresh b (by omega)
    simp only [hy, hz, Option.getD_some] at e
    have := h.inj a b (by omega) (by omega) (by rw [hy, hz, e])
    omega
  · exact h'
/-- Who has a label behind the walk. -/
theorem Path.cases (h : Path v ls k i ls') {y : Nat} (hy : lab ls' y ≠ 0) : lab ls y ≠ 0 ∨ ∃ j, j < i ∧ iter v j k = some y := by
  by_cases e : lab ls y = 0
  · right
    by_cases hj : ∃ j, j < i ∧ iter v j k = some y
    · exact hj
    · exact absurd (h.bare y e (fun j hji ej => hj ⟨j, hji, ej⟩)) hy
  · exact .inl e
theorem Path.labelled (h : Path v ls k i ls') {y : Nat} (hy : lab ls y ≠ 0 ∨ ∃ j, j < i ∧ iter v j k = some y) : lab ls' y ≠ 0 := by
  rcases hy with hy | ⟨j, hj, e⟩
  · rw [h.old y hy]; exact hy
  · rw [h.new j y hj e]; omega
theorem iter_succ {j y : Nat} (h : iter v j k = some y) : iter v (j + 1) k = nxt v y := by
  rw [iter_add, h]
  simp only [Option.bind_some, iter]
  cases nxt v y <;> rfl
/-- The walk has ended well: at an end, or at a node that has a label. -/
theorem Path.done (hL : Lab v ls k) (h : Path v ls k i ls') (hend : ∀ y, iter v i k = some y → lab ls' y ≠ 0) (hk : lab ls' k ≠ 0) : Lab v ls' (k + 1) := by
  refine ⟨h.len, fun y => ?_, fun y z hy hz => ?_, fun y hy => ?_⟩
  · by_cases e : lab ls y = 0
    · by_cases hj : ∃ j, j < i ∧ iter v j k = some y
      · obtain ⟨j, hj, ej⟩ := hj
        rw [h.new j y hj ej]; omega
      · rw [h.bare y e (fun j hji ej => hj ⟨j, hji, ej⟩)]; omega
    · rw [h.old y e]; have := hL.le y; omega
  · rcases h.cases hy with hy | ⟨j, hj, e⟩
    · exact h.labelled (.inl (hL.closed y z hy hz))
    · have e2 : iter v (j + 1) k = some z := (iter_succ e).trans hz
      by_cases hji : j + 1 < i
      · exact h.labelled (.inr ⟨j + 1, hji, e2⟩)
      · rw [show j + 1 = i by omega] at e2
        exact hend z e2
  · by_cases e : y = k
    · subst e; exact hk
    · exact h.labelled (.inl (hL.begun y (by omega)))
theorem Path.begun (h : Path v ls k i ls') (hi : 0 < i ∨ lab ls k ≠ 0) : lab ls' k ≠ 0 := by
  rcases hi with hi | hi
  · exact h.labelled (.inr ⟨0, hi, rfl⟩)
  · exact h.labelled (.inl hi)
/-- No new node is on a loop, if the walk ends, or comes to an old one. -/
theorem Path.no_loop (hL : Lab v ls k) (h : Path v ls k i ls') (hend : iter v i k = none ∨ ∃ x, iter v i k = some x ∧ lab ls x ≠ 0) {m : Int} (hm : Least v ls m) : Least v ls' m := by
  have hno : ∀ j y, j < i → iter v j k = some y → ¬ Cyc v y := by
    intro j y hj e hc
    have hi : iter v (j + (i - j)) k = iter v i k := by rw [show j + (i - j) = i by omega]
    rw [iter_add, e] at hi
    simp only [Option.bind_some] at hi
    rcases hend with hn | ⟨x, hx, hlx⟩
    · rw [hn] at hi
      obtain ⟨q, hq, hqy⟩ := hc
      have hmul : ∀ t, iter v (q * t) y = some y := by
        intro t
        induction t with
        | zero => rfl
        | succ t ih => rw [Nat.mul_succ, iter_add, ih]; exact hqy
      have : iter v ((i - j) + (q * (i - j) - (i - j))) y = some y := by
        have : i - j ≤ q * (i - j) := Nat.le_mul_of_pos_left _ hq
        rw [show (i - j) + (q * (i - j) - (i - j)) = q * (i - j) by omega]; exact hmul _
      rw [iter_add, hi] at this
      cases this
    · rw [hx] at hi
      obtain ⟨b, hb⟩ := cyc_back hc hi
      have := closed_iter (S := fun z => lab ls z ≠ 0) hL.closed hlx hb
      obtain ⟨y', hy', _, h0⟩ := h.fresh j hj
      rw [e] at hy'; injection hy' with hy'; subst hy'
      exact this h0
  rcases hm with ⟨rfl, hm⟩ | ⟨c, rfl, hc1, hc2, hc3⟩
  · refine .inl ⟨rfl, fun y hy => ?_⟩
    rcases h.cases hy with hy | ⟨j, hj, e⟩
    · exact hm y hy
    · exact hno j y hj e
  · refine .inr ⟨c, rfl, hc1, hc2, fun y hy hcy => ?_⟩
    rcases h.cases hy with hy | ⟨j, hj, e⟩
    · exact hc3 y hy hcy
    · exact absurd hcy (hno j y hj e)
/-- The walk has come back to its own way. -/
theorem Path.back (_h : Path v ls k i ls') {j : Nat} (hj : j < i) (hx : iter v i k = some x) (hjx : iter v j k = some x) : Cyc v x := by
  refine ⟨i - j, by omega, ?_⟩
  have : iter v (j + (i - j)) k = some x := by rw [show j + (i - j) = i by omega]; exact hx
  rw [iter_add, hjx] at this
  exact this
theorem Path.loop (hg : goodB v = true) (h : Path v ls k i ls') (hxl : x < v.length) (hc : Cyc v x) (hx : iter v i k = some x) {l m : Int}
    (hl : l ∈ (ringOf v x).map (fun y : Nat => (y : Int)) ∧ ∀ y ∈ (ringOf v x).map (fun y : Nat => (y : Int)), l ≤ y) (hm : Least v ls m) : Least v ls' (if m = -1 ∨ l < m then l else m) := by
  obtain ⟨p, hp, hpn⟩ := hc.per hg hxl
  rw [ringOf_eq hg hxl hc hp hpn] at hl
  obtain ⟨hl1, hl2⟩ := hl
  obtain ⟨c, hcm, rfl⟩ := List.mem_map.1 hl1
  obtain ⟨hcc, hcl⟩ := ring_cyc hg hxl hc hcm
  have hnew : ∀ a y, a < i → iter v a k = some y → Cyc v y → c ≤ y := by
    intro a y ha e hy
    have hi : iter v (a + (i - a)) k = some x := by rw [show a + (i - a) = i by omega]; exact hx
    rw [iter_add, e] at hi
    obtain ⟨b, hb⟩ := cyc_back hy hi
    have := hl2 (y : Int) (List.mem_map.2 ⟨y, mem_ring hp hb, rfl⟩)
    omega
  rcases hm with ⟨rfl, hm⟩ | ⟨d, rfl, hd1, hd2, hd3⟩
  · rw [if_pos (.inl rfl)]
    refine .inr ⟨c, rfl, hcl, hcc, fun y hy hcy => ?_⟩
    rcases h.cases hy with hy | ⟨a, ha, e⟩
    · exact absurd hcy (hm y hy)
    · exact hnew a y ha e hcy
  · by_cases hlt : (c : Int) < (d : Int)
    · rw [if_pos (.inr hlt)]
      refine .inr ⟨c, rfl, hcl, hcc, fun y hy hcy => ?_⟩
      rcases h.cases hy with hy | ⟨a, ha, e⟩
      · have := hd3 y hy hcy; omega
      · exact hnew a y ha e hcy
    · rw [if_neg (by omega)]
      refine .inr ⟨d, rfl, hd1, hd2, fun y hy hcy => ?_⟩
      rcases h.cases hy with hy | ⟨a, ha, e⟩
      · exact hd3 y hy hcy
      · have := hnew a y ha e hcy; omega
end
/-- Behind all walks the least node is the least of all. -/
theorem Least.all {v : List Int} {ls : List Nat} {m : Int} (hg : goodB v = true) (hL : Lab v ls v.length) (h : Least v ls m) :
    (m = -1 ∧ loopOf v = []) ∨ ∃ c : Nat, m = (c : Int) ∧ c < v.length ∧ Cyc v c ∧ loopOf v = ringOf v c := by
  rcases h with ⟨rfl, h⟩ | ⟨c, rfl, h1, h2, h3⟩
  · exact .inl ⟨rfl, loopOf_none hg fun u hu => h u (hL.begun u hu)⟩
  · exact .inr ⟨c, rfl, h1, h2, loopOf_some hg h1 h2 fun x hx hc => by have := h3 x (hL.begun x (by omega)) hc; omega⟩
end Go.Proofs.YtpjoefekhgmlhaaGreat.Gr
