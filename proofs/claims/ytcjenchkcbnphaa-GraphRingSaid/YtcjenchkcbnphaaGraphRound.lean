/- CONTRACTS: the nodes of a loop from one of them on (graph.round); the least of some numbers (slices.Min). Conditions: the vector may be, has 256 numbers at most, and the node is on a loop; there is a number. -/
import Derived.Test.YtcjenchkcbnphaaGraphMay
import Derived.Test.YtcjenchkcbnphaaGraphRing
import Derived.Deep.LoopGhost
namespace Go.Proofs.Ytcjenchkcbnphaa.Gr
open Go.RowKit Mem

abbrev nats (l : List Nat) : List Int := l.map fun x : Nat => (x : Int)
theorem nats_next (v : List Int) (u i : Nat) : ints (nats (ringTo v u (i + 1))) = ints (nats (ringTo v u i)) ++ [.int .i64 ((at_ v u i : Nat) : Int)] := by
  rw [ringTo_next]; simp [ints, nats]

/-- What is handed back is new, and reads as l; nothing that was there has turned. -/
def SlicePost (w : World) (l : List Int) (e : Ending) (w' : World) : Prop := ∃ R m, e = .returned (.slice R l.length m) ∧ Lies w' R (ints l) ∧ Below w.heap.size w w'

/-- The slice is new memory, if it is any. -/
def New (w : World) (R : Option Addr) : Prop := ∀ a, R = some a → w.heap.size ≤ a.block
def SlicePostN (w : World) (l : List Int) (e : Ending) (w' : World) : Prop := ∃ R m, e = .returned (.slice R l.length m) ∧ Lies w' R (ints l) ∧ Below w.heap.size w w' ∧ New w R
theorem new_own {w wr : World} {R : Option Addr} {n c k : Nat} {xs : List Value} (h : wr.ownsRow w.heap.size 3 1 (.slice R n c) k xs) : New w R := fun a ha => by
  subst ha
  exact (h.lt a.block rfl).1

set_option maxHeartbeats 1000000 in
theorem round_anyN (A : Option Addr) (c : Nat) (v : List Int) (w : World) (hA : Lies w A (ints v)) (hl : v.length ≤ 256) (hg : goodB v = true) (u : Nat) (hu : u < v.length) (hc : Cyc v u) :
    Calls Try.prog 28 #[.slice A v.length c, .int .i64 (u : Int)] w (SlicePostN w (nats (ringOf v u))) := by
  obtain ⟨p, hp, hpn⟩ := hc.per hg hu
  rw [ringOf_eq hg hu hc hp hpn]
  obtain ⟨i0, hi, hz0, hz1, hz2⟩ := info_parts int_info
  have hp0 := hp.1
  have hcells : ∀ i, ∃ b off, A = some ⟨b, off, none⟩ ∧ b < w.heap.size ∧ at_ v u i < v.length ∧ w.cell? ⟨b, off + at_ v u i, none⟩ = some (.int .i64 ((at_ v u (i + 1) : Nat) : Int)) := fun i => by
    have h1 := (hc.all hg hu i).2
    obtain ⟨b, off, e, hb, hcell⟩ := hA.at_map h1
    have h2 := hc.val hg hu i
    rw [List.getElem?_eq_getElem h1] at h2
    injection h2 with h2
    rw [h2] at hcell
    exact ⟨b, off, e, hb, h1, hcell⟩
  have hne := fun i (h1 : 0 < i) (h2 : i < p) => per_ne hg hu hc hp h1 h2
  have hend := per_eq hp
  have HC := Lib.hid hcells
  have HN := Lib.hid hne
  have HE := Lib.hid hend
  have h0 : at_ v u 0 = u := rfl
  clear hp hcells hne hend hg hc
  obtain ⟨b, off, rfl, hb, h1, hcell⟩ := HC.out 0
  rw [h0] at hcell h1
  have HA0 := Lib.hid h0
  clear h0
  go_enter Try.func28, Try.ntmps28
  go_wp2_with fail
  have hown0 : (w.alloc (.cells #[.int .i64 (u : Int)] 3)).ownsRow w.heap.size 3 1 (.slice (some ⟨w.heap.size, 0, none⟩) 1 1) 1 (ints (nats (ringTo v u 1))) :=
    ⟨by simp [ringTo_len], .inr ⟨w.heap.size, 1, _, rfl, Nat.le_refl _, heap_alloc_new w _, Nat.le_refl _, by simp [maxLen], by simp, by simp [ringTo, at_, iter]⟩⟩
  go_loopg [5, 6] p (fun g s y wr => ∃ k : Nat, 0 < k ∧ k + g = p + 1 ∧ 0 < g ∧ y = .int .i64 ((at_ v u k : Nat) : Int) ∧ wr.ownsRow w.heap.size 3 1 s k (ints (nats (ringTo v u k))) ∧ Below w.heap.size w wr)
  case atStart => exact ⟨1, by omega, by omega, by omega, rfl, hown0, (Below.refl _ w).alloc (Nat.le_refl _) _⟩
  case round =>
    obtain ⟨k, hk0, hkg, hg0, rfl, hown, hbr⟩ := hrel
    have hk : k ≤ p := by omega
    obtain ⟨A5, m5, rfl, hm1, hm2⟩ := own_form hown
    by_cases hkp : k = p
    · subst hkp
      have t : (((at_ v u k : Nat) : Int) != (u : Int)) = false := by rw [HE.out]; simp
      go_wp2_with fail
      go_ret
      exact ⟨A5, m5, by simp [nats, ringTo_len], .of_own hown, hbr, new_own hown⟩
    · have hn := HN.out k hk0 (by omega)
      have t : (((at_ v u k : Nat) : Int) != (u : Int)) = true := by simp; omega
      obtain ⟨b', off', e, _, h1, hcell1⟩ := HC.out k
      injection e with e
      injection e with e1 e2
      subst e1 e2
      have hcell2 := (hbr.cell (p := ⟨b, off + at_ v u k, none⟩) hb).trans hcell1
      have hnx := nats_next v u k
      have HNX := Lib.hid hnx
      have HKP := Lib.hid hkp
      have hsz := hbr.size
      clear hnx hn hkp hcell1
      obtain ⟨y, hy⟩ : ∃ y, y = at_ v u k := ⟨_, rfl⟩
      obtain ⟨z, hz⟩ : ∃ z, z = at_ v u (k + 1) := ⟨_, rfl⟩
      rw [← hy] at hcell2 t h1 HNX ⊢
      rw [← hz] at hcell2
      have HZ := Lib.hid hz
      clear hy hz
      have hown1 := hown.alloc (.cells #[.int .i64 (y : Int)] 3)
      have hlie := Lies.new wr #[.int .i64 (y : Int)] 3
      go_wp2_with (at_builtin; refine wpList_append_lies _ rfl (.tmp 20) (.tmp 22) _ rfl w.heap.size 3 i0 _ 1 8 Try.underlying22 hi hz0 hz1 hz2 rfl (by omega) (.slice A5 k m5) k _ rfl hown1 (some ⟨wr.heap.size, 0, none⟩) 1 1 [.int .i64 (y : Int)] rfl rfl hlie (by intro u hu; simp at hu; subst hu; rfl) (by simp only [maxLen]; omega) (by omega) (by simp; omega) ?_; intro v2 w2 hown2 hg2 hat2; have hrow : ∀ g, (Value.slice A5 k m5).ownBlock = some g → w.heap.size ≤ g := (fun g h => (hown.lt g h).1); have hb2 : Below w.heap.size w w2 := (hbr.alloc hsz _).grown hg2 (by simp; omega) hrow; have hcell3 := (((Below.refl w.heap.size wr).alloc hsz _).grown hg2 (by simp; omega) hrow).cell (p := ⟨b, off + y, none⟩) hb; rw [hcell2] at hcell3)
      go_roundg (p - k)
      case measure => omega
      case rel => exact ⟨k + 1, by omega, by have := HKP.out; omega, by have := HKP.out; omega, by rw [HZ.out], by rw [HNX.out]; exact hown2, hb2⟩
theorem round_any (A : Option Addr) (c : Nat) (v : List Int) (w : World) (hA : Lies w A (ints v)) (hl : v.length ≤ 256) (hg : goodB v = true) (u : Nat) (hu : u < v.length) (hc : Cyc v u) :
    Calls Try.prog 28 #[.slice A v.length c, .int .i64 (u : Int)] w (SlicePost w (nats (ringOf v u))) :=
  (round_anyN A c v w hA hl hg u hu hc).mono fun _ _ ⟨R, m, h1, h2, h3, _⟩ => ⟨R, m, h1, h2, h3⟩


/-- The least number among some. -/
def LeastOf (l : List Int) (m : Int) : Prop := m ∈ l ∧ ∀ x ∈ l, m ≤ x
theorem least_take {l : List Int} {k : Nat} {m : Int} (h : LeastOf (l.take k) m) (hk : k < l.length) : LeastOf (l.take (k + 1)) (if l[k] < m then l[k] else m) := by
  rw [List.take_succ_eq_append_getElem hk]
  refine ⟨?_, fun x hx => ?_⟩
  · split
    · exact List.mem_append_right _ (List.mem_singleton.2 rfl)
    · exact List.mem_append_left _ h.1
  · rcases List.mem_append.1 hx with hx | hx
    · have := h.2 x hx
      split <;> omega
    · simp at hx
      subst hx
      split <;> omega
/-- The least is told, and nothing turns. -/
def MinPost (w : World) (l : List Int) (e : Ending) (w' : World) : Prop := ∃ m, e = .returned (.int .i64 m) ∧ LeastOf l m ∧ w = w'

set_option maxHeartbeats 1000000 in
theorem min_any (A : Option Addr) (c : Nat) (l : List Int) (w : World) (hA : Lies w A (ints l)) (hl : l.length ≤ 9223372036854775807) (h0 : 0 < l.length) :
    Calls Try.prog 27 #[.slice A l.length c] w (MinPost w l) := by
  obtain ⟨b, off, rfl, hb, hcell⟩ := hA.at_map h0
  obtain ⟨x0, hx0⟩ : ∃ x, x = l[0] := ⟨_, rfl⟩
  have hfirst : LeastOf (l.take 1) x0 := by
    rw [show (1 : Nat) = 0 + 1 by rfl, List.take_succ_eq_append_getElem h0, ← hx0]
    exact ⟨by simp, by simp⟩
  rw [← hx0, Nat.add_zero] at hcell
  have HF := Lib.hid hfirst
  clear hx0 hfirst
  have hn : 1 ≤ l.length := h0
  go_enter Try.func27, Try.ntmps27
  go_wp2
  go_loop [3, 4] (fun x i => ∃ (k : Nat) (m : Int), 1 ≤ k ∧ k ≤ l.length ∧ i = .int .i64 k ∧ x = .int .i64 m ∧ Hid (LeastOf (l.take k) m)) (fun _ i => l.length - (intOf i).toNat)
  case atStart => exact ⟨1, x0, by omega, hn, rfl, rfl, HF.out⟩
  case round =>
    obtain ⟨k, m, hk1, hk, rfl, rfl, HM⟩ := hrel
    by_cases hlt : k < l.length
    · obtain ⟨b', off', e, _, hcell1⟩ := hA.at_map hlt
      injection e with e
      injection e with e1 e2
      subst e1 e2
      have hnx := least_take HM.out hlt
      obtain ⟨y, hy⟩ : ∃ y, y = l[k] := ⟨_, rfl⟩
      rw [← hy] at hcell1 hnx
      have HN := Lib.hid hnx
      clear hnx hy
      by_cases hym : y < m
      · have hz : (if y < m then y else m) = y := if_pos hym
        have HZ := Lib.hid hz
        clear hz
        go_wp2
        refine ⟨⟨k + 1, y, by omega, by omega, by go_num, rfl, by have := HN.out; rw [HZ.out] at this; exact this⟩, by simp [intOf]; omega⟩
      · have hz : (if y < m then y else m) = m := if_neg hym
        have HZ := Lib.hid hz
        clear hz
        go_wp2
        refine ⟨⟨k + 1, m, by omega, by omega, by go_num, rfl, by have := HN.out; rw [HZ.out] at this; exact this⟩, by simp [intOf]; omega⟩
    · go_wp2
      go_ret
      refine ⟨m, rfl, ?_, rfl⟩
      have := HM.out
      rwa [List.take_of_length_le (by omega)] at this
end Go.Proofs.Ytcjenchkcbnphaa.Gr
