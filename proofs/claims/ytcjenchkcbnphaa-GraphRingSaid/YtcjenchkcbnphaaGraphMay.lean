/- CONTRACTS: whether a vector may be (vector.May, graph.may), and its ends (graph.Sinks). Condition: the slice reads as a row of numbers. -/
import Derived.Test.YtcjenchkcbnphaaChecked
import Derived.Test.YtcjenchkcbnphaaMem
import Derived.Test.YtcjenchkcbnphaaGraphPlain
import Derived.LoopTactic
import Derived.OwnWalk
import Derived.Outline
namespace Go.Proofs.Ytcjenchkcbnphaa.Gr
open Go.RowKit Mem

abbrev ints (l : List Int) : List Value := l.map (Value.int .i64)
theorem int_info : (Try.prog.info? 3).map (fun i => (i.zero, i.size, i.bytes)) = some (some (.int .i64 0), 1, 8) := by kernel_rfl

/-- One number of a vector that may not be. -/
theorem not_good {v : List Int} (h : goodB v = false) : ∃ j, ∃ hj : j < v.length, (v[j] < -1 ∨ (v.length : Int) ≤ v[j]) ∧ ∀ i, (hi : i < j) → -1 ≤ v[i] ∧ v[i] < (v.length : Int) := by
  have : ∃ j, ∃ hj : j < v.length, (v[j] < -1 ∨ (v.length : Int) ≤ v[j]) := by
    by_cases h' : ∃ j, ∃ hj : j < v.length, (v[j] < -1 ∨ (v.length : Int) ≤ v[j])
    · exact h'
    · exfalso
      have : goodB v = true := good_iff.2 (fun x hx => by
        obtain ⟨j, hj, rfl⟩ := List.mem_iff_getElem.1 hx
        by_cases hb : v[j] < -1 ∨ (v.length : Int) ≤ v[j]
        · exact absurd ⟨j, hj, hb⟩ h'
        · omega)
      rw [h] at this; cases this
  obtain ⟨j, hj, hb⟩ := this
  induction j using Nat.strongRecOn with
  | _ j ih =>
    by_cases hs : ∃ i, ∃ hi : i < j, (v[i] < -1 ∨ (v.length : Int) ≤ v[i])
    · obtain ⟨i, hi, hbi⟩ := hs
      exact ih i hi (by omega) hbi
    · refine ⟨j, hj, hb, fun i hi => ?_⟩
      by_cases hb' : v[i] < -1 ∨ (v.length : Int) ≤ v[i]
      · exact absurd ⟨i, hi, hb'⟩ hs
      · omega

set_option maxHeartbeats 1000000 in
theorem vmay_any (A : Option Addr) (c : Nat) (v : List Int) (w : World) (hA : Lies w A (ints v)) (hl : v.length ≤ 9223372036854775807) :
    Calls Try.prog 30 #[.slice A v.length c] w fun e w' => e = .returned (.int .i64 (if goodB v then 0 else 10)) ∧ w = w' := by
  cases hg : goodB v with
  | true =>
    have hat := fun u (hu : u < v.length) => good_at hg hu
    have HAT := Lib.hid hat
    clear hat hg
    go_enter Try.func30, Try.ntmps30
    go_wp2
    go_loop [7] (fun i => ∃ j : Nat, j ≤ v.length ∧ i = .int .i64 j) (fun i => v.length - (intOf i).toNat)
    case atStart => exact ⟨0, by omega, rfl⟩
    case round =>
      obtain ⟨j, hj, rfl⟩ := hrel
      by_cases hlt : j < v.length
      · obtain ⟨b, off, rfl, hb, hcell⟩ := hA.at_map hlt
        obtain ⟨x, hx⟩ : ∃ x, x = v[j] := ⟨_, rfl⟩
        have hxb := HAT.out j hlt
        rw [← hx] at hcell hxb
        obtain ⟨hx1, hx2⟩ := hxb
        clear hx
        go_wp2
        refine ⟨⟨j + 1, by omega, by go_num⟩, by simp [intOf]; omega⟩
      · go_wp2
        go_ret
        exact ⟨rfl, rfl⟩
  | false =>
    obtain ⟨m, hm, hbad, hok⟩ := not_good hg
    have HBAD := Lib.hid hbad
    have HOK := Lib.hid hok
    clear hg hbad hok
    go_enter Try.func30, Try.ntmps30
    go_wp2
    go_loop [7] (fun i => ∃ j : Nat, j ≤ m ∧ i = .int .i64 j) (fun i => v.length - (intOf i).toNat)
    case atStart => exact ⟨0, by omega, rfl⟩
    case round =>
      obtain ⟨j, hj, rfl⟩ := hrel
      have hlt : j < v.length := by omega
      obtain ⟨b, off, rfl, hb, hcell⟩ := hA.at_map hlt
      obtain ⟨x, hx⟩ : ∃ x, x = v[j] := ⟨_, rfl⟩
      by_cases hjm : j < m
      · have hxb := HOK.out j hjm
        rw [← hx] at hcell hxb
        obtain ⟨hx1, hx2⟩ := hxb
        clear hx
        go_wp2
        refine ⟨⟨j + 1, by omega, by go_num⟩, by simp [intOf]; omega⟩
      · have ej : j = m := by omega
        subst ej
        have hxb := HBAD.out
        rw [← hx] at hcell hxb
        clear hx HBAD
        rcases hxb with hxb | hxb
        all_goals
          go_wp2
          go_ret
          exact ⟨rfl, rfl⟩

theorem may_any (A : Option Addr) (c : Nat) (v : List Int) (w : World) (hA : Lies w A (ints v)) (hl : v.length ≤ 9223372036854775807) :
    Calls Try.prog 26 #[.slice A v.length c] w fun e w' => e = .returned (.int .i64 (errno v)) ∧ w = w' := by
  by_cases h : 256 < v.length
  · have he : errno v = 12 := by unfold errno; rw [if_pos h]
    rw [he]
    go_enter Try.func26, Try.ntmps26
    go_wp2
    go_ret
    exact ⟨rfl, rfl⟩
  · have he : errno v = if goodB v then 0 else 10 := by unfold errno; rw [if_neg h]
    have hc := Lib.hid (vmay_any A c v w hA hl)
    rw [← he] at hc
    generalize errno v = en at *
    clear he
    go_enter Try.func26, Try.ntmps26
    go_wp2_with (go_at_call 30; refine (hc.out).mono ?_; rintro e w' ⟨rfl, rfl⟩)
    go_ret
    exact ⟨rfl, rfl⟩

/-! ### the ends -/
/-- The ends among the first k nodes. -/
def sinksTo (v : List Int) (k : Nat) : List Int := ((List.range k).filter fun u => (nxt v u).isNone).map fun u : Nat => (u : Int)
theorem sinksTo_hit {v : List Int} {k : Nat} (h : nxt v k = none) : sinksTo v (k + 1) = sinksTo v k ++ [(k : Int)] := by
  unfold sinksTo; rw [List.range_succ, List.filter_append, List.map_append]; simp [h]
theorem sinksTo_miss {v : List Int} {k : Nat} (h : nxt v k ≠ none) : sinksTo v (k + 1) = sinksTo v k := by
  unfold sinksTo; rw [List.range_succ, List.filter_append]
  have : (nxt v k).isNone = false := by cases hn : nxt v k with | none => exact absurd hn h | some y => rfl
  simp [this]
theorem sinksTo_len (v : List Int) (k : Nat) : (sinksTo v k).length ≤ k := by
  unfold sinksTo; rw [List.length_map]; exact Nat.le_trans (List.length_filter_le _ _) (by simp)

theorem tup_ret {A : Option Addr} {n m cap : Nat} {e : Int} (h : n = m) : Ending.returned (.tuple #[.slice A n cap, .int .i64 e]) = .returned (.tuple #[.slice A m cap, .int .i64 e]) := by rw [h]

theorem sinks_no (A : Option Addr) (c : Nat) (v : List Int) (w : World) (hA : Lies w A (ints v)) (hl : v.length ≤ 9223372036854775807) (he : errno v ≠ 0) :
    Calls Try.prog 16 #[.slice A v.length c] w fun e w' => e = .returned (.tuple #[.slice none 0 0, .int .i64 (errno v)]) ∧ w = w' := by
  have hc := Lib.hid (may_any A c v w hA hl)
  have t : (errno v != 0) = true := by simpa using he
  generalize errno v = en at *
  clear he
  go_enter Try.func16, Try.ntmps16
  go_wp2_with (go_at_call 26; refine (hc.out).mono ?_; rintro e w' ⟨rfl, rfl⟩)
  go_ret2
  exact ⟨rfl, rfl⟩

set_option maxHeartbeats 1000000 in
theorem sinks_yes (A : Option Addr) (c : Nat) (v : List Int) (w : World) (hA : Lies w A (ints v)) (he : errno v = 0) :
    Calls Try.prog 16 #[.slice A v.length c] w fun e w' => ∃ S m, e = .returned (.tuple #[.slice S (sinks v).length m, .int .i64 0]) ∧ Lies w' S (ints (sinks v)) ∧ Below w.heap.size w w' := by
  have hl : v.length ≤ 256 := by unfold errno at he; split at he <;> omega
  have hg : goodB v = true := by
    unfold errno at he
    rw [if_neg (by omega)] at he
    cases h : goodB v with
    | true => rfl
    | false => rw [h] at he; simp at he
  have hc := (may_any A c v w hA (by omega))
  rw [he] at hc
  have HC := Lib.hid hc
  have hat := fun u (hu : u < v.length) => good_at hg hu
  have HAT := Lib.hid hat
  obtain ⟨i0, hi, hz0, hz1, hz2⟩ := info_parts int_info
  clear hc he hat hg
  go_enter Try.func16, Try.ntmps16
  go_wp2_with (go_at_call 26; refine (HC.out).mono ?_; rintro e w' ⟨rfl, rfl⟩)
  go_loopw [5, 15] (fun s i wr => ∃ k : Nat, k ≤ v.length ∧ i = .int .i64 k ∧ wr.ownsRow w.heap.size 3 1 s (sinksTo v k).length (ints (sinksTo v k)) ∧ Below w.heap.size w wr) (fun _ i _ => v.length - (intOf i).toNat)
  case atStart => exact ⟨0, by omega, rfl, World.ownsRow_nil _ _ _ _, Below.refl _ _⟩
  case round =>
    obtain ⟨k, hk, rfl, hown, hbr⟩ := hrel
    have hlen := sinksTo_len v k
    obtain ⟨A5, m5, rfl, hm1, hm2⟩ := own_form hown
    by_cases hlt : k < v.length
    · obtain ⟨b, off, rfl, hb, hcell0⟩ := hA.at_map hlt
      have hcell := (hbr.cell (p := ⟨b, off + k, none⟩) hb).trans hcell0
      obtain ⟨x, hx⟩ : ∃ x, x = v[k] := ⟨_, rfl⟩
      have hxb := HAT.out k hlt
      rw [← hx] at hcell hxb
      obtain ⟨hx1, hx2⟩ := hxb
      have HX := Lib.hid hx
      clear hx hcell0
      by_cases hneg : x = -1
      · have hn : nxt v k = none := nxt_of_neg hlt (by rw [← HX.out, hneg]; decide)
        have hs := sinksTo_hit hn
        have HS := Lib.hid hs
        have t : (x == -1) = true := by simp [hneg]
        have HN := Lib.hid hneg
        have hown1 := hown.alloc (.cells #[.int .i64 (k : Int)] 3)
        have hlie := Lies.new wr #[.int .i64 (k : Int)] 3
        have hsz := hbr.size
        clear hn hs hneg
        go_wp2_with (at_builtin; refine wpList_append_lies _ rfl (.tmp 22) (.tmp 24) _ rfl w.heap.size 3 i0 _ 1 8 Try.underlying22 hi hz0 hz1 hz2 rfl (by omega) (.slice A5 (sinksTo v k).length m5) (sinksTo v k).length _ rfl hown1 (some ⟨wr.heap.size, 0, none⟩) 1 1 [.int .i64 (k : Int)] rfl rfl hlie (by intro u hu; simp at hu; subst hu; rfl) (by simp only [maxLen]; omega) (by omega) (by simp; omega) ?_; intro v2 w2 hown2 hg2 hat2)
        have hrow : ∀ g, (Value.slice A5 (sinksTo v k).length m5).ownBlock = some g → w.heap.size ≤ g := fun g h => (hown.lt g h).1
        have hb2 : Below w.heap.size w w2 := (hbr.alloc hsz _).grown hg2 (by simp; omega) hrow
        go_roundw
        case rel => exact ⟨k + 1, by omega, by go_num, by rw [HS.out, List.length_append, ints, List.map_append]; exact hown2, hb2⟩
        case measure => simp [intOf]; omega
      · have hn : nxt v k ≠ none := by rw [nxt_of_nonneg hlt (by rw [← HX.out]; omega)]; simp
        have hs := sinksTo_miss hn
        have HS := Lib.hid hs
        have t : (x == -1) = false := by simp [hneg]
        have HN := Lib.hid hneg
        clear hn hs hneg
        go_wp2_with fail
        refine ⟨⟨k + 1, by omega, by go_num, by rw [HS.out]; exact hown, hbr⟩, by simp [intOf]; omega⟩
    · have ek : k = v.length := by omega
      go_wp2_with fail
      go_ret2
      subst ek
      exact ⟨A5, m5, rfl, .of_own hown, hbr⟩
end Go.Proofs.Ytcjenchkcbnphaa.Gr
