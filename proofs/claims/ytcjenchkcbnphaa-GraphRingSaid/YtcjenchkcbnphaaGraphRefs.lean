/- CONTRACTS of the reference of layer 15: May, Sinks, Ranks. Condition: the slice reads as a row of numbers. -/
import Derived.Test.YtcjenchkcbnphaaGraphFit
namespace Go.Proofs.Ytcjenchkcbnphaa.Gr
open Go.RowKit Mem

set_option maxHeartbeats 1000000 in
theorem rvmay_any (A : Option Addr) (c : Nat) (v : List Int) (w : World) (hA : Lies w A (ints v)) (hl : v.length ≤ 9223372036854775807) :
    Calls Try.prog 29 #[.slice A v.length c] w fun e w' => e = .returned (.int .i64 (if goodB v then 0 else 10)) ∧ w = w' := by
  cases hg : goodB v with
  | true =>
    have hat := fun u (hu : u < v.length) => good_at hg hu
    have HAT := Lib.hid hat
    clear hat hg
    go_enter Try.func29, Try.ntmps29
    go_wp2
    go_loop [3] (fun i => ∃ j : Nat, j ≤ v.length ∧ i = .int .i64 j) (fun i => v.length - (intOf i).toNat)
    case atStart => exact ⟨0, by omega, rfl⟩
    case round =>
      obtain ⟨j, hj, rfl⟩ := hrel
      by_cases hlt : j < v.length
      · obtain ⟨b, off, rfl, hb, hcell⟩ := hA.at_map hlt
        obtain ⟨x, hx⟩ : ∃ x, x = v[j] := ⟨_, rfl⟩
        have hxb := HAT.out j hlt
        rw [← hx] at hcell hxb
        obtain ⟨hx1, hx2⟩ := hxb
        have c1 : decide (x < -1) = false := by rw [decide_eq_false_iff_not]; omega
        have c2 : decide ((v.length : Int) ≤ x) = false := by rw [decide_eq_false_iff_not]; omega
        have i0 : (0 : Int) ≤ (j : Int) := by omega
        have i1 : (j : Int) < (v.length : Int) := by omega
        clear hx
        go_wp2_with fail
        refine ⟨⟨j + 1, by omega, by go_num⟩, by simp [intOf]; omega⟩
      · go_wp2_with fail
        go_ret
        exact ⟨rfl, rfl⟩
  | false =>
    obtain ⟨m, hm, hbad, hok⟩ := not_good hg
    have HBAD := Lib.hid hbad
    have HOK := Lib.hid hok
    clear hg hbad hok
    go_enter Try.func29, Try.ntmps29
    go_wp2
    go_loop [3] (fun i => ∃ j : Nat, j ≤ m ∧ i = .int .i64 j) (fun i => v.length - (intOf i).toNat)
    case atStart => exact ⟨0, by omega, rfl⟩
    case round =>
      obtain ⟨j, hj, rfl⟩ := hrel
      have hlt : j < v.length := by omega
      obtain ⟨b, off, rfl, hb, hcell⟩ := hA.at_map hlt
      obtain ⟨x, hx⟩ : ∃ x, x = v[j] := ⟨_, rfl⟩
      have i0 : (0 : Int) ≤ (j : Int) := by omega
      have i1 : (j : Int) < (v.length : Int) := by omega
      by_cases hjm : j < m
      · have hxb := HOK.out j hjm
        rw [← hx] at hcell hxb
        obtain ⟨hx1, hx2⟩ := hxb
        have c1 : decide (x < -1) = false := by rw [decide_eq_false_iff_not]; omega
        have c2 : decide ((v.length : Int) ≤ x) = false := by rw [decide_eq_false_iff_not]; omega
        clear hx
        go_wp2_with fail
        refine ⟨⟨j + 1, by omega, by go_num⟩, by simp [intOf]; omega⟩
      · have ej : j = m := by omega
        subst ej
        have hxb := HBAD.out
        rw [← hx] at hcell hxb
        clear hx HBAD
        by_cases hx1 : x < -1
        · have c1 : decide (x < -1) = true := by rw [decide_eq_true_eq]; exact hx1
          clear hxb
          go_wp2_with fail
          go_ret
          exact ⟨rfl, rfl⟩
        · have c1 : decide (x < -1) = false := by rw [decide_eq_false_iff_not]; exact hx1
          have c2 : decide ((v.length : Int) ≤ x) = true := by rw [decide_eq_true_eq]; omega
          clear hxb
          go_wp2_with fail
          go_ret
          exact ⟨rfl, rfl⟩

theorem rmay_any (A : Option Addr) (c : Nat) (v : List Int) (w : World) (hA : Lies w A (ints v)) (hl : v.length ≤ 9223372036854775807) :
    Calls Try.prog 25 #[.slice A v.length c] w fun e w' => e = .returned (.int .i64 (errno v)) ∧ w = w' := by
  by_cases h : 256 < v.length
  · have he : errno v = 12 := by unfold errno; rw [if_pos h]
    rw [he]
    go_enter Try.func25, Try.ntmps25
    go_wp2
    go_ret
    exact ⟨rfl, rfl⟩
  · have he : errno v = if goodB v then 0 else 10 := by unfold errno; rw [if_neg h]
    have hc := Lib.hid (rvmay_any A c v w hA hl)
    rw [← he] at hc
    generalize errno v = en at *
    clear he
    go_enter Try.func25, Try.ntmps25
    go_wp2_with (go_at_call 29; refine (hc.out).mono ?_; rintro e w' ⟨rfl, rfl⟩)
    go_ret
    exact ⟨rfl, rfl⟩

/-! ### the ends -/
theorem lies_drew {w : World} {A : Option Addr} {xs : List Value} (h : Lies w A xs) (n : Nat) : Lies (w.drewN n) A xs := h.drewN n
set_option maxHeartbeats 1000000 in
theorem rsinks_no (A : Option Addr) (c : Nat) (v : List Int) (w : World) (hA : Lies w A (ints v)) (hl : v.length ≤ 9223372036854775807) (he : errno v ≠ 0) :
    Calls Try.prog 17 #[.slice A v.length c] w (PairPost w [] (errno v)) := by
  have hc := Lib.hid (rmay_any A c v w hA hl)
  have t : (errno v == 0) = false := by simpa using he
  generalize errno v = en at *
  clear he
  go_enter Try.func17, Try.ntmps17
  go_wp2_with (go_at_call 25; refine (hc.out).mono ?_; rintro e w' ⟨rfl, rfl⟩)
  go_loopw [5, 6] (fun s i wr => s = .slice (some ⟨w.heap.size, 0, none⟩) 0 0 ∧ i = .int .i64 0 ∧ wr = w.alloc (.cells #[] 3)) (fun _ i _ => 0)
  case atStart => exact ⟨rfl, rfl, rfl⟩
  case round =>
    obtain ⟨rfl, rfl, rfl⟩ := hrel
    by_cases h0 : 0 < v.length
    all_goals
      go_wp2_with fail
      go_ret2
      exact ⟨_, _, rfl, Lies.nil _ _, (Below.refl _ w).alloc (Nat.le_refl _) _⟩

set_option maxHeartbeats 1000000 in
theorem rsinks_yes (A : Option Addr) (c : Nat) (v : List Int) (w : World) (hA : Lies w A (ints v)) (he : errno v = 0) :
    Calls Try.prog 17 #[.slice A v.length c] w (PairPost w (sinks v) 0) := by
  obtain ⟨hl, hg⟩ := errno_zero he
  have hc := (rmay_any A c v w hA (by omega))
  rw [he] at hc
  have HC := Lib.hid hc
  have hat := fun u (hu : u < v.length) => good_at hg hu
  have HAT := Lib.hid hat
  obtain ⟨i0, hi, hz0, hz1, hz2⟩ := info_parts int_info
  clear hc he hat hg
  go_enter Try.func17, Try.ntmps17
  go_wp2_with (go_at_call 25; refine (HC.out).mono ?_; rintro e w' ⟨rfl, rfl⟩)
  have hb0 : Below w.heap.size w (w.alloc (.cells #[] 3)) := (Below.refl _ w).alloc (Nat.le_refl _) _
  go_loopw [5, 6] (fun s i wr => ∃ k : Nat, k ≤ v.length ∧ i = .int .i64 k ∧ wr.ownsRow w.heap.size 3 1 s (sinksTo v k).length (ints (sinksTo v k)) ∧ Below w.heap.size w wr) (fun _ i _ => v.length - (intOf i).toNat)
  case atStart => exact ⟨0, by omega, rfl, own_empty w, hb0⟩
  case round =>
    clear hb0
    obtain ⟨k, hk, rfl, hown, hbr⟩ := hrel
    have hlen := sinksTo_len v k
    obtain ⟨A5, m5, rfl, hm1, hm2⟩ := own_form hown
    by_cases hlt : k < v.length
    · obtain ⟨b, off, rfl, hb, hcell0⟩ := hA.at_map hlt
      have hcell := (hbr.cell (p := ⟨b, off + k, none⟩) hb).trans hcell0
      obtain ⟨x, hx⟩ : ∃ x, x = v[k] := ⟨_, rfl⟩
      have hxb := HAT.out k hlt
      rw [← hx] at hcell hxb
      obtain ⟨hx1, hx2⟩ := hxb
      have HX := Lib.hid hx
      clear hx hcell0
      by_cases hneg : x = -1
      · have hn : nxt v k = none := nxt_of_neg hlt (by rw [← HX.out, hneg]; decide)
        have hs := sinksTo_hit hn
        have HS := Lib.hid hs
        have t : (x == -1) = true := by simp [hneg]
        have HN := Lib.hid hneg
        have hown1 := hown.alloc (.cells #[.int .i64 (k : Int)] 3)
        have hlie := Lies.new wr #[.int .i64 (k : Int)] 3
        have hsz := hbr.size
        clear hn hs hneg
        go_wp2_with (at_builtin; refine wpList_append_lies _ rfl (.tmp 25) (.tmp 27) _ rfl w.heap.size 3 i0 _ 1 8 Try.underlying22 hi hz0 hz1 hz2 rfl (by omega) (.slice A5 (sinksTo v k).length m5) (sinksTo v k).length _ rfl hown1 (some ⟨wr.heap.size, 0, none⟩) 1 1 [.int .i64 (k : Int)] rfl rfl hlie (by intro u hu; simp at hu; subst hu; rfl) (by simp only [maxLen]; omega) (by omega) (by simp; omega) ?_; intro v2 w2 hown2 hg2 hat2)
        have hrow : ∀ g, (Value.slice A5 (sinksTo v k).length m5).ownBlock = some g → w.heap.size ≤ g := fun g h => (hown.lt g h).1
        have hb2 : Below w.heap.size w w2 := (hbr.alloc hsz _).grown hg2 (by simp; omega) hrow
        go_roundw
        case rel => exact ⟨k + 1, by omega, by go_num, by rw [HS.out, List.length_append, ints, List.map_append]; exact hown2, hb2⟩
        case measure => simp [intOf]; omega
      · have hn : nxt v k ≠ none := by rw [nxt_of_nonneg hlt (by rw [← HX.out]; omega)]; simp
        have hs := sinksTo_miss hn
        have HS := Lib.hid hs
        have t : (x == -1) = false := by simp [hneg]
        have HN := Lib.hid hneg
        clear hn hs hneg
        go_wp2_with fail
        refine ⟨⟨k + 1, by omega, by go_num, by rw [HS.out]; exact hown, hbr⟩, by simp [intOf]; omega⟩
    · have ek : k = v.length := by omega
      go_wp2_with fail
      go_ret2
      subst ek
      exact ⟨A5, m5, rfl, .of_own hown, hbr⟩

/-! ### the ranks -/
def ranksTo (v : List Int) (k : Nat) : List Int := (List.range k).map fun u => (rankOf v u : Int)
theorem ranksTo_next (v : List Int) (k : Nat) : ranksTo v (k + 1) = ranksTo v k ++ [(rankOf v k : Int)] := by unfold ranksTo; rw [List.range_succ, List.map_append]; rfl
theorem ranksTo_len (v : List Int) (k : Nat) : (ranksTo v k).length = k := by simp [ranksTo]
theorem ranksTo_end (v : List Int) : ranksTo v v.length = ranksL v := rfl
theorem isRank_of_iter {v : List Int} (hg : goodB v = true) : ∀ {k u y : Nat}, u < v.length → iter v k u = some y → nxt v y = none → IsRank v k u
  | 0, u, y, hu, h, hn => by
    simp [iter] at h
    subst h
    exact ⟨hu, hn⟩
  | k + 1, u, y, hu, h, hn => by
    simp only [iter] at h
    split at h
    · cases h
    · rename_i z hz
      exact ⟨z, hz, isRank_of_iter hg (nxt_lt hg hz).2 h hn⟩
theorem too_far {v : List Int} (hg : goodB v = true) {u y : Nat} (hu : u < v.length) (h : iter v (v.length + 1) u = some y) : allRanked v = false := by
  cases ha : allRanked v with
  | false => rfl
  | true =>
    obtain ⟨k, hk⟩ := (allRanked_iff hg).1 ha u hu
    have hb := hk.bound hg
    have h1 := hk.past
    have h2 : iter v (k + 1 + (v.length - k)) u = none := by rw [iter_add, h1]; rfl
    rw [show k + 1 + (v.length - k) = v.length + 1 by omega, h] at h2
    cases h2
theorem rranks_no (A : Option Addr) (c : Nat) (v : List Int) (w : World) (hA : Lies w A (ints v)) (hl : v.length ≤ 9223372036854775807) (he : errno v ≠ 0) :
    Calls Try.prog 13 #[.slice A v.length c] w (PairPost w [] (errno v)) := by
  have hc := Lib.hid (rmay_any A c v w hA hl)
  have t : (errno v != 0) = true := by simpa using he
  generalize errno v = en at *
  clear he
  go_enter Try.func13, Try.ntmps13
  go_wp2_with (go_at_call 25; refine (hc.out).mono ?_; rintro e w' ⟨rfl, rfl⟩)
  go_ret2
  exact ⟨_, _, rfl, Lies.nil _ _, Below.refl _ w⟩

set_option maxHeartbeats 2000000 in
theorem rranks_yes (A : Option Addr) (c : Nat) (v : List Int) (w : World) (hA : Lies w A (ints v)) (he : errno v = 0) :
    Calls Try.prog 13 #[.slice A v.length c] w (PairPost w (rankOut v) (rankErr v)) := by
  obtain ⟨hl, hg⟩ := errno_zero he
  have hc := (rmay_any A c v w hA (by omega))
  rw [he] at hc
  have HC := Lib.hid hc
  have HG := Lib.hid hg
  have hat := fun u (hu : u < v.length) => good_at hg hu
  have HAT := Lib.hid hat
  obtain ⟨i0, hi, hz0, hz1, hz2⟩ := info_parts int_info
  clear hc he hat hg
  go_enter Try.func13, Try.ntmps13
  go_wp2_with (go_at_call 25; refine (HC.out).mono ?_; rintro e w' ⟨rfl, rfl⟩)
  have hb0 : Below w.heap.size w (w.alloc (.cells #[] 3)) := (Below.refl _ w).alloc (Nat.le_refl _) _
  go_loopg [5, 6] v.length (fun gn s i wr => ∃ k : Nat, k + gn = v.length ∧ i = .int .i64 k ∧ (∀ u, u < k → ∃ r, IsRank v r u) ∧ wr.ownsRow w.heap.size 3 1 s k (ints (ranksTo v k)) ∧ Below w.heap.size w wr)
  case atStart => exact ⟨0, by omega, rfl, fun u h => absurd h (by omega), own_empty w, hb0⟩
  case round =>
    clear hb0
    obtain ⟨k, hk, rfl, hall, hown, hbr⟩ := hrel
    obtain ⟨A5, m5, rfl, hm1, hm2⟩ := own_form hown
    have HALL := Lib.hid hall
    have hkl : k ≤ v.length := by omega
    clear hall
    by_cases hlt : k < v.length
    · obtain ⟨wo, rfl⟩ : ∃ wo : World, wo = wr := ⟨_, rfl⟩
      go_wp2_with fail
      go_loopg [7, 8] (v.length + 1) (fun gi n x wr => ∃ (j y : Nat), j + gi = v.length + 1 ∧ j ≤ v.length ∧ n = .int .i64 (j : Int) ∧ x = .int .i64 (y : Int) ∧ y < v.length ∧ Hid (iter v j k = some y) ∧ wo = wr)
      case atStart => exact ⟨0, k, by omega, by omega, rfl, rfl, hlt, Lib.hid rfl, rfl⟩
      case round =>
        obtain ⟨j, y, hjg, hjl, rfl, rfl, hy, HIT, rfl⟩ := hrel
        obtain ⟨b, off, rfl, hb, hcell0⟩ := hA.at_map hy
        have hgy := HAT.out y hy
        obtain ⟨x, hx⟩ : ∃ x, x = v[y] := ⟨_, rfl⟩
        rw [← hx] at hcell0 hgy
        obtain ⟨hx1, hx2⟩ := hgy
        have hcell := (hbr.cell (p := ⟨b, off + y, none⟩) hb).trans hcell0
        have HX := Lib.hid hx
        clear hx hcell0
        by_cases hneg : x < 0
        · have hr : IsRank v j k := isRank_of_iter HG.out hlt HIT.out (nxt_of_neg hy (by rw [← HX.out]; exact hneg))
          have hro := rankOf_eq HG.out hr
          have hnx := ranksTo_next v k
          rw [hro] at hnx
          have HNX := Lib.hid hnx
          have HR := Lib.hid hr
          have hown1 := hown.alloc (.cells #[.int .i64 (j : Int)] 3)
          have hlie := Lies.new wo #[.int .i64 (j : Int)] 3
          have hsz := hbr.size
          have c1 : decide (0 ≤ x) = false := by rw [decide_eq_false_iff_not]; omega
          clear hr hro hnx
          go_wp2_with (at_builtin; refine wpList_append_lies _ rfl (.tmp 37) (.tmp 39) _ rfl w.heap.size 3 i0 _ 1 8 Try.underlying22 hi hz0 hz1 hz2 rfl (by omega) (.slice A5 k m5) k _ rfl hown1 (some ⟨wo.heap.size, 0, none⟩) 1 1 [.int .i64 (j : Int)] rfl rfl hlie (by intro u hu; simp at hu; subst hu; rfl) (by simp only [maxLen]; omega) (by omega) (by simp; omega) ?_; intro v2 w2 hown2 hg2 hat2)
          have hrow : ∀ g, (Value.slice A5 k m5).ownBlock = some g → w.heap.size ≤ g := fun g h => (hown.lt g h).1
          have hb2 : Below w.heap.size w w2 := (hbr.alloc hsz _).grown hg2 (by simp; omega) hrow
          go_roundg (v.length - (k + 1))
          case measure => omega
          case rel => exact ⟨k + 1, by omega, by go_num, fun u hu => by
            by_cases e : u = k
            · subst e; exact ⟨j, HR.out⟩
            · exact HALL.out u (by omega), by rw [HNX.out, ints, List.map_append]; exact hown2, hb2⟩
        · have hx0 : 0 ≤ x := by omega
          obtain ⟨z, rfl⟩ := Int.eq_ofNat_of_zero_le hx0
          have hzl : z < v.length := by omega
          have hnext : iter v (j + 1) k = some z := by
            rw [iter_succ HIT.out, nxt_of_nonneg hy (by rw [← HX.out]; omega), ← HX.out]; simp
          have HNX := Lib.hid hnext
          clear hnext
          by_cases hfar : v.length < j + 1
          · have hnx2 : iter v (v.length + 1) k = some z := by have := HNX.out; rwa [show j + 1 = v.length + 1 by omega] at this
            have hno := too_far HG.out hlt hnx2
            have HNO := Lib.hid hno
            have c1 : decide (v.length < j + 1) = true := by rw [decide_eq_true_eq]; omega
            clear hnx2 hno
            go_wp2_with fail
            go_ret2
            have e1 : rankOut v = [] := by unfold rankOut; rw [HNO.out]; rfl
            have e2 : rankErr v = 17 := by unfold rankErr; rw [HNO.out]; rfl
            rw [e1, e2]
            exact ⟨none, 0, rfl, Lies.nil _ _, hbr⟩
          · have c1 : decide (v.length < j + 1) = false := by rw [decide_eq_false_iff_not]; omega
            go_wp2_with fail
            go_roundg (v.length - j)
            case measure => omega
            case rel => exact ⟨j + 1, z, by omega, by omega, by go_num, rfl, hzl, HNX, rfl⟩
    · have ek : k = v.length := by omega
      have ha : allRanked v = true := (allRanked_iff HG.out).2 fun u hu => HALL.out u (by omega)
      have HA := Lib.hid ha
      clear ha
      go_wp2_with fail
      go_ret2
      subst ek
      have e1 : rankOut v = ranksL v := by unfold rankOut; rw [HA.out]; rfl
      have e2 : rankErr v = 0 := by unfold rankErr; rw [HA.out]; rfl
      rw [e1, e2]
      exact ⟨A5, m5, by simp [ranksL], .of_own hown, hbr⟩
end Go.Proofs.Ytcjenchkcbnphaa.Gr
