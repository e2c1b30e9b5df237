/- WALK of the law of ranks, loop and ends. Condition: the argument reads as a row of numbers. -/
import Derived.Test.YtcjenchkcbnphaaGraphRanksLawPlain
import Derived.Test.YtcjenchkcbnphaaGraphRenamed
namespace Go.Proofs.Ytcjenchkcbnphaa.Gr
open Go.RowKit Mem

set_option maxRecDepth 100000 in
set_option maxHeartbeats 4000000 in
theorem ranksLaw_walk (a0 : Option Addr) (len0 cap0 : Nat) (z0 : List Int) (w : World) (w0 : IsRow .i64 w a0 len0 cap0 z0) :
    Calls Try.prog 4 #[.slice a0 len0 cap0] w fun e w' => e = .returned (.bool true) ∧ Below w.heap.size w w' := by
  obtain ⟨v, hg, hl, _, hfit⟩ := fit_row w0
  have her := errno_good (show v.length ≤ 256 by omega) hg
  have HG := Lib.hid hg
  have HFIT := Lib.hid hfit
  have hs0 := fun S m W (hW : Lies W S (ints v)) => (show Calls Try.prog 16 #[.slice S v.length m] W (PairPost W (sinks v) 0) from sinks_yes S m v W hW her)
  have hl0 := fun S m W (hW : Lies W S (ints v)) => loop_yes S m v W hW her
  have HS0 := Lib.hid hs0
  have hsl := sinksTo_len v v.length
  rw [sinks_whole] at hsl
  cases ha : allRanked v with
  | true =>
    have h1 := fun S m W (hW : Lies W S (ints v)) => ranks_all (c := m) hW her ha
    rw [loop_empty hg ha] at hl0
    have hrl := ranks_len v
    have H1 := Lib.hid h1
    have HL0 := Lib.hid hl0
    have HA := Lib.hid ha
    clear hg hfit w0 her hs0 hl0 h1 ha
    go_enter Try.func4, Try.ntmps4
    go_wp2_with fail
    refine (shown_any _).mono ?_
    rintro e w1 ⟨rfl, hb1⟩
    go_wp2_with fail
    refine (HFIT.out _ hb1).mono ?_
    rintro e w2 ⟨S, m, rfl, hM, hb2⟩
    have hbw2 : Below w.heap.size w w2 := hb1.trans (hb2.mono hb1.size)
    have hB := hM.lies
    clear hb1 hb2 HFIT hM
    go_wp2_with fail
    refine (H1.out _ _ _ hB).mono ?_
    rintro e w3 ⟨R3, m3, rfl, hR3, hb3⟩
    go_wp2_with fail
    refine (HL0.out _ _ _ (hB.below hb3)).mono ?_
    rintro e w4 ⟨R4, m4, rfl, hR4, hb4⟩
    have hb34 := hb3.trans (hb4.mono hb3.size)
    go_wp2_with fail
    refine (HS0.out _ _ _ (hB.below hb34)).mono ?_
    rintro e w5 ⟨R5, m5, rfl, hR5, hb5⟩
    have hb35 := hb34.trans (hb5.mono hb34.size)
    have hB5 := hB.below hb35
    have hR35 := (hR3.below hb4).below hb5
    have hbe : Below w.heap.size w w5 := hbw2.trans (hb35.mono hbw2.size)
    clear hb3 hb4 hb5 hb34 hb35 hR3 hR4 H1 HL0 HS0 hbw2 hB
    go_wp2_with fail
    go_loopw [11, 12] (fun d i wr => ∃ k : Nat, k ≤ v.length ∧ i = .int .i64 k ∧ d = .int .i64 (((sinksTo v k).length : Nat) : Int) ∧ w5 = wr) (fun _ i _ => v.length - (intOf i).toNat)
    case atStart => exact ⟨0, by omega, rfl, rfl, rfl⟩
    case round =>
      obtain ⟨k, hk, rfl, rfl, rfl⟩ := hrel
      by_cases hlt : k < v.length
      · obtain ⟨b, off, rfl, hb, hcell⟩ := hB5.at_map hlt
        have hnn := fun (h : v[k] < 0) => nxt_of_neg hlt h
        have hnp := fun (h : 0 ≤ v[k]) => nxt_of_nonneg hlt h
        obtain ⟨x, hx⟩ : ∃ x, x = v[k] := ⟨_, rfl⟩
        rw [← hx] at hcell hnn hnp
        have HX := Lib.hid hx
        clear hx
        by_cases hneg : x < 0
        · have hn := hnn hneg
          obtain ⟨hsk, hse⟩ := sinks_next hlt hn
          have hh := sinksTo_hit hn
          have hlen : ((sinksTo v (k + 1)).length : Int) = ((sinksTo v k).length : Int) + 1 := by rw [hh, List.length_append]; simp
          obtain ⟨b2, off2, rfl, hb2, hcell2⟩ := hR5.at_map hsk
          rw [hse] at hcell2
          obtain ⟨d, hd⟩ : ∃ d, d = (sinksTo v k).length := ⟨_, rfl⟩
          rw [← hd] at hsk hcell2 hlen ⊢
          have t : ((k : Int) != (k : Int)) = false := by simp
          have HLEN := Lib.hid hlen
          have u1 : (d : Int) < ((sinks v).length : Int) := by omega
          clear hn hh hlen hd hse hnn hnp
          go_wp2_with fail
          refine ⟨⟨k + 1, by omega, by go_num, by rw [HLEN.out], by trivial⟩, by simp [intOf]; omega⟩
        · have hn := hnp (by omega)
          have hh := sinksTo_miss (v := v) (k := k) (by rw [hn]; simp)
          have HH := Lib.hid hh
          clear hn hh hnn hnp
          go_wp2_with fail
          refine ⟨⟨k + 1, by omega, by go_num, by rw [HH.out], by trivial⟩, by simp [intOf]; omega⟩
      · have ek : k = v.length := by omega
        subst ek
        rw [sinks_whole]
        go_wp2_with fail
        go_loopw [14] (fun i wr => ∃ k : Nat, k ≤ v.length ∧ i = .int .i64 k ∧ ∃ n, wr = w5.drewN n) (fun i _ => v.length - (intOf i).toNat)
        case atStart => exact ⟨0, by omega, rfl, 0, rfl⟩
        case round =>
          obtain ⟨k, hk, rfl, n, rfl⟩ := hrel
          by_cases hlt : k < v.length
          · obtain ⟨rl, hre⟩ : ∃ rl, rl = ranksL v := ⟨_, rfl⟩
            obtain ⟨q, hq1, hq2, hq3, hq4⟩ := ranks_facts HG.out HA.out hre hlt
            obtain ⟨b, off, rfl, hb, hcell⟩ := hB5.at_map hlt
            have hgy := good_at HG.out hlt
            obtain ⟨x, hx⟩ : ∃ x, x = v[k] := ⟨_, rfl⟩
            rw [← hx] at hcell hq3 hq4 hgy
            rw [← hre] at hR35 hrl
            have hkr : k < rl.length := by omega
            obtain ⟨b3, off3, rfl, hb3, hcell3⟩ := hR35.at_map hkr
            rw [List.getElem?_eq_getElem hkr] at hq1
            injection hq1 with hq1
            rw [hq1] at hcell3
            obtain ⟨hx1, hx2⟩ := hgy
            have HX := Lib.hid hx
            have HRE := Lib.hid hre
            have i0 : (0 : Int) ≤ (k : Int) := by omega
            have i1 : (k : Int) < (v.length : Int) := by omega
            obtain ⟨qi, hqi⟩ : ∃ qi : Int, qi = (q : Int) := ⟨_, rfl⟩
            rw [← hqi] at hcell3
            have c1 : decide (qi < 0) = false := by rw [decide_eq_false_iff_not]; omega
            have c2 : decide ((v.length : Int) ≤ qi) = false := by rw [decide_eq_false_iff_not]; omega
            by_cases hneg : x < 0
            · have hq0 := hq3 hneg
              have c3 : decide (x < 0) = true := by rw [decide_eq_true_eq]; exact hneg
              have c4 : decide (0 ≤ x) = false := by rw [decide_eq_false_iff_not]; omega
              have c5 : (qi != 0) = false := by rw [hqi, hq0]; rfl
              clear hq1 hq3 hq4 hx hre hqi hq0 hq2
              go_wp2_with fail
              go_big_quiet (fail)
              go_wp2_with fail
              refine ⟨⟨k + 1, by omega, by go_num, ?_⟩, by simp [intOf]; omega⟩
              first
                | exact ⟨_, rfl⟩
                | exact ⟨_, (World.drewN_drewN _ _ _)⟩
            · have hx0 : 0 ≤ x := by omega
              obtain ⟨j, hyl, hj1, hj2⟩ := hq4 x.toNat (by omega)
              have hyr : x.toNat < rl.length := by omega
              have hat := hR35.at_map hyr
              obtain ⟨b4, off4, e4, hb4, hcell4⟩ := hat
              injection e4 with e4
              injection e4 with e4 e5 _
              subst e4 e5
              rw [List.getElem?_eq_getElem hyr] at hj1
              injection hj1 with hj1
              rw [hj1] at hcell4
              obtain ⟨ji, hji⟩ : ∃ ji : Int, ji = (j : Int) := ⟨_, rfl⟩
              rw [← hji] at hcell4
              have e1 : IntKind.i64.wrap (ji + 1) = qi := by rw [IntWalk.i64_in _ (by omega)]; omega
              have c5 : (qi != qi) = false := by simp
              have c3 : decide (x < 0) = false := by rw [decide_eq_false_iff_not]; omega
              have c4 : decide (0 ≤ x) = true := by rw [decide_eq_true_eq]; omega
              have i3 : x < (v.length : Int) := hx2
              clear hq1 hq3 hq4 hx hre hj1 hj2 hji hqi hq2
              go_wp2_with fail
              go_big_quiet (fail)
              go_wp2_with fail
              refine ⟨⟨k + 1, by omega, by go_num, ?_⟩, by simp [intOf]; omega⟩
              first
                | exact ⟨_, rfl⟩
                | exact ⟨_, (World.drewN_drewN _ _ _)⟩
          · go_wp2_with fail
            go_ret
            exact ⟨ret_bool (by simp), below_drawn hbe _⟩
  | false =>
    have h1 := fun S m W (hW : Lies W S (ints v)) => ranks_none (c := m) hW her ha
    have hp1 := loop_full hg ha
    have hll := loop_len hg
    obtain ⟨cl, hcl⟩ : ∃ cl, cl = loopL v := ⟨_, rfl⟩
    have hfacts := fun i h => loop_facts hg hcl (i := i) h
    rw [← hcl] at hl0 hp1 hll
    have H1 := Lib.hid h1
    have HL0 := Lib.hid hl0
    have HF := Lib.hid hfacts
    clear hg hfit w0 her hs0 hl0 h1 ha hcl hfacts
    go_enter Try.func4, Try.ntmps4
    go_wp2_with fail
    refine (shown_any _).mono ?_
    rintro e w1 ⟨rfl, hb1⟩
    go_wp2_with fail
    refine (HFIT.out _ hb1).mono ?_
    rintro e w2 ⟨S, m, rfl, hM, hb2⟩
    have hbw2 : Below w.heap.size w w2 := hb1.trans (hb2.mono hb1.size)
    have hB := hM.lies
    clear hb1 hb2 HFIT hM
    go_wp2_with fail
    refine (H1.out _ _ _ hB).mono ?_
    rintro e w3 ⟨rfl, hb3⟩
    go_wp2_with fail
    refine (HL0.out _ _ _ (hB.below hb3)).mono ?_
    rintro e w4 ⟨R4, m4, rfl, hR4, hb4⟩
    have hb34 := hb3.trans (hb4.mono hb3.size)
    go_wp2_with fail
    refine (HS0.out _ _ _ (hB.below hb34)).mono ?_
    rintro e w5 ⟨R5, m5, rfl, hR5, hb5⟩
    have hb35 := hb34.trans (hb5.mono hb34.size)
    have hB5 := hB.below hb35
    have hR45 := hR4.below hb5
    have hbe : Below w.heap.size w w5 := hbw2.trans (hb35.mono hbw2.size)
    clear hb3 hb4 hb5 hb34 hb35 hR4 H1 HL0 HS0 hbw2 hB
    go_wp2_with fail
    go_loopw [11, 12] (fun d i wr => ∃ k : Nat, k ≤ v.length ∧ i = .int .i64 k ∧ d = .int .i64 (((sinksTo v k).length : Nat) : Int) ∧ w5 = wr) (fun _ i _ => v.length - (intOf i).toNat)
    case atStart => exact ⟨0, by omega, rfl, rfl, rfl⟩
    case round =>
      obtain ⟨k, hk, rfl, rfl, rfl⟩ := hrel
      by_cases hlt : k < v.length
      · obtain ⟨b, off, rfl, hb, hcell⟩ := hB5.at_map hlt
        have hnn := fun (h : v[k] < 0) => nxt_of_neg hlt h
        have hnp := fun (h : 0 ≤ v[k]) => nxt_of_nonneg hlt h
        obtain ⟨x, hx⟩ : ∃ x, x = v[k] := ⟨_, rfl⟩
        rw [← hx] at hcell hnn hnp
        have HX := Lib.hid hx
        clear hx
        by_cases hneg : x < 0
        · have hn := hnn hneg
          obtain ⟨hsk, hse⟩ := sinks_next hlt hn
          have hh := sinksTo_hit hn
          have hlen : ((sinksTo v (k + 1)).length : Int) = ((sinksTo v k).length : Int) + 1 := by rw [hh, List.length_append]; simp
          obtain ⟨b2, off2, rfl, hb2, hcell2⟩ := hR5.at_map hsk
          rw [hse] at hcell2
          obtain ⟨d, hd⟩ : ∃ d, d = (sinksTo v k).length := ⟨_, rfl⟩
          rw [← hd] at hsk hcell2 hlen ⊢
          have t : ((k : Int) != (k : Int)) = false := by simp
          have HLEN := Lib.hid hlen
          have u1 : (d : Int) < ((sinks v).length : Int) := by omega
          clear hn hh hlen hd hse hnn hnp
          go_wp2_with fail
          refine ⟨⟨k + 1, by omega, by go_num, by rw [HLEN.out], by trivial⟩, by simp [intOf]; omega⟩
        · have hn := hnp (by omega)
          have hh := sinksTo_miss (v := v) (k := k) (by rw [hn]; simp)
          have HH := Lib.hid hh
          clear hn hh hnn hnp
          go_wp2_with fail
          refine ⟨⟨k + 1, by omega, by go_num, by rw [HH.out], by trivial⟩, by simp [intOf]; omega⟩
      · have ek : k = v.length := by omega
        subst ek
        rw [sinks_whole]
        go_wp2_with fail
        go_loopw [13] (fun i wr => ∃ k : Nat, k ≤ cl.length ∧ i = .int .i64 k ∧ ∃ n, wr = w5.drewN n) (fun i _ => cl.length - (intOf i).toNat)
        case atStart => exact ⟨0, by omega, rfl, 0, rfl⟩
        case round =>
          obtain ⟨k, hk, rfl, n, rfl⟩ := hrel
          by_cases hlt : k < cl.length
          · obtain ⟨x, y, z, hx, ⟨hxv, hvy⟩, hm, hmy, hz, hzx⟩ := HF.out k hlt
            obtain ⟨b, off, rfl, hb, hcell⟩ := hR45.at_map hlt
            rw [hx] at hcell
            obtain ⟨b2, off2, e2, hb2, hcell2⟩ := hR45.at_map hm
            injection e2 with e2
            injection e2 with e2 e3 _
            subst e2 e3
            rw [List.getElem?_eq_getElem hm] at hmy
            injection hmy with hmy
            rw [hmy] at hcell2
            obtain ⟨b4, off4, e4, hb4, hcell4⟩ := hR45.at_map hp1
            injection e4 with e4
            injection e4 with e4 e5 _
            subst e4 e5
            rw [List.getElem?_eq_getElem hp1] at hz
            injection hz with hz
            rw [hz] at hcell4
            obtain ⟨b3, off3, rfl, hb3, hcell3⟩ := hB5.at_map hxv
            rw [hvy] at hcell3
            obtain ⟨ki, hki⟩ : ∃ ki : Int, ki = (k : Int) := ⟨_, rfl⟩
            obtain ⟨xi, hxi⟩ : ∃ xi : Int, xi = (x : Int) := ⟨_, rfl⟩
            obtain ⟨yi, hyi⟩ : ∃ yi : Int, yi = (y : Int) := ⟨_, rfl⟩
            obtain ⟨zi, hzi⟩ : ∃ zi : Int, zi = (z : Int) := ⟨_, rfl⟩
            obtain ⟨mi, hmi⟩ : ∃ mi : Int, mi = (((k + 1) % cl.length : Nat) : Int) := ⟨_, rfl⟩
            have tk : k = ki.toNat := by omega
            have tx : x = xi.toNat := by omega
            have tm : (k + 1) % cl.length = mi.toNat := by omega
            rw [tk, ← hxi] at hcell
            rw [tm, ← hyi] at hcell2
            rw [← hzi, Nat.add_zero] at hcell4
            rw [tx, ← hyi] at hcell3
            rw [← hki]
            have c1 : decide (xi < 0) = false := by rw [decide_eq_false_iff_not]; omega
            have c2 : decide ((v.length : Int) ≤ xi) = false := by rw [decide_eq_false_iff_not]; omega
            have e1 : IntKind.i64.wrap (ki + 1) = ki + 1 := IntWalk.i64_in _ (by omega)
            have e2 : (ki + 1).tmod (cl.length : Int) = mi := by rw [hki, hmi, Int.tmod_eq_emod_of_nonneg (by omega)]; rfl
            have e3 : (ki + 1) % (cl.length : Int) = mi := by rw [hki, hmi]; rfl
            have c3 : (yi != yi) = false := by simp
            have i0 : 0 ≤ ki := by omega
            have i1 : ki < (cl.length : Int) := by omega
            have i2 : 0 ≤ xi := by omega
            have i3 : xi < (v.length : Int) := by omega
            have i4 : 0 ≤ mi := by omega
            have i5 : mi < (cl.length : Int) := by omega
            have i6 : (0 : Int) < (cl.length : Int) := by omega
            have HKI := Lib.hid hki
            by_cases hk0 : 0 < k
            · have c4 : decide (0 < ki) = true := by rw [decide_eq_true_eq]; omega
              have c5 : decide (xi ≤ zi) = false := by have := hzx hk0; rw [decide_eq_false_iff_not]; omega
              clear hki hxi hyi hzi hmi tk tx tm hzx hx hvy hmy hz hxv hm
              go_wp2_with fail
              go_big_quiet (fail)
              go_wp2_with fail
              refine ⟨⟨k + 1, by omega, by rw [HKI.out]; go_num, ?_⟩, by rw [HKI.out]; simp [intOf]; omega⟩
              first
                | exact ⟨_, rfl⟩
                | exact ⟨_, (World.drewN_drewN _ _ _)⟩
            · have c4 : decide (0 < ki) = false := by rw [decide_eq_false_iff_not]; omega
              clear hki hxi hyi hzi hmi tk tx tm hzx hx hvy hmy hz hxv hm
              go_wp2_with fail
              go_big_quiet (fail)
              go_wp2_with fail
              refine ⟨⟨k + 1, by omega, by rw [HKI.out]; go_num, ?_⟩, by rw [HKI.out]; simp [intOf]; omega⟩
              first
                | exact ⟨_, rfl⟩
                | exact ⟨_, (World.drewN_drewN _ _ _)⟩
          · go_wp2_with fail
            go_ret
            exact ⟨ret_bool (by simp), below_drawn hbe _⟩
end Go.Proofs.Ytcjenchkcbnphaa.Gr
