/- WALK of the law that ranks, loop and ends are as the document says. Condition: the argument reads as a row of numbers. -/
import Derived.Test.YtcjenchkcbnphaaGraphRefLoop
import Derived.Test.YtcjenchkcbnphaaGraphRanksLawPlain
import Derived.Test.YtcjenchkcbnphaaGraphRenamed
namespace Go.Proofs.Ytcjenchkcbnphaa.Gr
open Go.RowKit Mem

/-- Two functions that tell alike of a slice that reads as v. -/
def Alike (f g : Nat) (v : List Int) : Prop := ∃ (l : List Int) (en : Int), l.length ≤ 256 ∧
  (∀ (A : Option Addr) (c : Nat) (w : World), Lies w A (ints v) → Calls Try.prog f #[.slice A v.length c] w (PairPost w l en)) ∧
  (∀ (A : Option Addr) (c : Nat) (w : World), Lies w A (ints v) → Calls Try.prog g #[.slice A v.length c] w (PairPost w l en))
theorem alike_ranks {v : List Int} (hl : v.length ≤ 256) : Alike 12 13 v := by
  by_cases he : errno v = 0
  · refine ⟨rankOut v, rankErr v, ?_, fun A c w hA => ranks_both hA he, fun A c w hA => rranks_yes A c v w hA he⟩
    unfold rankOut
    split
    · rw [ranks_len]; exact hl
    · simp
  · exact ⟨[], errno v, by simp, fun A c w hA => (ranks_no A c v w hA (by omega) he).mono fun e w' ⟨h1, h2⟩ => ⟨none, 0, h1, Lies.nil _ _, by rw [← h2]; exact Below.refl _ _⟩, fun A c w hA => rranks_no A c v w hA (by omega) he⟩
theorem alike_loop {v : List Int} (hl : v.length ≤ 256) : Alike 14 15 v := by
  by_cases he : errno v = 0
  · exact ⟨loopL v, 0, Nat.le_trans (loop_len (errno_zero he).2) hl, fun A c w hA => loop_yes A c v w hA he, fun A c w hA => rloop_yes A c v w hA he⟩
  · exact ⟨[], errno v, by simp, fun A c w hA => (loop_no A c v w hA (by omega) he).mono fun e w' ⟨h1, h2⟩ => ⟨none, 0, h1, Lies.nil _ _, by rw [← h2]; exact Below.refl _ _⟩, fun A c w hA => rloop_no A c v w hA (by omega) he⟩
theorem alike_sinks {v : List Int} (hl : v.length ≤ 256) : Alike 16 17 v := by
  by_cases he : errno v = 0
  · have h := sinksTo_len v v.length
    rw [sinks_whole] at h
    exact ⟨sinks v, 0, Nat.le_trans h hl, fun A c w hA => sinks_yes A c v w hA he, fun A c w hA => rsinks_yes A c v w hA he⟩
  · exact ⟨[], errno v, by simp, fun A c w hA => (sinks_no A c v w hA (by omega) he).mono fun e w' ⟨h1, h2⟩ => ⟨none, 0, h1, Lies.nil _ _, by rw [← h2]; exact Below.refl _ _⟩, fun A c w hA => rsinks_no A c v w hA (by omega) he⟩
theorem row_same (A B : Option Addr) (c d : Nat) (xs : List Int) (w : World) (hA : Lies w A (ints xs)) (hB : Lies w B (ints xs)) (hx : xs.length ≤ 9223372036854775807) :
    Calls Try.prog 18 #[.slice A xs.length c, .slice B xs.length d] w fun e w' => e = .returned (.bool true) ∧ ∃ n, w' = w.drewN n :=
  (row_any A B c d xs xs w hA hB hx hx).mono fun e w' ⟨h1, h2⟩ => ⟨by rw [h1]; simp, h2⟩

set_option maxRecDepth 100000 in
set_option maxHeartbeats 2000000 in
theorem all_walk (a0 : Option Addr) (len0 cap0 : Nat) (z0 : List Int) (w : World) (w0 : IsRow .i64 w a0 len0 cap0 z0) :
    Calls Try.prog 3 #[.slice a0 len0 cap0] w fun e w' => e = .returned (.bool true) ∧ Below w.heap.size w w' := by
  obtain ⟨v, hg, hl, _, hfit⟩ := fit_row w0
  have HFIT := Lib.hid hfit
  obtain ⟨l, rfl, hlc, hcap, hL, hwf⟩ := ints_of_row w0
  have hl2 := hL.take_map 30
  have hlt : (l.take 30).length = min l.length 30 := by simp; omega
  obtain ⟨v0, hv0⟩ : ∃ v0, v0 = l.take 30 := ⟨_, rfl⟩
  rw [← hv0] at hl2 hlt
  have hsh := fun W => short_any a0 l.length cap0 v0.length hlc hcap hlt W
  have hv30 : v0.length ≤ 30 := by omega
  have HSH := Lib.hid hsh
  clear hsh hv0 hlt hwf hL w0 hfit hg
  go_enter Try.func3, Try.ntmps3
  go_wp2_with fail
  refine (shown_any _).mono ?_
  rintro e w1 ⟨rfl, hb1⟩
  go_wp2_with fail
  refine (HSH.out _).mono ?_
  rintro e w2 ⟨rfl, rfl⟩
  have hlv := hl2.below hb1
  clear HSH hl2
  go_wp2_with fail
  go_loopw [4, 5] (fun s i wr => ∃ (k m : Nat) (S : Option Addr) (x : List Int), k ≤ 2 ∧ i = .int .i64 (k : Int) ∧ s = .slice S x.length m ∧ x.length ≤ 30 ∧ Lies wr S (ints x) ∧ Below w.heap.size w wr) (fun _ i _ => 2 - (intOf i).toNat)
  case atStart => exact ⟨0, cap0, a0, v0, by omega, rfl, rfl, hv30, hlv, hb1⟩
  case round =>
    clear hlv hb1 hv30
    obtain ⟨k, m, S, x, hk, rfl, rfl, hx, hA, hbr⟩ := hrel
    by_cases hlt : k < 2
    · obtain ⟨rl, re, hrl, hr1, hr2⟩ := alike_ranks (v := x) (by omega)
      obtain ⟨ll, le, hll, hl1, hl2⟩ := alike_loop (v := x) (by omega)
      obtain ⟨sl, se, hsl, hs1, hs2⟩ := alike_sinks (v := x) (by omega)
      have HR1 := Lib.hid hr1
      have HR2 := Lib.hid hr2
      have HL1 := Lib.hid hl1
      have HL2 := Lib.hid hl2
      have HS1 := Lib.hid hs1
      have HS2 := Lib.hid hs2
      clear hr1 hr2 hl1 hl2 hs1 hs2
      go_wp2_with fail
      refine (HR1.out _ _ _ hA).mono ?_
      rintro e w2 ⟨R1, m1, rfl, hR1, hb2⟩
      go_wp2_with fail
      refine (HR2.out _ _ _ (hA.below hb2)).mono ?_
      rintro e w3 ⟨R2, m2, rfl, hR2, hb3⟩
      have hb13 := hb2.trans (hb3.mono hb2.size)
      have q1 := hR1.below hb3
      go_wp2_with fail
      refine (HL1.out _ _ _ (hA.below hb13)).mono ?_
      rintro e w4 ⟨L1, m3, rfl, hL1, hb4⟩
      have hb14 := hb13.trans (hb4.mono hb13.size)
      have q2 := q1.below hb4
      have p2 := hR2.below hb4
      go_wp2_with fail
      refine (HL2.out _ _ _ (hA.below hb14)).mono ?_
      rintro e w5 ⟨L2, m4, rfl, hL2, hb5⟩
      have hb15 := hb14.trans (hb5.mono hb14.size)
      have q3 := q2.below hb5
      have p3 := p2.below hb5
      have r3 := hL1.below hb5
      go_wp2_with fail
      refine (HS1.out _ _ _ (hA.below hb15)).mono ?_
      rintro e w6 ⟨S1, m5, rfl, hS1, hb6⟩
      have hb16 := hb15.trans (hb6.mono hb15.size)
      have q4 := q3.below hb6
      have p4 := p3.below hb6
      have r4 := r3.below hb6
      have s4 := hL2.below hb6
      go_wp2_with fail
      refine (HS2.out _ _ _ (hA.below hb16)).mono ?_
      rintro e w7 ⟨S2, m6, rfl, hS2, hb7⟩
      have hb17 := hb16.trans (hb7.mono hb16.size)
      have q5 := q4.below hb7
      have p5 := p4.below hb7
      have r5 := r4.below hb7
      have s5 := s4.below hb7
      have t5 := hS1.below hb7
      have hbw := hbr.trans (hb17.mono hbr.size)
      clear hb2 hb3 hb4 hb5 hb6 hb7 hb13 hb14 hb15 hb16 hb17 hR1 hR2 hL1 hL2 hS1 q1 q2 q3 q4 p2 p3 p4 r3 r4 s4 hA hbr HR1 HR2 HL1 HL2 HS1 HS2
      have c1 : (re != re) = false := by simp
      have c2 : (le != le) = false := by simp
      have c3 : (se != se) = false := by simp
      go_wp2_with fail
      refine (row_same _ _ _ _ rl _ q5 p5 (by omega)).mono ?_
      rintro e w8 ⟨rfl, n8, rfl⟩
      go_wp2_with fail
      refine (row_same _ _ _ _ ll _ (r5.drewN n8) (s5.drewN n8) (by omega)).mono ?_
      rintro e w9 ⟨rfl, n9, rfl⟩
      go_wp2_with fail
      refine (row_same _ _ _ _ sl _ (t5.drewN (n8 + n9)) (hS2.drewN (n8 + n9)) (by omega)).mono ?_
      rintro e w10 ⟨rfl, n10, rfl⟩
      have hbz := fun n => below_drawn hbw n
      go_wp2_with fail
      refine (HFIT.out _ (hbz _)).mono ?_
      rintro e w11 ⟨S3, m3, rfl, hM, hb11⟩
      have hbe := (hbz _).trans (hb11.mono (hbz _).size)
      go_wp2_with fail
      refine ⟨⟨k + 1, m3, S3, v, by omega, by go_num, rfl, by omega, hM.lies, hbe⟩, by simp [intOf]; omega⟩
    · go_wp2_with fail
      go_ret
      exact ⟨rfl, hbr⟩
end Go.Proofs.Ytcjenchkcbnphaa.Gr
