/- WALK of the law that a sum goes byte by byte. Conditions: the arguments read as a slice of bytes and a sum. -/
import Derived.Test.YtbhnfgknbpddiaaCrcLaws
import Derived.Outline
namespace Go.Proofs.Ytbhnfgknbpddiaa.Crc
open Go.RowKit

theorem nil_bytes (w : World) : Bytes w none [] := ⟨by simp, by simp⟩

set_option maxHeartbeats 1000000 in
theorem crcSteps_walk (a0 : Option Addr) (len0 cap0 : Nat) (z0 : List Int) (a1 : Int) (w : World) (w0 : IsRow .u8 w a0 len0 cap0 z0) (w1 : (Lit.int .u32 a1).wf = true) :
    Calls Try.prog 7 #[.slice a0 len0 cap0, .int .u32 a1] w fun e w' => e = .returned (.bool true) ∧ Below w.heap.size w w' := by
  obtain ⟨s, hs, rfl⟩ := wf_u32 w1
  obtain ⟨l, rfl, hlc, hcap, hB0⟩ := bytes_of_row w0
  obtain ⟨fl, hfl⟩ : ∃ fl, fl = l.take 100 := ⟨_, rfl⟩
  have hB : Bytes w a0 fl := by rw [hfl]; exact hB0.take 100
  have hlen : fl.length = min l.length 100 := by rw [hfl, List.length_take, Nat.min_comm]
  have hfm : fl.length ≤ 9223372036854775807 := by omega
  have hfl' : fl.length ≤ l.length := by omega
  have HL := Lib.hid hlen
  clear hfl hlen hB0 w0 w1
  go_enter Try.func7, Try.ntmps7
  go_wp2_with fail
  refine (shown_any _).mono ?_
  rintro e w1 ⟨rfl, hb1⟩
  have hB1 := hB.below hb1
  go_wp2_with fail
  go_loop [6, 7] (fun x i => ∃ k t : Nat, k ≤ fl.length ∧ t < 4294967296 ∧ Hid (t = cfold (cnot s) (fl.take k)) ∧ i = .int .i64 k ∧ x = .int .u32 t) (fun _ i => fl.length - (intOf i).toNat)
  case atStart => exact ⟨0, cnot s, by omega, cnot_lt _, rfl, rfl, by simp [cnot]; omega⟩
  case round =>
    obtain ⟨k, t, hk, ht, H, rfl, rfl⟩ := hrel
    by_cases hlt : k < fl.length
    · obtain ⟨b, off, c, rfl, hb, hc, hx, hcell⟩ := hB1.at_ hlt
      have HX := Lib.hid hx
      clear hx
      go_wp2_with fail
      refine (few_any _ _ _ fl.length hlc hcap HL.out _).mono ?_
      rintro e w' ⟨rfl, rfl⟩
      go_wp2_with fail
      refine (step_any t c ht hc _).mono ?_
      rintro e w' ⟨rfl, rfl⟩
      go_wp2_with fail
      go_round
      case rel => exact ⟨k + 1, cstep t c, by omega, cstep_lt ht hc, (by rw [show t = _ from H.out]; exact (take_next HX.out _).symm), by go_num, rfl⟩
      case measure => simp [intOf]; omega
    · go_wp2_with fail
      refine (few_any _ _ _ fl.length hlc hcap HL.out _).mono ?_
      rintro e w' ⟨rfl, rfl⟩
      have ht' : t = cfold (cnot s) fl := by have := H.out; rwa [List.take_of_length_le (by omega)] at this
      have hx : cmore s fl = cnot t := by rw [ht']; rfl
      have HX := Lib.hid hx
      clear hx ht'
      have e1 : ((((cmore s fl : Nat) : Int)) == 4294967295 - (t : Int)) = true := by rw [HX.out]; unfold cnot; simp; omega
      have e2 : ((((cmore s [] : Nat) : Int)) == (s : Int)) = true := by rw [cmore_nil hs]; simp
      have e3 : ((((cmore 0 [] : Nat) : Int)) == 0) = true := by rw [cmore_nil (by omega)]; simp
      have c3 : ∀ W, Calls Try.prog 9 #[.slice none 0 0] W fun e w' => e = .returned (.int .u32 ((cmore 0 [] : Nat) : Int)) ∧ Below W.heap.size W w' := fun W => sum_any none 0 [] (by simp) W (nil_bytes W)
      have c4 : ∀ W, Calls Try.prog 12 #[.int .u32 (s : Int), .slice none 0 0] W fun e w' => e = .returned (.int .u32 ((cmore s [] : Nat) : Int)) ∧ Below W.heap.size W w' := fun W => more_any s hs none 0 [] (by simp) W (nil_bytes W)
      have C3 := Lib.hid c3
      have C4 := Lib.hid c4
      clear c3 c4
      generalize cmore s [] = m1 at *
      generalize cmore 0 [] = m0 at *
      go_wp2_with fail
      refine (few_any _ _ _ fl.length hlc hcap HL.out _).mono ?_
      rintro e w' ⟨rfl, rfl⟩
      go_wp2_with fail
      refine (more_any s hs _ _ fl hfm _ hB1).mono ?_
      rintro e w2 ⟨rfl, hb2⟩
      go_wp2_with fail
      refine (C3.out _).mono ?_
      rintro e w3 ⟨rfl, hb3⟩
      go_wp2_with fail
      refine (C4.out _).mono ?_
      rintro e w4 ⟨rfl, hb4⟩
      go_wp2_with fail
      go_ret
      refine ⟨rfl, ?_⟩
      have s1 := hb1.size
      have s2 := hb2.size
      have s3 := hb3.size
      exact ((hb1.trans (hb2.mono s1)).trans (hb3.mono (by omega))).trans (hb4.mono (by omega))
end Go.Proofs.Ytbhnfgknbpddiaa.Crc
