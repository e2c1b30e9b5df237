/- WALKS: one step of the sum, as the program and as the reference have it, is the plain step. Conditions: the sum is below 2^32, the byte below 256. -/
import Derived.Test.YtbhnfgknbpddiaaChecked
import Derived.Test.YtbhnfgknbpddiaaCrcPlain
import Derived.WalkKit
import Derived.LoopTactic
import Derived.Lib.Hide
import Derived.Laws.BitsAllLaws
import Derived.Outline
namespace Go.Proofs.Ytbhnfgknbpddiaa.Crc
open Go.RowKit

theorem and_one (t : Nat) (h : t < 4294967296) : bits .and .u32 (t : Int) 1 = ((t % 2 : Nat) : Int) := by
  have := u32_and_nat t 1 h (by omega)
  rw [nat_mask1] at this
  exact this
theorem half_odd (t : Nat) (h : t < 4294967296) (ho : t % 2 = 1) : bits .xor .u32 ((t : Int) / 2) 2197175160 = ((half t : Nat) : Int) := by
  have e : (t : Int) / 2 = ((t / 2 : Nat) : Int) := by omega
  have := u32_xor_nat (t / 2) 2197175160 (by omega) (by omega)
  rw [e]
  refine this.trans ?_
  unfold half
  rw [if_pos ho, Nat.shiftRight_eq_div_pow]
theorem half_ev (t : Nat) (ho : ¬ t % 2 = 1) : (t : Int) / 2 = ((half t : Nat) : Int) := by
  unfold half
  rw [if_neg ho, Nat.shiftRight_eq_div_pow, Nat.xor_zero]; omega
theorem halves_next {k t x : Nat} (hk : k < 8) (h : halves (8 - k) t = x) : halves (8 - (k + 1)) (half t) = x := by
  rw [← h, show 8 - k = (8 - (k + 1)) + 1 by omega]; rfl
theorem halves_end {k t x : Nat} (hk : k ≤ 8) (hk' : ¬ k < 8) (h : halves (8 - k) t = x) : t = x := by
  rw [← h, show 8 - k = 0 by omega]; rfl
theorem ret_int {k : IntKind} {a b : Int} (h : a = b) : Ending.returned (.int k a) = .returned (.int k b) := by rw [h]

set_option maxHeartbeats 400000 in
theorem step_any (s c : Nat) (hs : s < 4294967296) (hc : c < 256) (w : World) :
    Calls Try.prog 14 #[.int .u32 (s : Int), .int .u8 (c : Int)] w fun e w' => e = .returned (.int .u32 ((cstep s c : Nat) : Int)) ∧ w = w' := by
  have hx := u32_xor_nat s c hs (by omega)
  have hl : s ^^^ c < 4294967296 := xor_lt hs (by omega)
  go_enter Try.func14, Try.ntmps14
  go_wp2
  clear hx
  go_loop [0, 9] (fun x i => ∃ k t : Nat, k ≤ 8 ∧ t < 4294967296 ∧ Hid (halves (8 - k) t = cstep s c) ∧ i = .int .i64 k ∧ x = .int .u32 t) (fun _ i => 8 - (intOf i).toNat)
  case atStart => exact ⟨0, s ^^^ c, by omega, hl, rfl, rfl, rfl⟩
  case round =>
    obtain ⟨k, t, hk, ht, H, rfl, rfl⟩ := hrel
    have ha := and_one t ht
    by_cases hlt : k < 8
    · by_cases ho : t % 2 = 1
      · have hb : (((t % 2 : Nat) : Int) == 1) = true := by simp; omega
        go_wp2
        go_round
        case rel => exact ⟨k + 1, half t, by omega, half_lt t ht, halves_next hlt H.out, by go_num, by rw [half_odd t ht ho]⟩
        case measure => simp [intOf]; omega
      · have hb : (((t % 2 : Nat) : Int) == 1) = false := by simp; omega
        go_wp2
        go_round
        case rel => exact ⟨k + 1, half t, by omega, half_lt t ht, halves_next hlt H.out, by go_num, by rw [half_ev t ho]⟩
        case measure => simp [intOf]; omega
    · go_wp2
      go_ret
      exact ⟨ret_int (by rw [halves_end hk hlt H.out]), rfl⟩

set_option maxHeartbeats 400000 in
theorem refstep_any (s c : Nat) (hs : s < 4294967296) (hc : c < 256) (w : World) :
    Calls Try.prog 15 #[.int .u32 (s : Int), .int .u8 (c : Int)] w fun e w' => e = .returned (.int .u32 ((cstep s c : Nat) : Int)) ∧ w = w' := by
  have hx := u32_xor_nat s c hs (by omega)
  have hl : s ^^^ c < 4294967296 := xor_lt hs (by omega)
  go_enter Try.func15, Try.ntmps15
  go_wp2
  clear hx
  go_loop [0, 5] (fun x i => ∃ k t : Nat, k ≤ 8 ∧ t < 4294967296 ∧ Hid (halves (8 - k) t = cstep s c) ∧ i = .int .i64 k ∧ x = .int .u32 t) (fun _ i => 8 - (intOf i).toNat)
  case atStart => exact ⟨0, s ^^^ c, by omega, hl, rfl, rfl, rfl⟩
  case round =>
    obtain ⟨k, t, hk, ht, H, rfl, rfl⟩ := hrel
    have ha := and_one t ht
    by_cases hlt : k < 8
    · by_cases ho : t % 2 = 1
      · have hb : (((t % 2 : Nat) : Int) == 1) = true := by simp; omega
        go_wp2
        go_round
        case rel => exact ⟨k + 1, half t, by omega, half_lt t ht, halves_next hlt H.out, by go_num, by rw [half_odd t ht ho]⟩
        case measure => simp [intOf]; omega
      · have hb : (((t % 2 : Nat) : Int) == 1) = false := by simp; omega
        go_wp2
        go_round
        case rel => exact ⟨k + 1, half t, by omega, half_lt t ht, halves_next hlt H.out, by go_num, by rw [half_ev t ho]⟩
        case measure => simp [intOf]; omega
    · go_wp2
      go_ret
      exact ⟨ret_int (by rw [halves_end hk hlt H.out]), rfl⟩
end Go.Proofs.Ytbhnfgknbpddiaa.Crc
