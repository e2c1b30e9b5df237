/- WALK of the law that steps of two sums differ as steps of their difference do. Conditions: the arguments read as two sums and two bytes. -/
import Derived.Test.YtbhnfgknbpddiaaCrcLaws
import Derived.Outline
import Derived.Deep.QuietTactic
import Derived.BigQuiet
namespace Go.Proofs.Ytbhnfgknbpddiaa.Crc
open Go.RowKit

theorem step_int (a b : Int) (h1 : 0 ≤ a) (h2 : a < 4294967296) (h3 : 0 ≤ b) (h4 : b < 256) (w : World) :
    Calls Try.prog 14 #[.int .u32 a, .int .u8 b] w fun e w' => e = .returned (.int .u32 ((cstep a.toNat b.toNat : Nat) : Int)) ∧ w' = w := by
  obtain ⟨x, rfl⟩ := Int.eq_ofNat_of_zero_le h1
  obtain ⟨y, rfl⟩ := Int.eq_ofNat_of_zero_le h3
  exact (step_any x y (by omega) (by omega) w).mono fun e w' h => ⟨h.1, h.2.symm⟩

set_option maxHeartbeats 1000000 in
theorem crcTurns_walk (s t c d : Nat) (hs : s < 4294967296) (ht : t < 4294967296) (hc : c < 256) (hd : d < 256) (w : World) :
    Calls Try.prog 5 #[.int .u32 (s : Int), .int .u32 (t : Int), .agg #[.int .u8 (c : Int), .int .u8 (d : Int)]] w fun e w' => e = .returned (.bool true) ∧ Below w.heap.size w w' := by
  go_enter Try.func5, Try.ntmps5
  go_wp2_with fail
  refine (shown_any _).mono ?_
  rintro e w1 ⟨rfl, hb1⟩
  have c0 : w1.cell? ⟨w.heap.size, 0, none⟩ = some (.int .u8 (c : Int)) := (hb1.cell (p := ⟨w.heap.size, 0, none⟩) (by simp)).trans (cell_of_row _ _ 0 #[.int .u8 (c : Int), .int .u8 (d : Int)] 31 (0, 0) (heap_alloc_new w _))
  have c1 : w1.cell? ⟨w.heap.size, 1, none⟩ = some (.int .u8 (d : Int)) := (hb1.cell (p := ⟨w.heap.size, 1, none⟩) (by simp)).trans (cell_of_row _ _ 1 #[.int .u8 (c : Int), .int .u8 (d : Int)] 31 (0, 0) (heap_alloc_new w _))
  have x1 := u32_xor_nat s t hs ht
  have x2 := u8_xor_nat c d hc hd
  have l1 := xor_lt hs ht
  have l2 : c ^^^ d < 256 := Nat.xor_lt_two_pow (n := 8) (by omega) (by omega)
  have x3 : bits .xor .u32 ((cstep s c : Nat) : Int) ((cstep t d : Nat) : Int) = ((cstep (s ^^^ t) (c ^^^ d) : Nat) : Int) := by
    rw [u32_xor_nat _ _ (cstep_lt hs hc) (cstep_lt ht hd), cstep_xor]
  have x4 : (((cstep 0 0 : Nat) : Int) == 0) = true := by decide
  have x5 : cstep s ((s : Int) % 256).toNat = s / 256 := by
    rw [show ((s : Int) % 256).toNat = s % 256 by omega, cstep_self]
  have x6 : (((s / 256 : Nat) : Int) == (s : Int) / 256) = true := by simp
  go_wp2_with fail
  go_quiet ((go_at_call 14; exact Calls.quiet_of_same (step_int _ _ (by omega) (by omega) (by omega) (by omega) _)))
  go_wp2
  go_ret
  exact ⟨rfl, ((Below.refl _ w).alloc (Nat.le_refl _) _).trans ((hb1.mono (by simp)).trans ⟨rfl, rfl, rfl, Nat.le_refl _, fun _ _ => rfl⟩)⟩
end Go.Proofs.Ytbhnfgknbpddiaa.Crc
