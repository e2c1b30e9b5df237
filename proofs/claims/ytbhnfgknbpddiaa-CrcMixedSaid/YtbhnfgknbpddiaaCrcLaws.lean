/- WALKS of the laws of the sum of bytes. Conditions: the arguments read as slices of bytes and numbers of their kinds. -/
import Derived.Test.YtbhnfgknbpddiaaCrcMore
namespace Go.Proofs.Ytbhnfgknbpddiaa.Crc
open Go.RowKit

theorem wf_u32 {n : Int} (h : (Lit.int .u32 n).wf = true) : ∃ s : Nat, s < 4294967296 ∧ n = (s : Int) := by
  simp [Lit.wf, IntKind.min, IntKind.max, IntKind.bits, IntKind.signed] at h
  exact ⟨n.toNat, by omega, by omega⟩
theorem wf_byte {n : Int} (h : (Lit.int .u8 n).wf = true) : ∃ s : Nat, s < 256 ∧ n = (s : Int) := by
  have := wf_u8 h
  exact ⟨n.toNat, by omega, by omega⟩

set_option maxHeartbeats 1000000 in
theorem crcAll_walk (a0 : Option Addr) (len0 cap0 : Nat) (z0 : List Int) (a1 : Int) (a2 : Int) (w : World) (w0 : IsRow .u8 w a0 len0 cap0 z0) (w1 : (Lit.int .u32 a1).wf = true) (w2 : (Lit.int .u8 a2).wf = true) :
    Calls Try.prog 3 #[.slice a0 len0 cap0, .int .u32 a1, .int .u8 a2] w fun e w' => e = .returned (.bool true) ∧ Below w.heap.size w w' := by
  obtain ⟨s, hs, rfl⟩ := wf_u32 w1
  obtain ⟨c, hc, rfl⟩ := wf_byte w2
  obtain ⟨l, rfl, hlc, hcap, hB0⟩ := bytes_of_row w0
  obtain ⟨fl, hfl⟩ : ∃ fl, fl = l.take 100 := ⟨_, rfl⟩
  have hB : Bytes w a0 fl := by rw [hfl]; exact hB0.take 100
  have hlen : fl.length = min l.length 100 := by rw [hfl, List.length_take, Nat.min_comm]
  have hfm : fl.length ≤ 9223372036854775807 := by omega
  have HL := Lib.hid hlen
  clear hfl hlen hB0 w0 w1 w2
  go_enter Try.func3, Try.ntmps3
  go_wp2_with fail
  refine (shown_any _).mono ?_
  rintro e w1 ⟨rfl, hb1⟩
  have hB1 := hB.below hb1
  go_wp2_with fail
  refine (few_any _ _ _ fl.length hlc hcap HL.out _).mono ?_
  rintro e w' ⟨rfl, rfl⟩
  go_wp2_with fail
  refine (sum_any _ _ fl hfm _ hB1).mono ?_
  rintro e w2 ⟨rfl, hb2⟩
  have hB2 := hB1.below hb2
  go_wp2_with fail
  refine (few_any _ _ _ fl.length hlc hcap HL.out _).mono ?_
  rintro e w' ⟨rfl, rfl⟩
  go_wp2_with fail
  refine (refsum_any _ _ fl hfm _ hB2).mono ?_
  rintro e w' ⟨rfl, rfl⟩
  go_wp2_with fail
  refine (few_any _ _ _ fl.length hlc hcap HL.out _).mono ?_
  rintro e w' ⟨rfl, rfl⟩
  go_wp2_with fail
  refine (more_any s hs _ _ fl hfm _ hB2).mono ?_
  rintro e w3 ⟨rfl, hb3⟩
  have hB3 := hB2.below hb3
  go_wp2_with fail
  refine (few_any _ _ _ fl.length hlc hcap HL.out _).mono ?_
  rintro e w' ⟨rfl, rfl⟩
  go_wp2_with fail
  refine (refmore_any s hs _ _ fl hfm _ hB3).mono ?_
  rintro e w' ⟨rfl, rfl⟩
  go_wp2_with fail
  refine (step_any s c hs hc _).mono ?_
  rintro e w' ⟨rfl, rfl⟩
  go_wp2_with fail
  refine (refstep_any s c hs hc _).mono ?_
  rintro e w' ⟨rfl, rfl⟩
  go_wp2_with fail
  go_ret
  refine ⟨rfl, ?_⟩
  have s1 := hb1.size
  have s2 := hb2.size
  exact (hb1.trans (hb2.mono s1)).trans (hb3.mono (by omega))
end Go.Proofs.Ytbhnfgknbpddiaa.Crc
