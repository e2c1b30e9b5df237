/- WALK of the law that the sum of bytes behind others goes on from that of these. Conditions: the arguments read as slices of bytes. -/
import Derived.Test.YtbhnfgknbpddiaaCrcSteps
import Derived.Test.YtbhnfgknbpddiaaMem
import Derived.Outline
import Derived.OwnWalk
namespace Go.Proofs.Ytbhnfgknbpddiaa.Crc
open Go.RowKit Mem

def vb (c : Nat) : Value := .int .u8 ((c : Nat) : Int)
theorem Bytes.lies {w : World} {A : Option Addr} {l : List Nat} (h : Bytes w A l) : Lies w A (l.map vb) := fun hn => by
  obtain ⟨b, off, e, hb, hc⟩ := h.2 (by simpa using hn)
  refine ⟨b, off, e, hb, fun i u hu => ?_⟩
  rw [List.getElem?_map] at hu
  obtain ⟨c, hc1, rfl⟩ := Option.map_eq_some_iff.1 hu
  exact hc i c hc1
theorem Bytes.of_lies {w : World} {A : Option Addr} {l : List Nat} (h8 : ∀ c ∈ l, c < 256) (h : Lies w A (l.map vb)) : Bytes w A l := ⟨h8, fun hn => by
  obtain ⟨b, off, e, hb, hc⟩ := h (by simpa using hn)
  exact ⟨b, off, e, hb, fun i c hi => hc i (vb c) (by rw [List.getElem?_map, hi]; rfl)⟩⟩
theorem vb_one (l : List Nat) : ∀ u ∈ l.map vb, u.oneCell' = true := by
  intro u hu
  obtain ⟨c, _, rfl⟩ := List.mem_map.1 hu
  rfl
theorem info5 : (Try.prog.info? 5).map (fun i => (i.zero, i.size, i.bytes)) = some (some (.int .u8 0), 1, 1) := by kernel_rfl

set_option maxHeartbeats 1000000 in
theorem crcParts_walk (a0 : Option Addr) (len0 cap0 : Nat) (z0 : List Int) (a1 : Option Addr) (len1 cap1 : Nat) (z1 : List Int) (w : World) (w0 : IsRow .u8 w a0 len0 cap0 z0) (w1 : IsRow .u8 w a1 len1 cap1 z1) :
    Calls Try.prog 4 #[.slice a0 len0 cap0, .slice a1 len1 cap1] w fun e w' => e = .returned (.bool true) ∧ Below w.heap.size w w' := by
  obtain ⟨l0, rfl, hlc0, hcap0, hB0⟩ := bytes_of_row w0
  obtain ⟨l1, rfl, hlc1, hcap1, hB1⟩ := bytes_of_row w1
  clear w0 w1
  obtain ⟨f0, hf0⟩ : ∃ fl, fl = l0.take 100 := ⟨_, rfl⟩
  obtain ⟨f1, hf1⟩ : ∃ fl, fl = l1.take 100 := ⟨_, rfl⟩
  have hF0 : Bytes w a0 f0 := by rw [hf0]; exact hB0.take 100
  have hF1 : Bytes w a1 f1 := by rw [hf1]; exact hB1.take 100
  have HL0 := Lib.hid (show f0.length = min l0.length 100 by rw [hf0, List.length_take, Nat.min_comm])
  have HL1 := Lib.hid (show f1.length = min l1.length 100 by rw [hf1, List.length_take, Nat.min_comm])
  have g0 : f0.length ≤ 100 := by have := HL0.out; omega
  have g1 : f1.length ≤ 100 := by have := HL1.out; omega
  clear hf0 hf1 hB0 hB1
  obtain ⟨i0, hi, hz0, hz1, hz2⟩ := info_parts info5
  go_enter Try.func4, Try.ntmps4
  go_wp2_with fail
  refine (shown_any _).mono ?_
  rintro e w1 ⟨rfl, hb1⟩
  have hE : (w1.alloc (.cells #[] 5)).ownsRow w1.heap.size 5 1 (.slice (some ⟨w1.heap.size, 0, none⟩) 0 0) 0 [] :=
    ⟨by simp, .inr ⟨w1.heap.size, 0, #[], rfl, Nat.le_refl _, heap_alloc_new w1 _, Nat.le_refl _, by simp, by simp, by simp⟩⟩
  have hA0 := ((hF0.below hb1).lies).alloc (.cells #[] 5)
  go_wp2_with fail
  refine (few_any _ _ _ f0.length hlc0 hcap0 HL0.out _).mono ?_
  rintro e w' ⟨rfl, rfl⟩
  go_wp2_with (at_builtin; refine wpList_append_lies _ rfl (.tmp 8) (.tmp 10) _ rfl w1.heap.size 5 i0 _ 1 1 Try.underlying22 hi hz0 hz1 hz2 rfl (by omega) (.slice (some ⟨w1.heap.size, 0, none⟩) 0 0) 0 [] rfl hE a0 f0.length cap0 (f0.map vb) rfl (by simp) hA0 (vb_one f0) (by simp only [maxLen]; omega) (by omega) (by simp) ?_; intro v2 w2 hown2 hg2 hat2)
  have hb2' : Below w1.heap.size w1 w2 := ((Below.refl _ w1).alloc (Nat.le_refl _) _).grown hg2 (by simp) (by simp [Value.ownBlock])
  have hb2 := hb1.trans (hb2'.mono hb1.size)
  simp only [Nat.zero_add, List.nil_append] at hown2
  have hA1 := ((hF1.below hb1).below hb2').lies
  refine (few_any _ _ _ f1.length hlc1 hcap1 HL1.out _).mono ?_
  rintro e w' ⟨rfl, rfl⟩
  obtain ⟨al, hal⟩ : ∃ al, al = f0 ++ f1 := ⟨_, rfl⟩
  have HAL := Lib.hid hal
  clear hal
  go_wp2_with (at_builtin; refine wpList_append_lies _ rfl (.tmp 11) (.tmp 13) _ rfl w1.heap.size 5 i0 _ 1 1 Try.underlying22 hi hz0 hz1 hz2 rfl (by omega) v2 f0.length (f0.map vb) rfl hown2 a1 f1.length cap1 (f1.map vb) rfl (by simp) hA1 (vb_one f1) (by simp only [maxLen]; omega) (by omega) hb2'.size ?_; intro v3 w3 hown3 hg3 hat3; rw [← List.map_append, ← List.length_append, ← HAL.out] at hown3; obtain ⟨A3, cap3, rfl, hc3, hm3⟩ := own_form hown3)
  have hb3' : Below w1.heap.size w2 w3 := (Below.refl _ w2).grown hg3 hb2'.size (fun k hk => (hown2.lt k hk).1)
  have hb3 := hb2.trans (hb3'.mono hb1.size)
  have hb13 := hb2'.trans hb3'
  have hAll : Bytes w3 A3 al := .of_lies (by rw [HAL.out]; intro c hc; rcases List.mem_append.1 hc with h | h; exact hF0.1 c h; exact hF1.1 c h) (.of_own hown3)
  have hal : al.length ≤ 9223372036854775807 := by rw [HAL.out, List.length_append]; omega
  have hF0' := (hF0.below hb1).below hb13
  have hF1' := (hF1.below hb1).below hb13
  have hf0m : f0.length ≤ 9223372036854775807 := by omega
  have hf1m : f1.length ≤ 9223372036854775807 := by omega
  have hS : cmore (cmore 0 f0) f1 = cmore 0 al := by rw [HAL.out]; exact cmore_parts f0 f1 hF0.1
  have hm0 : cmore 0 f0 < 4294967296 := cmore_lt _ _
  have hms : cmore 0 al < 4294967296 := cmore_lt _ _
  have k1 : ∀ W, Bytes W a0 f0 → Calls Try.prog 9 #[.slice a0 f0.length cap0] W fun e w' => e = .returned (.int .u32 ((cmore 0 f0 : Nat) : Int)) ∧ Below W.heap.size W w' := fun W hW => sum_any a0 cap0 f0 hf0m W hW
  have k2 : ∀ W, Bytes W a1 f1 → Calls Try.prog 12 #[.int .u32 ((cmore 0 f0 : Nat) : Int), .slice a1 f1.length cap1] W fun e w' => e = .returned (.int .u32 ((cmore 0 al : Nat) : Int)) ∧ Below W.heap.size W w' := fun W hW => by
    rw [← hS]; exact more_any _ hm0 a1 cap1 f1 hf1m W hW
  have k3 : ∀ W, Bytes W A3 al → Calls Try.prog 9 #[.slice A3 al.length cap3] W fun e w' => e = .returned (.int .u32 ((cmore 0 al : Nat) : Int)) ∧ Below W.heap.size W w' := fun W hW => sum_any A3 cap3 al hal W hW
  have k4 : ∀ W, Bytes W A3 al → Calls Try.prog 12 #[.int .u32 0, .slice A3 al.length cap3] W fun e w' => e = .returned (.int .u32 ((cmore 0 al : Nat) : Int)) ∧ Below W.heap.size W w' := fun W hW => more_any 0 (by omega) A3 cap3 al hal W hW
  have k5 : ∀ W, Calls Try.prog 12 #[.int .u32 ((cmore 0 al : Nat) : Int), .slice none 0 0] W fun e w' => e = .returned (.int .u32 ((cmore 0 al : Nat) : Int)) ∧ Below W.heap.size W w' := fun W => (more_any _ hms none 0 [] (by simp) W (nil_bytes W)).mono fun e w' h => by rw [cmore_nil hms] at h; exact h
  have K1 := Lib.hid k1
  have K2 := Lib.hid k2
  have K3 := Lib.hid k3
  have K4 := Lib.hid k4
  have K5 := Lib.hid k5
  clear k1 k2 k3 k4 k5 hS hb2' hb3' hown2 hown3 hg2 hg3 hat2 hat3 hE hA0 hA1 hF0 hF1 hms hm0
  generalize cmore 0 al = S at *
  generalize cmore 0 f0 = m0 at *
  refine (few_any _ _ _ f0.length hlc0 hcap0 HL0.out _).mono ?_
  rintro e w' ⟨rfl, rfl⟩
  go_wp2_with fail
  refine (K1.out _ hF0').mono ?_
  rintro e w4 ⟨rfl, hb4⟩
  have hb4' := hb3.trans (hb4.mono hb3.size)
  have hF1'' := hF1'.below hb4
  have hAll4 := hAll.below hb4
  go_wp2_with fail
  refine (few_any _ _ _ f1.length hlc1 hcap1 HL1.out _).mono ?_
  rintro e w' ⟨rfl, rfl⟩
  go_wp2_with fail
  refine (K2.out _ hF1'').mono ?_
  rintro e w5 ⟨rfl, hb5⟩
  have hb5' := hb4'.trans (hb5.mono hb4'.size)
  have hAll5 := hAll4.below hb5
  go_wp2_with fail
  refine (K3.out _ hAll5).mono ?_
  rintro e w6 ⟨rfl, hb6⟩
  have hb6' := hb5'.trans (hb6.mono hb5'.size)
  have hAll6 := hAll5.below hb6
  go_wp2_with fail
  refine (K4.out _ hAll6).mono ?_
  rintro e w7 ⟨rfl, hb7⟩
  have hb7' := hb6'.trans (hb7.mono hb6'.size)
  have hAll7 := hAll6.below hb7
  go_wp2_with fail
  refine (K3.out _ hAll7).mono ?_
  rintro e w8 ⟨rfl, hb8⟩
  have hb8' := hb7'.trans (hb8.mono hb7'.size)
  have hAll8 := hAll7.below hb8
  go_wp2_with fail
  refine (K3.out _ hAll8).mono ?_
  rintro e w9 ⟨rfl, hb9⟩
  have hb9' := hb8'.trans (hb9.mono hb8'.size)
  have hAll9 := hAll8.below hb9
  go_wp2_with fail
  refine (K5.out _).mono ?_
  rintro e w10 ⟨rfl, hb10⟩
  have hb10' := hb9'.trans (hb10.mono hb9'.size)
  have hAll10 := hAll9.below hb10
  go_wp2_with fail
  refine (K3.out _ hAll10).mono ?_
  rintro e w11 ⟨rfl, hb11⟩
  have hb11' := hb10'.trans (hb11.mono hb10'.size)
  go_wp2_with fail
  go_ret
  exact ⟨rfl, hb11'⟩
end Go.Proofs.Ytbhnfgknbpddiaa.Crc
