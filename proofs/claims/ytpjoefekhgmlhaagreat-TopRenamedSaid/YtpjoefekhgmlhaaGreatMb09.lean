/- CONTRACTS: math/bits.Len32, LeadingZeros32, addr.Bit, addr.Common. Conditions: addresses below 2^32. · CONTRACTS of the references theseusref05.Bit, theseusref06.Mask, Ends, Compare, theseusref07.Compare. Conditions: addresses below 2^32, lengths 0 to 32. · CONTRACTS: cmp.Less and slices' insertion sort, at uint32: the library's own text computes the kit's plain function. No conditions but the bounds. · CONTRACT of slices.Sort at uint32, of 12 numbers at most. · CONTRACTS: maps.Keys and slices.Collect at uint32: the keys come, each once, in some order. · CONTRACT of slices.Sorted(maps.Keys(m)) at uint32, of 12 keys at most. -/
import Derived.Test.YtpjoefekhgmlhaaGreatMb08
import Derived.Lib.BitFns
import Derived.Lib.ItoaNum
import Derived.Test.YtpjoefekhgmlhaaGreatMb06
import Derived.Test.YtpjoefekhgmlhaaGreatMb05
import Derived.Sort.LotA
import Derived.Sort.Row
import Derived.BigGuard
import Derived.BigCall
import Derived.CellFam
import Derived.Deep.Draws
import Derived.Deep.QuietTactic
import Derived.BigQuiet
import Derived.RangeFuncBox
import Derived.RangeFuncLeaves
import Derived.RangeFuncStops
import Derived.RangeFuncWrites
import Derived.Sort.MapsRangeIn
import Derived.Sort.KeysCollected
import Derived.Shelf.Abstract
import Derived.OwnWalkIn
import Derived.TacticsInMore
import Derived.LoopNIn
import Derived.LoopIn
import Derived.Maps.AppendAt
namespace Go.Proofs.YtpjoefekhgmlhaaGreat.Tp
open Go.RowKit Mem

theorem len32_any (x : Int) (w : World) (h0 : 0 ≤ x) (h1 : x ≤ 4294967295) :
    Calls Tryz.prog 153 #[.int .u32 x] w fun e w' => e = .returned (.int .i64 (Lib.bitLen x.toNat)) ∧ w = w' := by
  by_cases c1 : x ≤ 255
  · have e := Lib.len8_of x h0 c1
    have l := Lib.bitLen_le8' x h0 c1
    have H := Lib.hid e
    have HL := Lib.hid l
    clear e l
    go_enter Tryz.func153, Tryz.ntmps153
    go_wp2_with fail
    go_ret
    have := HL.out
    refine ⟨ret_int ?_, rfl⟩
    rw [H.out]
    unfold wrap64
    omega
  by_cases c2 : x ≤ 65535
  · have d0 : (0 : Int) ≤ x / 256 := by omega
    have d1 : x / 256 ≤ (255 : Int) := by omega
    have d2 : (256 : Int) ≤ x := by omega
    have e := Lib.len8_of (x / 256) d0 d1
    have l := Lib.bitLen_le8' (x / 256) d0 d1
    have s := Lib.bitLen_shift8 x.toNat (by omega) (by omega)
    rw [show x.toNat / 256 = (x / 256).toNat by omega] at s
    have H := Lib.hid e
    have HL := Lib.hid l
    have HS := Lib.hid s
    clear e l s c1
    go_enter Tryz.func153, Tryz.ntmps153
    go_wp2_with fail
    go_ret
    have := HL.out
    refine ⟨ret_int ?_, rfl⟩
    rw [H.out, HS.out]
    unfold wrap64
    omega
  by_cases c3 : x ≤ 16777215
  · have d0 : (0 : Int) ≤ x / 65536 := by omega
    have d1 : x / 65536 ≤ (255 : Int) := by omega
    have d2 : (65536 : Int) ≤ x := by omega
    have e := Lib.len8_of (x / 65536) d0 d1
    have l := Lib.bitLen_le8' (x / 65536) d0 d1
    have s := Lib.bitLen_shift16 x.toNat (by omega) (by omega)
    rw [show x.toNat / 65536 = (x / 65536).toNat by omega] at s
    have H := Lib.hid e
    have HL := Lib.hid l
    have HS := Lib.hid s
    clear e l s c1 c2
    go_enter Tryz.func153, Tryz.ntmps153
    go_wp2_with fail
    go_ret
    have := HL.out
    refine ⟨ret_int ?_, rfl⟩
    rw [H.out, HS.out]
    unfold wrap64
    omega
  · have d0 : (0 : Int) ≤ x / 65536 / 256 := by omega
    have d1 : x / 65536 / 256 ≤ (255 : Int) := by omega
    have d2 : (16777216 : Int) ≤ x := by omega
    have e := Lib.len8_of (x / 65536 / 256) d0 d1
    have l := Lib.bitLen_le8' (x / 65536 / 256) d0 d1
    have s := Lib.bitLen_shift24 x.toNat (by omega) (by omega)
    rw [show x.toNat / 16777216 = (x / 65536 / 256).toNat by omega] at s
    have H := Lib.hid e
    have HL := Lib.hid l
    have HS := Lib.hid s
    clear e l s c1 c2 c3
    go_enter Tryz.func153, Tryz.ntmps153
    go_wp2_with fail
    go_ret
    have := HL.out
    refine ⟨ret_int ?_, rfl⟩
    rw [H.out, HS.out]
    unfold wrap64
    omega
/-- How many first bits are alike. -/
def common (x y : Nat) : Nat := 32 - Lib.bitLen (x ^^^ y)
theorem bitLen_iff {x k : Nat} (hx : x < 4294967296) (hk : k ≤ 32) : Lib.bitLen x ≤ k ↔ x < 2 ^ k := by
  constructor
  · intro h
    by_cases e : x = 0
    · subst e; exact Nat.two_pow_pos k
    · have hb : x < 2 ^ 64 := by omega
      have h1 := (Lib.bitLenAux_bounds 64 x hb e).2.2
      have h2 : 2 ^ Lib.bitLenAux 64 x ≤ 2 ^ k := Nat.pow_le_pow_right (by omega) h
      omega
  · intro h
    exact Lib.bitLen_le x k (by omega) h
theorem le_common {x y m : Nat} (hx : x < 4294967296) (hy : y < 4294967296) (hm : m ≤ 32) : m ≤ common x y ↔ agree x y m := by
  have hxy : x ^^^ y < 4294967296 := Nat.xor_lt_two_pow (n := 32) hx hy
  have h32 : Lib.bitLen (x ^^^ y) ≤ 32 := (bitLen_iff hxy (by omega)).2 hxy
  have h1 : m ≤ common x y ↔ Lib.bitLen (x ^^^ y) ≤ 32 - m := by unfold common; omega
  rw [h1, bitLen_iff hxy (by omega)]
  unfold agree wid
  have h2 : (x ^^^ y) / 2 ^ (32 - m) = (x / 2 ^ (32 - m)) ^^^ (y / 2 ^ (32 - m)) := by
    rw [← Nat.shiftRight_eq_div_pow, ← Nat.shiftRight_eq_div_pow, ← Nat.shiftRight_eq_div_pow, Nat.shiftRight_xor_distrib]
  constructor
  · intro h
    have h3 := Nat.div_eq_of_lt h
    rw [h2] at h3
    exact Nat.eq_of_testBit_eq fun i => by
      have h4 := congrArg (fun n => n.testBit i) h3
      simp only [Nat.testBit_xor, Nat.zero_testBit] at h4
      cases h5 : (x / 2 ^ (32 - m)).testBit i <;> cases h6 : (y / 2 ^ (32 - m)).testBit i <;> simp_all
  · intro h
    have h3 : (x ^^^ y) / 2 ^ (32 - m) = 0 := by rw [h2, h, Nat.xor_self]
    rcases Nat.div_eq_zero_iff.1 h3 with h4 | h4
    · have := Nat.two_pow_pos (32 - m)
      omega
    · exact h4
theorem common_le (x y : Nat) : common x y ≤ 32 := by unfold common; omega
theorem common_any (x y : Nat) (hx : x < 4294967296) (hy : y < 4294967296) (w : World) :
    Calls Tryz.prog 143 #[.int .u32 (x : Int), .int .u32 (y : Int)] w fun e w' => e = .returned (.int .i64 ((common x y : Nat) : Int)) ∧ w = w' := by
  have hxy : x ^^^ y < 4294967296 := Nat.xor_lt_two_pow (n := 32) hx hy
  have hb := u32_xor_nat x y hx hy
  have h32 : Lib.bitLen (x ^^^ y) ≤ 32 := (bitLen_iff hxy (by omega)).2 hxy
  have hl := fun w => len32_any ((x ^^^ y : Nat) : Int) w (by omega) (by omega)
  rw [Int.toNat_natCast] at hl
  have hc : (32 : Int) - ((Lib.bitLen (x ^^^ y) : Nat) : Int) = ((common x y : Nat) : Int) := by unfold common; omega
  generalize common x y = cm at *
  generalize Lib.bitLen (x ^^^ y) = bl at *
  generalize x ^^^ y = z at *
  have HL := Lib.hid hl
  have HC := Lib.hid hc
  have hlz : ∀ w, Calls Tryz.prog 157 #[.int .u32 (z : Int)] w fun e w' => e = .returned (.int .i64 (cm : Int)) ∧ w = w' := fun w => by
    clear hl hc hb
    go_enter Tryz.func157, Tryz.ntmps157
    go_wp2_with fail
    refine (HL.out _).mono ?_
    rintro e w' ⟨rfl, rfl⟩
    go_wp2_with fail
    go_ret
    exact ⟨ret_int HC.out, rfl⟩
  have HZ := Lib.hid hlz
  clear hl hc hlz hxy h32
  go_enter Tryz.func143, Tryz.ntmps143
  go_wp2_with fail
  refine (HZ.out _).mono ?_
  rintro e w' ⟨rfl, rfl⟩
  go_wp2_with fail
  go_ret
  exact ⟨rfl, rfl⟩
theorem bit_any (a i : Nat) (ha : a < 4294967296) (hi : i ≤ 31) (w : World) :
    Calls Tryz.prog 135 #[.int .u32 (a : Int), .int .i64 (i : Int)] w fun e w' => e = .returned (.int .i64 ((bitN a i : Nat) : Int)) ∧ w = w' := by
  have hz : a / 2 ^ (31 - i) < 4294967296 := Nat.lt_of_le_of_lt (Nat.div_le_self _ _) ha
  have t0 : decide ((i : Int) < 0) = false := by rw [decide_eq_false_iff_not]; omega
  have t1 : decide ((i : Int) > 31) = false := by rw [decide_eq_false_iff_not]; omega
  have hb : bits .and .u32 ((a : Int) / 2 ^ (31 - i)) 1 = ((bitN a i : Nat) : Int) := by
    rw [show ((a : Int) / 2 ^ (31 - i)) = ((a / 2 ^ (31 - i) : Nat) : Int) by rw [Int.natCast_ediv, Int.natCast_pow]; rfl]
    have := u32_and_nat (a / 2 ^ (31 - i)) 1 hz (by omega)
    rw [show ((1 : Nat) : Int) = 1 by rfl] at this
    rw [this, Nat.and_one_is_mod]
    rfl
  have h2 : wrap64 ((bitN a i : Nat) : Int) = ((bitN a i : Nat) : Int) := IntWalk.wrap64_in _ (by have := bitN_two a i; omega)
  generalize bitN a i = bv at *
  have HB := Lib.hid hb
  have H2 := Lib.hid h2
  clear hb h2 hz
  go_enter Tryz.func135, Tryz.ntmps135
  go_wp2_with fail
  go_ret
  exact ⟨ret_int (by rw [HB.out, H2.out]), rfl⟩
theorem bit32 (a : Nat) (w : World) :
    Calls Tryz.prog 135 #[.int .u32 (a : Int), .int .i64 32] w fun e w' => e = .returned (.int .i64 0) ∧ w = w' := by
  go_enter Tryz.func135, Tryz.ntmps135
  go_wp2_with fail
  go_ret
  exact ⟨rfl, rfl⟩
end Go.Proofs.YtpjoefekhgmlhaaGreat.Tp

namespace Go.Proofs.YtpjoefekhgmlhaaGreat.Tp
open Go.RowKit Mem

theorem rbit_any (a i : Nat) (ha : a < 4294967296) (hi : i ≤ 31) (w : World) :
    Calls Tryz.prog 65 #[.int .u32 (a : Int), .int .i64 (i : Int)] w fun e w' => e = .returned (.int .i64 ((bitN a i : Nat) : Int)) ∧ w = w' := by
  have hz : a / 2 ^ (31 - i) < 4294967296 := Nat.lt_of_le_of_lt (Nat.div_le_self _ _) ha
  have t0 : decide ((i : Int) < 0) = false := by rw [decide_eq_false_iff_not]; omega
  have t1 : decide ((i : Int) > 31) = false := by rw [decide_eq_false_iff_not]; omega
  have hb : bits .and .u32 ((a : Int) / 2 ^ (31 - i)) 1 = ((bitN a i : Nat) : Int) := by
    rw [show ((a : Int) / 2 ^ (31 - i)) = ((a / 2 ^ (31 - i) : Nat) : Int) by rw [Int.natCast_ediv, Int.natCast_pow]; rfl]
    have := u32_and_nat (a / 2 ^ (31 - i)) 1 hz (by omega)
    rw [show ((1 : Nat) : Int) = 1 by rfl] at this
    rw [this, Nat.and_one_is_mod]
    rfl
  have h2 : wrap64 ((bitN a i : Nat) : Int) = ((bitN a i : Nat) : Int) := IntWalk.wrap64_in _ (by have := bitN_two a i; omega)
  generalize bitN a i = bv at *
  have HB := Lib.hid hb
  have H2 := Lib.hid h2
  clear hb h2 hz
  go_enter Tryz.func65, Tryz.ntmps65
  go_wp2_with fail
  go_ret
  exact ⟨ret_int (by rw [HB.out, H2.out]), rfl⟩

def maskTo (n : Nat) : Nat → Nat
  | 0 => 0
  | i + 1 => if i < n then maskTo n i * 2 % 4294967296 + 1 else maskTo n i * 2 % 4294967296
theorem maskTo_all : ∀ n, n < 33 → maskTo n 32 = maskN n := by decide +kernel
theorem maskTo_lt (n i : Nat) : maskTo n i < 4294967296 := by
  cases i with
  | zero => simp [maskTo]
  | succ i => unfold maskTo; split <;> omega
set_option maxHeartbeats 1000000 in
theorem rmask_any (n : Nat) (hn : n ≤ 32) (w : World) : Calls Tryz.prog 81 #[.int .i64 (n : Int)] w fun e w' => e = .returned (.int .u32 ((maskN n : Nat) : Int)) ∧ w = w' := by
  have hm := maskTo_all n (by omega)
  have HM := Lib.hid hm
  clear hm
  go_enter Tryz.func81, Tryz.ntmps81
  go_wp2_with fail
  go_loopw [3, 4] (fun m i wr => ∃ k : Nat, k ≤ 32 ∧ i = .int .i64 k ∧ m = .int .u32 ((maskTo n k : Nat) : Int) ∧ w = wr) (fun _ i _ => 32 - (intOf i).toNat)
  case atStart => exact ⟨0, by omega, rfl, rfl, rfl⟩
  case round =>
    obtain ⟨k, hk, rfl, rfl, rfl⟩ := hrel
    by_cases hlt : k < 32
    · have hl := maskTo_lt n k
      by_cases hkn : k < n
      · have hs : maskTo n (k + 1) = maskTo n k * 2 % 4294967296 + 1 := by show (if k < n then _ else _) = _; rw [if_pos hkn]
        obtain ⟨q, hq⟩ : ∃ q, q = maskTo n k := ⟨_, rfl⟩
        rw [← hq] at hs hl ⊢
        have HS := Lib.hid hs
        clear hs hq
        go_wp2_with fail
        refine ⟨⟨k + 1, by omega, by go_num, ?_, trivial⟩, by simp [intOf]; omega⟩
        rw [HS.out]
        congr 1
      · have hs : maskTo n (k + 1) = maskTo n k * 2 % 4294967296 := by show (if k < n then _ else _) = _; rw [if_neg hkn]
        obtain ⟨q, hq⟩ : ∃ q, q = maskTo n k := ⟨_, rfl⟩
        rw [← hq] at hs hl ⊢
        have HS := Lib.hid hs
        clear hs hq
        go_wp2_with fail
        refine ⟨⟨k + 1, by omega, by go_num, ?_, trivial⟩, by simp [intOf]; omega⟩
        rw [HS.out]
        congr 1
    · obtain rfl : k = 32 := by omega
      rw [HM.out]
      go_wp2_with fail
      go_ret
      exact ⟨rfl, rfl⟩
/-- Two addresses are told. -/
def TwoPost (w : World) (e : Ending) (w' : World) : Prop := ∃ x y : Nat, x < 4294967296 ∧ y < 4294967296 ∧ e = .returned (.tuple #[.int .u32 (x : Int), .int .u32 (y : Int)]) ∧ w = w'
set_option maxHeartbeats 1000000 in
theorem rends_any (a n : Nat) (ha : a < 4294967296) (w : World) : Calls Tryz.prog 28 #[.int .u32 (a : Int), .int .i64 (n : Int)] w (TwoPost w) := by
  have hb := fun i hi => rbit_any a i ha hi w
  have HB := Lib.hid hb
  clear hb
  go_enter Tryz.func28, Tryz.ntmps28
  go_wp2_with fail
  go_loopw [6, 7, 8] (fun l h i wr => ∃ k x y : Nat, k ≤ 32 ∧ x < 4294967296 ∧ y < 4294967296 ∧ i = .int .i64 k ∧ l = .int .u32 (x : Int) ∧ h = .int .u32 (y : Int) ∧ w = wr) (fun _ _ i _ => 32 - (intOf i).toNat)
  case atStart => exact ⟨0, 0, 0, by omega, by omega, by omega, rfl, rfl, rfl, rfl⟩
  case round =>
    obtain ⟨k, x, y, hk, hx, hy, rfl, rfl, rfl, rfl⟩ := hrel
    by_cases hlt : k < 32
    · have hc := HB.out k (by omega)
      have hbv := bitN_two a k
      generalize bitN a k = bv at hc hbv
      have HC := Lib.hid hc
      clear hc
      have e1 : ((bv : Int) % 4294967296) = (bv : Int) := by omega
      by_cases hkn : k < n
      · go_wp2_with fail
        refine (HC.out).mono ?_
        rintro e w' ⟨rfl, rfl⟩
        go_wp2_with fail
        refine ⟨⟨k + 1, (x * 2 + bv) % 4294967296, (y * 2 + bv) % 4294967296, by omega, by omega, by omega, by go_num, ?_, ?_, trivial⟩, by simp [intOf]; omega⟩
        · congr 1; omega
        · congr 1; omega
      · go_wp2_with fail
        refine (HC.out).mono ?_
        rintro e w' ⟨rfl, rfl⟩
        go_wp2_with fail
        refine ⟨⟨k + 1, (x * 2) % 4294967296, (y * 2 + 1) % 4294967296, by omega, by omega, by omega, by go_num, ?_, ?_, trivial⟩, by simp [intOf]; omega⟩
        · congr 1
        · congr 1; omega
    · obtain rfl : k = 32 := by omega
      go_wp2_with fail
      go_ret2
      exact ⟨x, y, hx, hy, rfl, rfl⟩
def rcmpI (a : Nat) (m : Int) (b : Nat) (n : Int) : Int := if a < b ∨ a = b ∧ m < n then -1 else if a = b ∧ m = n then 0 else 1
theorem rcmpI_eq (a : Nat) (m : Int) (b : Nat) (n : Int) : rcmpI a m b n = pcmp a m b n := by
  unfold rcmpI pcmp cmpI
  by_cases h1 : a = b
  · subst h1
    simp only [Nat.lt_irrefl, false_or, true_and, if_true]
    by_cases h2 : m < n
    · simp [h2]
    · by_cases h3 : m = n
      · subst h3; simp
      · have h4 : n < m := by omega
        simp [h2, h3, h4]
  · simp only [h1, false_and, or_false, if_false]
    by_cases h2 : a < b
    · simp [h2]
    · have h3 : b < a := by omega
      simp [h2, h3]
theorem rfcmp_any (a : Nat) (m : Int) (b : Nat) (n : Int) (w : World) : Calls Tryz.prog 82 #[.int .u32 (a : Int), .int .i64 m, .int .u32 (b : Int), .int .i64 n] w fun e w' => e = .returned (.int .i64 (pcmp a m b n)) ∧ w = w' := by
  rw [← rcmpI_eq]
  by_cases h1 : a < b
  · have e : rcmpI a m b n = -1 := by unfold rcmpI; rw [if_pos (.inl h1)]
    rw [e]
    clear e
    go_enter Tryz.func82, Tryz.ntmps82
    go_wp2_with fail
    go_ret
    exact ⟨rfl, rfl⟩
  by_cases h2 : a = b
  · subst h2
    have d1 : decide ((a : Int) < (a : Int)) = false := by rw [decide_eq_false_iff_not]; omega
    by_cases h3 : m < n
    · have e : rcmpI a m a n = -1 := by unfold rcmpI; rw [if_pos (.inr ⟨rfl, h3⟩)]
      have d2 : decide (m < n) = true := decide_eq_true h3
      rw [e]
      clear e h1 h3
      go_enter Tryz.func82, Tryz.ntmps82
      go_wp2_with fail
      go_ret
      exact ⟨rfl, rfl⟩
    by_cases h4 : m = n
    · subst h4
      have e : rcmpI a m a m = 0 := by unfold rcmpI; simp
      have d2 : decide (m < m) = false := by rw [decide_eq_false_iff_not]; omega
      rw [e]
      clear e h1 h3
      go_enter Tryz.func82, Tryz.ntmps82
      go_wp2_with fail
      go_ret
      exact ⟨rfl, rfl⟩
    · have e : rcmpI a m a n = 1 := by unfold rcmpI; simp [h3, h4]
      have d2 : decide (m < n) = false := decide_eq_false h3
      have d3 : (m == n) = false := by simpa using h4
      rw [e]
      clear e h1 h3
      go_enter Tryz.func82, Tryz.ntmps82
      go_wp2_with fail
      go_ret
      exact ⟨rfl, rfl⟩
  · have e : rcmpI a m b n = 1 := by unfold rcmpI; simp [h1, h2]
    have d1 : decide ((a : Int) < (b : Int)) = false := by rw [decide_eq_false_iff_not]; omega
    have d2 : ((a : Int) == (b : Int)) = false := by rw [beq_eq_false_iff_ne]; omega
    rw [e]
    generalize (a : Int) = A at *
    generalize (b : Int) = B at *
    clear e h1 h2
    go_enter Tryz.func82, Tryz.ntmps82
    go_wp2_with fail
    go_ret
    exact ⟨rfl, rfl⟩
theorem rrcmp_any (r s : RuleT) (w : World) : Calls Tryz.prog 44 #[rv r, rv s] w fun e w' => e = .returned (.int .i64 (pcmp r.a r.len s.a s.len)) ∧ Below w.heap.size w w' := by
  have hp := fun W => rfcmp_any r.a r.len s.a s.len W
  have HP := Lib.hid hp
  obtain ⟨a, len, act, next⟩ := r
  obtain ⟨a2, len2, act2, next2⟩ := s
  simp only [rv] at HP ⊢
  generalize pcmp (a : Nat) (len : Int) a2 (len2 : Int) = k at *
  clear hp
  go_enter Tryz.func44, Tryz.ntmps44
  go_wp2_with (go_at_call 82; refine (HP.out _).mono ?_; rintro e w' ⟨rfl, rfl⟩)
  go_ret
  exact ⟨rfl, ((Below.refl _ _).alloc (Nat.le_refl _) _).alloc (by simp) _⟩
end Go.Proofs.YtpjoefekhgmlhaaGreat.Tp

namespace Go.Proofs.YtpjoefekhgmlhaaGreat.So
open Go.RowKit Go.Sort

theorem isNaN32 (x : Int) (w : World) : Calls Tryz.prog 155 #[.int .u32 x] w fun e w' => e = .returned (.bool false) ∧ w' = w := by
  go_enter Tryz.func155, Tryz.ntmps155
  go_wp2
  go_ret
  exact ⟨by simp, rfl⟩
theorem less32 (x y : Int) (w : World) : Calls Tryz.prog 150 #[.int .u32 x, .int .u32 y] w fun e w' => e = .returned (.bool (Go.Sort.ltInt x y)) ∧ w' = w := by
  go_enter Tryz.func150, Tryz.ntmps150
  go_wp2_with (go_at_call 155; refine (isNaN32 _ _).mono ?_; rintro e w' ⟨rfl, rfl⟩)
  go_ret
  exact ⟨rfl, rfl⟩

section
variable {α : Type} [Inhabited α] (lt : α → α → Bool)
theorem ins_go (a j : Nat) (d : Array α) (hj : a < j) (hl : lt d[j]! d[j - 1]! = true) : insInner lt a j d = insInner lt a (j - 1) (swp d j (j - 1)) := by
  obtain ⟨k, rfl⟩ : ∃ k, j = k + 1 := ⟨j - 1, by omega⟩
  rw [insInner]
  simp only [Nat.add_sub_cancel] at hl ⊢
  simp [hj, hl]
theorem ins_stop (a j : Nat) (d : Array α) (h : j ≤ a ∨ lt d[j]! d[j - 1]! = false) : insInner lt a j d = d := by
  cases j with
  | zero => rw [insInner]
  | succ k =>
    rw [insInner]
    simp only [Nat.add_sub_cancel] at h
    rcases h with h | h
    · simp [show ¬ k + 1 > a by omega]
    · simp [h]
theorem out_go (a b i : Nat) (d : Array α) (h : i < b) : insOuter lt a b i d = insOuter lt a b (i + 1) (insInner lt a i d) := by rw [insOuter, if_pos h]
theorem out_stop (a b i : Nat) (d : Array α) (h : ¬ i < b) : insOuter lt a b i d = d := by rw [insOuter, if_neg h]
end
section
variable {α : Type} [Inhabited α] (enc : α → Value)
theorem row_drawn (w : World) (m q blk off : Nat) (d : Array α) : (putRow enc (Go.Sort.ahead w m) blk off d).drewN q = putRow enc (Go.Sort.ahead w (m + q)) blk off d := by
  show Go.Sort.ahead (putRow enc (Go.Sort.ahead w m) blk off d) q = _
  rw [putRow_ahead enc w m, ahead_ahead, ← putRow_ahead]
theorem row_swap (w : World) (m q blk off : Nat) (d : Array α) (j k : Nat) (hj : j < d.size) (hk : k < d.size) :
    (((putRow enc (Go.Sort.ahead w m) blk off d).drewN q).setCell ⟨blk, off + j, none⟩ (enc d[k]!)).setCell ⟨blk, off + k, none⟩ (enc d[j]!) = putRow enc (Go.Sort.ahead w (m + q)) blk off (swp d j k) := by
  rw [row_drawn]
  exact putRow_swp enc _ blk off d j k hj hk
end
abbrev encU : Int → Value := Value.int .u32
set_option maxHeartbeats 4000000 in
set_option maxRecDepth 100000 in
theorem ins32 (blk off cap a b : Nat) (d : Array Int) (w : World) (hH : Holds encU w blk off d) (hab : a ≤ b) (hb : b ≤ d.size) (hsz : d.size < 4611686018427387904) :
    Calls Tryz.prog 144 #[.slice (some ⟨blk, off, none⟩) d.size cap, .int .i64 a, .int .i64 b] w fun e w' =>
      e = .returned (.tuple #[]) ∧ ∃ n, w' = putRow encU (Go.Sort.ahead w n) blk off (Go.Sort.insertionSort ltInt d a b) := by
  go_enter Tryz.func144, Tryz.ntmps144
  go_wp2
  go_loopw [6] (fun vi wr => ∃ (i n : Nat) (dk : Array Int), vi = .int .i64 i ∧ a < i ∧ i ≤ b + 1 ∧ dk.size = d.size ∧ wr = putRow encU (Go.Sort.ahead w n) blk off dk ∧
      insOuter ltInt a b i dk = insOuter ltInt a b (a + 1) d) (fun vi _ => b + 1 - (intOf vi).toNat)
  case atStart => exact ⟨a + 1, 0, d, by go_num, by omega, by omega, rfl, (putRow_self _ _ _ _ _ hH).symm, rfl⟩
  case round =>
    obtain ⟨i, n, dk, rfl, hai, hib, hsk, hwr, hO⟩ := hrel
    have HO : Hid (insOuter ltInt a b i dk = insOuter ltInt a b (a + 1) d) := hO
    clear hO
    go_wp2
    · go_loopw [7] (fun vj wr2 => ∃ (j m : Nat) (dj : Array Int), vj = .int .i64 j ∧ a ≤ j ∧ j ≤ i ∧ dj.size = d.size ∧ wr2 = putRow encU (Go.Sort.ahead w m) blk off dj ∧
          insInner ltInt a j dj = insInner ltInt a i dk) (fun vj _ => (intOf vj).toNat)
      case atStart => exact ⟨i, n, dk, rfl, by omega, Nat.le_refl _, hsk, rfl, rfl⟩
      case round =>
        obtain ⟨j, m, dj, rfl, haj, hji, hsj, hw2, hI⟩ := hrel
        have hlt : i < b := by assumption
        obtain ⟨G, hG⟩ : ∃ G : Nat → Int, ∀ t, G t = dj[t]! := ⟨fun t => dj[t]!, fun _ => rfl⟩
        have hcw : ∀ t, t < d.size → wr.cell? ⟨blk, off + t, none⟩ = some (.int .u32 (G t)) := fun t ht => by
          rw [hw2, hG]; exact cell?_putRow _ _ _ _ d dj (holds_ahead _ _ _ _ _ _ hH) hsj t (by omega)
        have hfw : ∀ t, t < d.size → wr.frozen? ⟨blk, off + t, none⟩ = false := fun t ht => by
          rw [hw2, frozen?_putRow]; exact ((holds_ahead _ _ m _ _ _ hH) t ht).2
        have HW : Hid (wr = putRow encU (Go.Sort.ahead w m) blk off dj) := hw2
        have HG : Hid (∀ t, G t = dj[t]!) := hG
        have HI : Hid (insInner ltInt a j dj = insInner ltInt a i dk) := hI
        clear hw2 hG hI hH
        have out : (j ≤ a ∨ ltInt dj[j]! dj[j - 1]! = false) → ∀ q, ∃ i' n' dk', Value.int .i64 ((i : Int) + 1) = .int .i64 (i' : Nat) ∧ a < i' ∧ i' ≤ b + 1 ∧ dk'.size = d.size ∧
            wr.drewN q = putRow encU (Go.Sort.ahead w n') blk off dk' ∧ insOuter ltInt a b i' dk' = insOuter ltInt a b (a + 1) d := fun hs q =>
          ⟨i + 1, m + q, dj, by go_num, by omega, by omega, hsj, by rw [HW.out]; exact row_drawn _ _ _ _ _ _ _,
            by rw [← HO.out, out_go _ _ _ _ _ hlt, ← HI.out, ins_stop _ _ _ _ hs]⟩
        have OUT : Hid _ := out
        clear out
        go_wp2
        by_cases hja : a < j
        · go_quiet (first | (go_at_call 150; refine Calls.quiet_of_same (less32 _ _ _)))
          go_wp2
          · have hl : ltInt (G j) (G (j - 1)) = true := by assumption
            go_region
            all_goals go_wp2
            go_roundw
            case rel =>
              refine ⟨j - 1, m + (nq + 1), swp dj j (j - 1), by congr 1; omega, by omega, by omega, by rw [size_swp]; exact hsj, ?_, ?_⟩
              · rw [HW.out, HG.out, HG.out]
                exact row_swap _ w m (nq + 1) blk off dj j (j - 1) (by omega) (by omega)
              · rw [← HI.out, ins_go ltInt a j dj hja (by rw [← HG.out, ← HG.out]; exact hl)]
            case measure => simp [intOf]; omega
          · have hl : ltInt (G j) (G (j - 1)) = false := by assumption
            go_roundw
            case rel => exact OUT.out (Or.inr (by rw [← HG.out, ← HG.out]; exact hl)) nq
            case measure => simp [intOf]; omega
        · go_quiet (first | (go_at_call 150; refine Calls.quiet_of_same (less32 _ _ _)))
          go_wp2
          go_roundw
          case rel => exact OUT.out (Or.inl (by omega)) nq
          case measure => simp [intOf]; omega
    · have hge : ¬ i < b := by assumption
      go_end0
      exact ⟨rfl, n, by unfold Go.Sort.insertionSort; rw [← HO.out, out_stop _ _ _ _ _ hge]⟩
end Go.Proofs.YtpjoefekhgmlhaaGreat.So

namespace Go.Proofs.YtpjoefekhgmlhaaGreat.So
open Go.RowKit Go.Sort

/-- Some number is told. -/
def LenPost (w : World) (e : Ending) (w' : World) : Prop := (∃ k : Int, e = .returned (.int .i64 k)) ∧ w = w'
set_option maxRecDepth 1000000 in
set_option maxHeartbeats 4000000 in
theorem len64_few (x : Int) (h0 : 0 ≤ x) (h1 : x ≤ 255) (w : World) : Calls Tryz.prog 154 #[.int .u64 x] w (LenPost w) := by
  go_enter Tryz.func154, Tryz.ntmps154
  go_wp2_with fail
  go_ret
  exact ⟨⟨_, rfl⟩, rfl⟩
theorem len_few (x : Int) (h0 : 0 ≤ x) (h1 : x ≤ 255) (w : World) : Calls Tryz.prog 139 #[.int .u64 x] w (LenPost w) := by
  have HL := Lib.hid (len64_few x h0 h1 w)
  go_enter Tryz.func139, Tryz.ntmps139
  go_wp2_with fail
  refine (HL.out).mono ?_
  rintro e w' ⟨⟨k, rfl⟩, rfl⟩
  go_wp2_with fail
  go_ret
  exact ⟨⟨_, rfl⟩, rfl⟩
def SortPost (blk off : Nat) (d : Array Int) (w : World) (e : Ending) (w' : World) : Prop := e = .returned (.tuple #[]) ∧ ∃ n, w' = putRow encU (Go.Sort.ahead w n) blk off (Go.Sort.insertionSort ltInt d 0 d.size)
set_option maxRecDepth 100000 in
set_option maxHeartbeats 1000000 in
theorem pdq_few (blk off cap : Nat) (k : Int) (d : Array Int) (w : World) (hH : Holds encU w blk off d) (hd : d.size ≤ 12) :
    Calls Tryz.prog 138 #[.slice (some ⟨blk, off, none⟩) d.size cap, .int .i64 0, .int .i64 (d.size : Int), .int .i64 k] w (SortPost blk off d w) := by
  have hi := ins32 blk off cap 0 d.size d w hH (by omega) (Nat.le_refl _) (by omega)
  obtain ⟨n, hn⟩ : ∃ n, n = d.size := ⟨_, rfl⟩
  have hi2 : Calls Tryz.prog 144 #[.slice (some ⟨blk, off, none⟩) d.size cap, .int .i64 0, .int .i64 (d.size : Int)] w (SortPost blk off d w) := hi
  have hP : SortPost blk off d w = SortPost blk off d w := rfl
  have hQ : ∀ e w', SortPost blk off d w e w' → e = .returned (.tuple #[]) := fun e w' h => h.1
  generalize SortPost blk off d w = Q at *
  rw [← hn] at hi2 ⊢
  have HI := Lib.hid hi2
  have HQ := Lib.hid hQ
  have h0 : (0 : Int) ≤ (n : Int) := by omega
  have h1 : (n : Int) ≤ 12 := by omega
  clear hi hn hi2 hP hH hQ
  go_enter Tryz.func138, Tryz.ntmps138
  go_wp2_with fail
  refine wp_loop_rounds 1 ?_
  rw [rounds_succ]
  go_wp2_with fail
  refine (HI.out).mono ?_
  rintro e w' h
  obtain rfl := HQ.out _ _ h
  have H := Lib.hid h
  clear h
  go_wp2_with fail
  exact bodyPost_end (v := .tuple #[]) (by simp [results, Tryz.results138, go_sem]) rfl H.out
theorem sort_few (blk off cap : Nat) (d : Array Int) (w : World) (hH : Holds encU w blk off d) (hd : d.size ≤ 12) :
    Calls Tryz.prog 118 #[.slice (some ⟨blk, off, none⟩) d.size cap] w (SortPost blk off d w) := by
  have hi := fun k => pdq_few blk off cap k d w hH hd
  have hQ : ∀ e w', SortPost blk off d w e w' → e = .returned (.tuple #[]) := fun e w' h => h.1
  have hl := fun w => len_few (d.size : Int) (by omega) (by omega) w
  obtain ⟨n, hn⟩ : ∃ n, n = d.size := ⟨_, rfl⟩
  generalize SortPost blk off d w = Q at *
  rw [← hn] at hi hl hd ⊢
  have HI := Lib.hid hi
  have HQ := Lib.hid hQ
  have HL := Lib.hid hl
  have h0 : (0 : Int) ≤ (n : Int) := by omega
  have h1 : (n : Int) ≤ 12 := by omega
  clear hi hn hH hQ hl
  go_enter Tryz.func118, Tryz.ntmps118
  go_wp2_with fail
  refine (HL.out _).mono ?_
  rintro e w' ⟨⟨k, rfl⟩, rfl⟩
  go_wp2_with fail
  refine (HI.out k).mono ?_
  rintro e w' h
  obtain rfl := HQ.out _ _ h
  have H := Lib.hid h
  clear h
  go_wp2_with fail
  exact bodyPost_end (v := .tuple #[]) (by simp [results, Tryz.results118, go_sem]) rfl H.out
end Go.Proofs.YtpjoefekhgmlhaaGreat.So

namespace Go.Proofs.YtpjoefekhgmlhaaGreat.So
open Go.RowKit Go.Maps Go.Shelf

attribute [local go_sem] Oper.semAt_some

theorem encU_inj {x y : Int} (h : encU x = encU y) : x = y := by simpa [encU] using h
theorem keyOf_u32 {P : Program} {k : TypeId} (hk : P.underlying k = some (.int .u32)) {key : Value} {kl : Lit} (h : keyOf P k key = some kl) : ∃ x : Int, key = encU x ∧ kl = .int .u32 x ∧ (Lit.int .u32 x).wf = true := by
  cases key <;> simp [keyOf, hk, mapKey] at h
  rename_i q a
  obtain ⟨⟨rfl, hw⟩, rfl⟩ := h
  exact ⟨a, rfl, rfl, hw⟩
/-- No key twice; a key has come just where the map has it and it is no longer to come. -/
def CollU {H : Type} (D0 : DataW H) (left : Lit → Bool) (ss : List Int) : Prop := ss.Nodup ∧ ∀ x, x ∈ ss ↔ (has D0 (.int .u32 x) = true ∧ left (.int .u32 x) = false)
section
variable {H : Type} {D0 : DataW H} {left : Lit → Bool} {ss : List Int}
theorem CollU.start (D0 : DataW H) : CollU D0 (has D0) [] := ⟨List.nodup_nil, fun x => by cases has D0 (.int .u32 x) <;> simp⟩
theorem CollU.step (h : CollU D0 left ss) {x : Int} {y : DataW H} (hlk : left (.int .u32 x) = true) (hat : ∀ zd, D0.atKey (.int .u32 x) zd = y) : CollU D0 (fun z => left z && !z.sameKey (.int .u32 x)) (ss ++ [x]) := by
  have hhas : has D0 (.int .u32 x) = true := has_true_of_atKey hat
  have hnew : x ∉ ss := fun hx => by have := ((h.2 x).1 hx).2; rw [hlk] at this; cases this
  refine ⟨List.nodup_append.2 ⟨h.1, by simp, fun a ha b hb => by simp at hb; subst hb; exact fun e => hnew (e ▸ ha)⟩, fun y => ?_⟩
  by_cases hy : y = x
  · subst hy; simp [hhas, Lit.sameKey]
  · simp [h.2 y, hy, Lit.sameKey]
end
/-- All keys have come. -/
def KeysCame {H : Type} (D0 : DataW H) (ss : List Int) : Prop := ss.Nodup ∧ ∀ x, x ∈ ss ↔ has D0 (.int .u32 x) = true

set_option maxRecDepth 100000 in
set_option maxHeartbeats 1000000 in
theorem keys1_in {H : Type} (F : Fence) (n : Nat) (hf : F.fn 119) (hro : F.round = none) (hn : 1 ≤ n) (l Bm b nn : Nat) (D0 : DataW H) {R : Value → Option (DataW H × List MemPlace)} (J Jx : List Int → World → Prop)
    (hY : ∀ pre x W, J pre W → pre.length < Maps.size D0 → YieldAt F (n - 1) Tryz.prog l #[encU x] W fun e W' =>
      (e = .returned (.bool true) ∧ J (pre ++ [x]) W' ∧ KeepsWalks W W') ∨ (e = .returned (.bool false) ∧ Jx (pre ++ [x]) W'))
    (W : World) (hJ : AbidesFrom W.heap.size J) (hm : W.cell? ⟨Bm, 0, none⟩ = some (.map (some b))) (hown : W.ownsMap Tryz.prog 25 R b nn D0) (h0 : J [] W) :
    CallsIn F n Tryz.prog 119 #[.func (.yield l) #[] #[], .pointer (some ⟨Bm, 0, none⟩)] W fun e W' => (∃ v, e = .returned v) ∧
      ((∃ ss : List Int, KeysCame D0 ss ∧ J ss W') ∨ (∃ pre : List Int, True ∧ Jx pre W')) := by
  refine callsIn_of_wp Tryz.func119 rfl hf ?_ hro
  simp only [Tryz.ntmps119, List.size_toArray, List.length_cons, List.length_nil, Nat.reduceAdd, Nat.reduceSub, Array.replicate_succ, Array.replicate_zero, List.push_toArray, List.append_toArray, List.nil_append, List.cons_append]
  gi_wp2_with (first
    | (gi_at_range; refine wpListIn_range_own _ rfl _ 157 rfl 25 4 (int_keyed Tryz.underlying25) Tryz.underlying157 _ b nn _ rfl hown ?_; intro w0 hrg0 hg0 hs0)
    | gi_in)
  go_frame
  gi_loopw [3] (fun _ wr => ∃ (left : Lit → Bool) (cnt : Nat) (ss : List Int), wr.ranges Tryz.prog 25 R b W.heap.size nn D0 left cnt ∧ ss.length + cnt ≤ Maps.size D0 ∧ CollU D0 left ss ∧ J ss wr)
    (fun _ wr => wr.rangeLeft b W.heap.size)
  case atStart =>
    exact ⟨_, _, [], hrg0, by simp, CollU.start D0, hJ [] W w0 none h0 hg0 (fun r e => by cases e)⟩
  case round =>
    obtain ⟨left, cnt, ss, hrg, hcs, hC, hJs⟩ := hrel
    gi_wp2_with (first
      | (gi_at_next; refine wpListIn_next_ranges _ rfl _ rfl 25 (int_keyed Tryz.underlying25) R encU id (fun key kl hk => by obtain ⟨x, hx, _⟩ := keyOf_u32 Tryz.underlying25 hk; exact ⟨x, hx⟩) (fun v _ _ => ⟨v, rfl⟩) b W.heap.size nn _ _ _ rfl hrg ?_ ?_)
      | gi_in)
    · intro hc0 hl0
      gi_wp2
      go_end0
      exact ⟨⟨_, rfl⟩, .inl ⟨ss, ⟨hC.1, fun x => by rw [hC.2 x, hl0]; simp⟩, hJs⟩⟩
    · intro x c kl yd yp w2 cnt2 hkey hlk hv hat hrg2 hlt hg2 hs2 hen
      obtain ⟨x', ex, rfl, _⟩ := keyOf_u32 Tryz.underlying25 hkey
      obtain rfl : x = x' := encU_inj ex
      have hJ2 : J ss w2 := hJ ss wr w2 (some W.heap.size) hJs hg2 (fun r e => by cases e; exact ⟨Nat.le_refl _, hrg.iter_walk⟩)
      obtain ⟨fn, tmps, assign, body, hy, hR⟩ := hY ss x w2 hJ2 (by omega)
      clear hs2
      gi_wp2
      refine hR.mono ?_
      have hC2 := hC.step hlk hat
      rintro e W3 (⟨rfl, hJ3, hk3⟩ | ⟨rfl, hJx3⟩)
      · gi_wp2
        have hrg3 := hrg2.of_walks hk3
        go_roundw
        case rel => exact ⟨_, cnt2, ss ++ [x], hrg3, by simp; omega, hC2, hJ3⟩
        case measure => rw [hrg3.left_eq, hrg.left_eq]; exact hlt
      · gi_wp2
        refine bodyPost_ret (results_none rfl _ _ _) rfl ?_
        exact ⟨⟨_, rfl⟩, .inr ⟨ss ++ [x], trivial, hJx3⟩⟩
theorem keys_stops {H : Type} (F : Fence) (n : Nat) (hf : F.fn 119) (hro : F.round = none) (hn : 1 ≤ n) (Bm b nn : Nat) (D0 : DataW H) {R : Value → Option (DataW H × List MemPlace)} (w : World) (hBm : Bm < w.heap.size)
    (hm : w.cell? ⟨Bm, 0, none⟩ = some (.map (some b))) (hown : w.ownsMap Tryz.prog 25 R b nn D0) :
    SeqStopsK F n Tryz.prog 119 #[.pointer (some ⟨Bm, 0, none⟩)] (fun x : Int => #[encU x]) KeepsWalks (KeysCame D0) (fun _ => True) (Maps.size D0) w := fun l J Jx W hW hJ _ hY h0 => by
  have hown' : W.ownsMap Tryz.prog 25 R b nn D0 := by
    have hbl := hown.lt
    obtain ⟨es, clock, hb, Ft, hs, hD⟩ := hown
    exact ⟨es, clock, (hW.block b hbl).trans hb, Ft, hs, hD⟩
  exact keys1_in F n hf hro hn l Bm b nn D0 J Jx hY W hJ ((hW.cell (p := ⟨Bm, 0, none⟩) hBm).trans hm) hown' h0
end Go.Proofs.YtpjoefekhgmlhaaGreat.So

namespace Go.Proofs.YtpjoefekhgmlhaaGreat.So
open Go.RowKit Go.Maps Go.Shelf

attribute [local go_sem] Oper.semAt_some

theorem u32i_info : (Tryz.prog.info? 25).map (fun i => (i.zero, i.size, i.bytes)) = some (some (.int .u32 0), 1, 4) := by kernel_rfl
/-- What the iterator gives is told in a new slice. -/
def CollPost (S : List Int → Prop) (w : World) (e : Ending) (w' : World) : Prop := ∃ v xs, e = .returned v ∧ S xs ∧ w'.ownsRow w.heap.size 25 1 v xs.length (xs.map encU) ∧ (v = .slice none 0 0 ↔ xs = []) ∧ Below w.heap.size w w'
set_option maxRecDepth 100000 in
set_option maxHeartbeats 2000000 in
theorem appseq_in (F : Fence) (n : Nat) (hf : F.fn 137) (hro : F.round = none) (hn : 3 ≤ n) (g : Nat) (lb : Array Value) (hFg : F.fn g) (eg : ∀ args w, (callFunc g args).run Tryz.prog w = .ok (.enter g args) w) (S Sp : List Int → Prop) (N : Nat) (hN : N ≤ 1000000) (w : World)
    (hseq : SeqStopsK F (n - 1) Tryz.prog g lb (fun x : Int => #[encU x]) KeepsWalks S Sp N w) :
    CallsIn F n Tryz.prog 137 #[.slice none 0 0, .func (.func g) #[] lb] w (CollPost S w) := by
  have h1 : 1 ≤ n := by omega
  obtain ⟨i0, hi, hz0, hz1, hz2⟩ := info_parts u32i_info
  refine callsIn_of_wp_marks Tryz.func137 rfl hf ?_ hro
  simp only [Tryz.ntmps137, List.size_toArray, List.length_cons, List.length_nil, Nat.reduceAdd, Nat.reduceSub, Array.replicate_succ, Array.replicate_zero, List.push_toArray, List.append_toArray, List.nil_append, List.cons_append]
  gi_wp2
  have bO := Boxed.new w 39 (.slice none 0 0)
  have hB0 : Below w.heap.size w (w.alloc (.cells #[.slice none 0 0] 39)) := (Below.refl _ w).alloc (Nat.le_refl _) _
  refine wpIn_rangeFunc_ownG hro h1 (gf := g) (lb := lb) rfl hFg eg hseq walksK_t walksK_b hB0 (fun _ => rfl)
    (fun pre W => (∃ v, Boxed W w.heap.size 39 v ∧ W.ownsRow w.heap.size 25 1 v pre.length (pre.map encU) ∧ (v = .slice none 0 0 ↔ pre = []) ∧ pre.length ≤ N) ∧ Below w.heap.size w W)
    (fun _ _ _ => False) ?hI (fun _ _ _ _ _ hs _ _ => hs) ⟨⟨_, bO, World.ownsRow_nil _ _ _ _, by simp, by simp⟩, hB0⟩ ?a1 ?assign ?body ?done ?stop
  case hI => exact OwnFrom.and (Own.from (holdsRow_own w.heap.size w.heap.size 39 25 1 (fun pre : List Int => pre.length) (fun pre => pre.map encU) (fun pre v => (v = .slice none 0 0 ↔ pre = []) ∧ pre.length ≤ N)) _) (ownFrom_below (Nat.le_refl _) (by simp))
  case a1 => exact fun x => { tmps := #[.slice none 0 0, .func (.func g) #[] lb, .pointer (some ⟨w.heap.size, 0, none⟩), undef, .slice none 0 0, encU x, .func (.func g) #[] lb, encU x, undef, undef, undef, undef, undef], defers := [] }
  case assign =>
    intro l x W K hK
    gi_wp2
    exact hK
  case body =>
    rintro l pre x W ⟨⟨v, hv, hrow, hnil, hpN⟩, hB⟩ hlt
    have hc := hv.cell
    gi_wp2_with (gi_at_builtin; refine wpListIn_append_own _ rfl _ _ 39 rfl w.heap.size 25 i0 (.int .u32 0) 1 4 Tryz.underlying39 hi hz0 hz1 hz2 rfl (by decide) _ _ _ rfl (hrow.alloc _) ⟨W.heap.size, 0, none⟩ 1 1 [encU x] rfl rfl (cell_one_new _ _ _) (by simp [Value.oneCell']) (by simp only [maxLen]; omega) (by omega) (by have := hB.size; simp; omega) ?_; intro v' w1 hown' hgrow _; obtain ⟨g', cap', rfl⟩ := ownsRow_succ hown'; obtain ⟨hv1, hv2, hr2, hk2, hb2⟩ := hv.appended (by decide) hrow hB.size (Nat.le_refl _) hown' hgrow; have hc1 := hv1.cell; have hf1 := hv1.frozen)
    exact ⟨hk2.from _, hk2.walks, ⟨_, hv2, by simpa using hr2, by simp, by simp; omega⟩, hB.trans hb2⟩
  case done =>
    rintro D ys W hD hS ⟨⟨v, hv, hrow, hnil, _⟩, hB⟩ hK
    have hc := hv.cell
    gi_wp2
    refine ⟨by simp, .inl ⟨_, _, rfl, run_takeDeferred hK, ?_⟩⟩
    exact ⟨_, results_tmp rfl _ _ _, v, ys, rfl, hS, ownsRow_putObj hrow _ hK rfl, hnil, hB.trans (belowK_b (w := w) (Nat.le_refl _) W D _ _ (by simp at hD; omega) hK rfl rfl)⟩
  case stop =>
    rintro D c pre W _ _ h _
    exact h.elim
set_option maxHeartbeats 1000000 in
theorem collect_any (g : Nat) (lb : Array Value) (eg : ∀ args w, (callFunc g args).run Tryz.prog w = .ok (.enter g args) w) (S Sp : List Int → Prop) (N : Nat) (hN : N ≤ 1000000) (w : World)
    (hseq : SeqStopsK Fence.wide 9 Tryz.prog g lb (fun x : Int => #[encU x]) KeepsWalks S Sp N w) :
    Calls Tryz.prog 117 #[.func (.func g) #[] lb] w (CollPost S w) := by
  have hc : Calls Tryz.prog 137 #[.slice none 0 0, .func (.func g) #[] lb] w (CollPost S w) := callsIn_wide.1 (appseq_in Fence.wide 10 trivial rfl (by omega) g lb trivial eg S Sp N hN w hseq)
  have HC := Lib.hid hc
  clear hc hseq eg
  go_enter Tryz.func117, Tryz.ntmps117
  go_wp2_with fail
  refine (HC.out).mono ?_
  rintro e w2 ⟨v, xs, rfl, hS, hown, hnil, hb⟩
  have HS := Lib.hid hS
  have HO := Lib.hid hown
  have HN := Lib.hid hnil
  have HB := Lib.hid hb
  clear hS hown hnil hb HC
  go_wp2_with fail
  go_ret
  exact ⟨v, xs, rfl, HS.out, HO.out, HN.out, HB.out⟩
end Go.Proofs.YtpjoefekhgmlhaaGreat.So
