/- CONTRACTS: math/bits.Len32, LeadingZeros32, addr.Bit, addr.Common. Conditions: addresses below 2^32.
CONTRACT of slices.Sort at uint32, of 12 numbers at most.
CONTRACTS: maps.Keys and slices.Collect at uint32: the keys come, each once, in some order.
CONTRACT of slices.Sorted(maps.Keys(m)) at uint32, of 12 keys at most.
WORDS for rows that hold rows: what lies away from the block that is being written; an append that tells where the row is.
CONTRACT of slices.Sorted(seq) at uint32: what the iterator gives, in order. Conditions: what slices.Sort is known to sort. -/
import Derived.Test.YtpjoefekhgmlhaaGreatMa09
import Derived.Lib.BitFns
import Derived.Lib.ItoaNum
import Derived.Test.YtpjoefekhgmlhaaGreatMa06
import Derived.RangeFuncBox
import Derived.RangeFuncLeaves
import Derived.RangeFuncStops
import Derived.RangeFuncWrites
import Derived.Sort.MapsRangeIn
import Derived.Sort.KeysCollected
import Derived.Shelf.Abstract
import Derived.OwnWalkIn
import Derived.TacticsInMore
import Derived.LoopNIn
import Derived.LoopIn
import Derived.Maps.AppendAt
namespace Go.Proofs.YtpjoefekhgmlhaaGreat.Tp
open Go.RowKit Mem

theorem len32_any (x : Int) (w : World) (h0 : 0 ≤ x) (h1 : x ≤ 4294967295) :
    Calls Tryz.prog 153 #[.int .u32 x] w fun e w' => e = .returned (.int .i64 (Lib.bitLen x.toNat)) ∧ w = w' := by
  by_cases c1 : x ≤ 255
  · have e := Lib.len8_of x h0 c1
    have l := Lib.bitLen_le8' x h0 c1
    have H := Lib.hid e
    have HL := Lib.hid l
    clear e l
    go_enter Tryz.func153, Tryz.ntmps153
    go_wp2_with fail
    go_ret
    have := HL.out
    refine ⟨ret_int ?_, rfl⟩
    rw [H.out]
    unfold wrap64
    omega
  by_cases c2 : x ≤ 65535
  · have d0 : (0 : Int) ≤ x / 256 := by omega
    have d1 : x / 256 ≤ (255 : Int) := by omega
    have d2 : (256 : Int) ≤ x := by omega
    have e := Lib.len8_of (x / 256) d0 d1
    have l := Lib.bitLen_le8' (x / 256) d0 d1
    have s := Lib.bitLen_shift8 x.toNat (by omega) (by omega)
    rw [show x.toNat / 256 = (x / 256).toNat by omega] at s
    have H := Lib.hid e
    have HL := Lib.hid l
    have HS := Lib.hid s
    clear e l s c1
    go_enter Tryz.func153, Tryz.ntmps153
    go_wp2_with fail
    go_ret
    have := HL.out
    refine ⟨ret_int ?_, rfl⟩
    rw [H.out, HS.out]
    unfold wrap64
    omega
  by_cases c3 : x ≤ 16777215
  · have d0 : (0 : Int) ≤ x / 65536 := by omega
    have d1 : x / 65536 ≤ (255 : Int) := by omega
    have d2 : (65536 : Int) ≤ x := by omega
    have e := Lib.len8_of (x / 65536) d0 d1
    have l := Lib.bitLen_le8' (x / 65536) d0 d1
    have s := Lib.bitLen_shift16 x.toNat (by omega) (by omega)
    rw [show x.toNat / 65536 = (x / 65536).toNat by omega] at s
    have H := Lib.hid e
    have HL := Lib.hid l
    have HS := Lib.hid s
    clear e l s c1 c2
    go_enter Tryz.func153, Tryz.ntmps153
    go_wp2_with fail
    go_ret
    have := HL.out
    refine ⟨ret_int ?_, rfl⟩
    rw [H.out, HS.out]
    unfold wrap64
    omega
  · have d0 : (0 : Int) ≤ x / 65536 / 256 := by omega
    have d1 : x / 65536 / 256 ≤ (255 : Int) := by omega
    have d2 : (16777216 : Int) ≤ x := by omega
    have e := Lib.len8_of (x / 65536 / 256) d0 d1
    have l := Lib.bitLen_le8' (x / 65536 / 256) d0 d1
    have s := Lib.bitLen_shift24 x.toNat (by omega) (by omega)
    rw [show x.toNat / 16777216 = (x / 65536 / 256).toNat by omega] at s
    have H := Lib.hid e
    have HL := Lib.hid l
    have HS := Lib.hid s
    clear e l s c1 c2 c3
    go_enter Tryz.func153, Tryz.ntmps153
    go_wp2_with fail
    go_ret
    have := HL.out
    refine ⟨ret_int ?_, rfl⟩
    rw [H.out, HS.out]
    unfold wrap64
    omega
/-- How many first bits are alike. -/
def common (x y : Nat) : Nat := 32 - Lib.bitLen (x ^^^ y)
theorem bitLen_iff {x k : Nat} (hx : x < 4294967296) (hk : k ≤ 32) : Lib.bitLen x ≤ k ↔ x < 2 ^ k := by
  constructor
  · intro h
    by_cases e : x = 0
    · subst e; exact Nat.two_pow_pos k
    · have hb : x < 2 ^ 64 := by omega
      have h1 := (Lib.bitLenAux_bounds 64 x hb e).2.2
      have h2 : 2 ^ Lib.bitLenAux 64 x ≤ 2 ^ k := Nat.pow_le_pow_right (by omega) h
      omega
  · intro h
    exact Lib.bitLen_le x k (by omega) h
theorem le_common {x y m : Nat} (hx : x < 4294967296) (hy : y < 4294967296) (hm : m ≤ 32) : m ≤ common x y ↔ agree x y m := by
  have hxy : x ^^^ y < 4294967296 := Nat.xor_lt_two_pow (n := 32) hx hy
  have h32 : Lib.bitLen (x ^^^ y) ≤ 32 := (bitLen_iff hxy (by omega)).2 hxy
  have h1 : m ≤ common x y ↔ Lib.bitLen (x ^^^ y) ≤ 32 - m := by unfold common; omega
  rw [h1, bitLen_iff hxy (by omega)]
  unfold agree wid
  have h2 : (x ^^^ y) / 2 ^ (32 - m) = (x / 2 ^ (32 - m)) ^^^ (y / 2 ^ (32 - m)) := by
    rw [← Nat.shiftRight_eq_div_pow, ← Nat.shiftRight_eq_div_pow, ← Nat.shiftRight_eq_div_pow, Nat.shiftRight_xor_distrib]
  constructor
  · intro h
    have h3 := Nat.div_eq_of_lt h
    rw [h2] at h3
    exact Nat.eq_of_testBit_eq fun i => by
      have h4 := congrArg (fun n => n.testBit i) h3
      simp only [Nat.testBit_xor, Nat.zero_testBit] at h4
      cases h5 : (x / 2 ^ (32 - m)).testBit i <;> cases h6 : (y / 2 ^ (32 - m)).testBit i <;> simp_all
  · intro h
    have h3 : (x ^^^ y) / 2 ^ (32 - m) = 0 := by rw [h2, h, Nat.xor_self]
    rcases Nat.div_eq_zero_iff.1 h3 with h4 | h4
    · have := Nat.two_pow_pos (32 - m)
      omega
    · exact h4
theorem common_le (x y : Nat) : common x y ≤ 32 := by unfold common; omega
theorem common_any (x y : Nat) (hx : x < 4294967296) (hy : y < 4294967296) (w : World) :
    Calls Tryz.prog 143 #[.int .u32 (x : Int), .int .u32 (y : Int)] w fun e w' => e = .returned (.int .i64 ((common x y : Nat) : Int)) ∧ w = w' := by
  have hxy : x ^^^ y < 4294967296 := Nat.xor_lt_two_pow (n := 32) hx hy
  have hb := u32_xor_nat x y hx hy
  have h32 : Lib.bitLen (x ^^^ y) ≤ 32 := (bitLen_iff hxy (by omega)).2 hxy
  have hl := fun w => len32_any ((x ^^^ y : Nat) : Int) w (by omega) (by omega)
  rw [Int.toNat_natCast] at hl
  have hc : (32 : Int) - ((Lib.bitLen (x ^^^ y) : Nat) : Int) = ((common x y : Nat) : Int) := by unfold common; omega
  generalize common x y = cm at *
  generalize Lib.bitLen (x ^^^ y) = bl at *
  generalize x ^^^ y = z at *
  have HL := Lib.hid hl
  have HC := Lib.hid hc
  have hlz : ∀ w, Calls Tryz.prog 157 #[.int .u32 (z : Int)] w fun e w' => e = .returned (.int .i64 (cm : Int)) ∧ w = w' := fun w => by
    clear hl hc hb
    go_enter Tryz.func157, Tryz.ntmps157
    go_wp2_with fail
    refine (HL.out _).mono ?_
    rintro e w' ⟨rfl, rfl⟩
    go_wp2_with fail
    go_ret
    exact ⟨ret_int HC.out, rfl⟩
  have HZ := Lib.hid hlz
  clear hl hc hlz hxy h32
  go_enter Tryz.func143, Tryz.ntmps143
  go_wp2_with fail
  refine (HZ.out _).mono ?_
  rintro e w' ⟨rfl, rfl⟩
  go_wp2_with fail
  go_ret
  exact ⟨rfl, rfl⟩
theorem bit_any (a i : Nat) (ha : a < 4294967296) (hi : i ≤ 31) (w : World) :
    Calls Tryz.prog 135 #[.int .u32 (a : Int), .int .i64 (i : Int)] w fun e w' => e = .returned (.int .i64 ((bitN a i : Nat) : Int)) ∧ w = w' := by
  have hz : a / 2 ^ (31 - i) < 4294967296 := Nat.lt_of_le_of_lt (Nat.div_le_self _ _) ha
  have t0 : decide ((i : Int) < 0) = false := by rw [decide_eq_false_iff_not]; omega
  have t1 : decide ((i : Int) > 31) = false := by rw [decide_eq_false_iff_not]; omega
  have hb : bits .and .u32 ((a : Int) / 2 ^ (31 - i)) 1 = ((bitN a i : Nat) : Int) := by
    rw [show ((a : Int) / 2 ^ (31 - i)) = ((a / 2 ^ (31 - i) : Nat) : Int) by rw [Int.natCast_ediv, Int.natCast_pow]; rfl]
    have := u32_and_nat (a / 2 ^ (31 - i)) 1 hz (by omega)
    rw [show ((1 : Nat) : Int) = 1 by rfl] at this
    rw [this, Nat.and_one_is_mod]
    rfl
  have h2 : wrap64 ((bitN a i : Nat) : Int) = ((bitN a i : Nat) : Int) := IntWalk.wrap64_in _ (by have := bitN_two a i; omega)
  generalize bitN a i = bv at *
  have HB := Lib.hid hb
  have H2 := Lib.hid h2
  clear hb h2 hz
  go_enter Tryz.func135, Tryz.ntmps135
  go_wp2_with fail
  go_ret
  exact ⟨ret_int (by rw [HB.out, H2.out]), rfl⟩
theorem bit32 (a : Nat) (w : World) :
    Calls Tryz.prog 135 #[.int .u32 (a : Int), .int .i64 32] w fun e w' => e = .returned (.int .i64 0) ∧ w = w' := by
  go_enter Tryz.func135, Tryz.ntmps135
  go_wp2_with fail
  go_ret
  exact ⟨rfl, rfl⟩
end Go.Proofs.YtpjoefekhgmlhaaGreat.Tp

namespace Go.Proofs.YtpjoefekhgmlhaaGreat.So
open Go.RowKit Go.Sort

/-- Some number is told. -/
def LenPost (w : World) (e : Ending) (w' : World) : Prop := (∃ k : Int, e = .returned (.int .i64 k)) ∧ w = w'
set_option maxRecDepth 1000000 in
set_option maxHeartbeats 4000000 in
theorem len64_few (x : Int) (h0 : 0 ≤ x) (h1 : x ≤ 255) (w : World) : Calls Tryz.prog 154 #[.int .u64 x] w (LenPost w) := by
  go_enter Tryz.func154, Tryz.ntmps154
  go_wp2_with fail
  go_ret
  exact ⟨⟨_, rfl⟩, rfl⟩
theorem len_few (x : Int) (h0 : 0 ≤ x) (h1 : x ≤ 255) (w : World) : Calls Tryz.prog 139 #[.int .u64 x] w (LenPost w) := by
  have HL := Lib.hid (len64_few x h0 h1 w)
  go_enter Tryz.func139, Tryz.ntmps139
  go_wp2_with fail
  refine (HL.out).mono ?_
  rintro e w' ⟨⟨k, rfl⟩, rfl⟩
  go_wp2_with fail
  go_ret
  exact ⟨⟨_, rfl⟩, rfl⟩
def SortPost (blk off : Nat) (d : Array Int) (w : World) (e : Ending) (w' : World) : Prop := e = .returned (.tuple #[]) ∧ ∃ n, w' = putRow encU (Go.Sort.ahead w n) blk off (Go.Sort.insertionSort ltInt d 0 d.size)
set_option maxRecDepth 100000 in
set_option maxHeartbeats 1000000 in
theorem pdq_few (blk off cap : Nat) (k : Int) (d : Array Int) (w : World) (hH : Holds encU w blk off d) (hd : d.size ≤ 12) :
    Calls Tryz.prog 138 #[.slice (some ⟨blk, off, none⟩) d.size cap, .int .i64 0, .int .i64 (d.size : Int), .int .i64 k] w (SortPost blk off d w) := by
  have hi := ins32 blk off cap 0 d.size d w hH (by omega) (Nat.le_refl _) (by omega)
  obtain ⟨n, hn⟩ : ∃ n, n = d.size := ⟨_, rfl⟩
  have hi2 : Calls Tryz.prog 144 #[.slice (some ⟨blk, off, none⟩) d.size cap, .int .i64 0, .int .i64 (d.size : Int)] w (SortPost blk off d w) := hi
  have hP : SortPost blk off d w = SortPost blk off d w := rfl
  have hQ : ∀ e w', SortPost blk off d w e w' → e = .returned (.tuple #[]) := fun e w' h => h.1
  generalize SortPost blk off d w = Q at *
  rw [← hn] at hi2 ⊢
  have HI := Lib.hid hi2
  have HQ := Lib.hid hQ
  have h0 : (0 : Int) ≤ (n : Int) := by omega
  have h1 : (n : Int) ≤ 12 := by omega
  clear hi hn hi2 hP hH hQ
  go_enter Tryz.func138, Tryz.ntmps138
  go_wp2_with fail
  refine wp_loop_rounds 1 ?_
  rw [rounds_succ]
  go_wp2_with fail
  refine (HI.out).mono ?_
  rintro e w' h
  obtain rfl := HQ.out _ _ h
  have H := Lib.hid h
  clear h
  go_wp2_with fail
  exact bodyPost_end (v := .tuple #[]) (by simp [results, Tryz.results138, go_sem]) rfl H.out
theorem sort_few (blk off cap : Nat) (d : Array Int) (w : World) (hH : Holds encU w blk off d) (hd : d.size ≤ 12) :
    Calls Tryz.prog 118 #[.slice (some ⟨blk, off, none⟩) d.size cap] w (SortPost blk off d w) := by
  have hi := fun k => pdq_few blk off cap k d w hH hd
  have hQ : ∀ e w', SortPost blk off d w e w' → e = .returned (.tuple #[]) := fun e w' h => h.1
  have hl := fun w => len_few (d.size : Int) (by omega) (by omega) w
  obtain ⟨n, hn⟩ : ∃ n, n = d.size := ⟨_, rfl⟩
  generalize SortPost blk off d w = Q at *
  rw [← hn] at hi hl hd ⊢
  have HI := Lib.hid hi
  have HQ := Lib.hid hQ
  have HL := Lib.hid hl
  have h0 : (0 : Int) ≤ (n : Int) := by omega
  have h1 : (n : Int) ≤ 12 := by omega
  clear hi hn hH hQ hl
  go_enter Tryz.func118, Tryz.ntmps118
  go_wp2_with fail
  refine (HL.out _).mono ?_
  rintro e w' ⟨⟨k, rfl⟩, rfl⟩
  go_wp2_with fail
  refine (HI.out k).mono ?_
  rintro e w' h
  obtain rfl := HQ.out _ _ h
  have H := Lib.hid h
  clear h
  go_wp2_with fail
  exact bodyPost_end (v := .tuple #[]) (by simp [results, Tryz.results118, go_sem]) rfl H.out
end Go.Proofs.YtpjoefekhgmlhaaGreat.So

namespace Go.Proofs.YtpjoefekhgmlhaaGreat.So
open Go.RowKit Go.Maps Go.Shelf

attribute [local go_sem] Oper.semAt_some

theorem encU_inj {x y : Int} (h : encU x = encU y) : x = y := by simpa [encU] using h
theorem keyOf_u32 {P : Program} {k : TypeId} (hk : P.underlying k = some (.int .u32)) {key : Value} {kl : Lit} (h : keyOf P k key = some kl) : ∃ x : Int, key = encU x ∧ kl = .int .u32 x ∧ (Lit.int .u32 x).wf = true := by
  cases key <;> simp [keyOf, hk, mapKey] at h
  rename_i q a
  obtain ⟨⟨rfl, hw⟩, rfl⟩ := h
  exact ⟨a, rfl, rfl, hw⟩
/-- No key twice; a key has come just where the map has it and it is no longer to come. -/
def CollU {H : Type} (D0 : DataW H) (left : Lit → Bool) (ss : List Int) : Prop := ss.Nodup ∧ ∀ x, x ∈ ss ↔ (has D0 (.int .u32 x) = true ∧ left (.int .u32 x) = false)
section
variable {H : Type} {D0 : DataW H} {left : Lit → Bool} {ss : List Int}
theorem CollU.start (D0 : DataW H) : CollU D0 (has D0) [] := ⟨List.nodup_nil, fun x => by cases has D0 (.int .u32 x) <;> simp⟩
theorem CollU.step (h : CollU D0 left ss) {x : Int} {y : DataW H} (hlk : left (.int .u32 x) = true) (hat : ∀ zd, D0.atKey (.int .u32 x) zd = y) : CollU D0 (fun z => left z && !z.sameKey (.int .u32 x)) (ss ++ [x]) := by
  have hhas : has D0 (.int .u32 x) = true := has_true_of_atKey hat
  have hnew : x ∉ ss := fun hx => by have := ((h.2 x).1 hx).2; rw [hlk] at this; cases this
  refine ⟨List.nodup_append.2 ⟨h.1, by simp, fun a ha b hb => by simp at hb; subst hb; exact fun e => hnew (e ▸ ha)⟩, fun y => ?_⟩
  by_cases hy : y = x
  · subst hy; simp [hhas, Lit.sameKey]
  · simp [h.2 y, hy, Lit.sameKey]
end
/-- All keys have come. -/
def KeysCame {H : Type} (D0 : DataW H) (ss : List Int) : Prop := ss.Nodup ∧ ∀ x, x ∈ ss ↔ has D0 (.int .u32 x) = true

set_option maxRecDepth 100000 in
set_option maxHeartbeats 1000000 in
theorem keys1_in {H : Type} (F : Fence) (n : Nat) (hf : F.fn 119) (hro : F.round = none) (hn : 1 ≤ n) (l Bm b nn : Nat) (D0 : DataW H) {R : Value → Option (DataW H × List MemPlace)} (J Jx : List Int → World → Prop)
    (hY : ∀ pre x W, J pre W → pre.length < Maps.size D0 → YieldAt F (n - 1) Tryz.prog l #[encU x] W fun e W' =>
      (e = .returned (.bool true) ∧ J (pre ++ [x]) W' ∧ KeepsWalks W W') ∨ (e = .returned (.bool false) ∧ Jx (pre ++ [x]) W'))
    (W : World) (hJ : AbidesFrom W.heap.size J) (hm : W.cell? ⟨Bm, 0, none⟩ = some (.map (some b))) (hown : W.ownsMap Tryz.prog 25 R b nn D0) (h0 : J [] W) :
    CallsIn F n Tryz.prog 119 #[.func (.yield l) #[] #[], .pointer (some ⟨Bm, 0, none⟩)] W fun e W' => (∃ v, e = .returned v) ∧
      ((∃ ss : List Int, KeysCame D0 ss ∧ J ss W') ∨ (∃ pre : List Int, True ∧ Jx pre W')) := by
  refine callsIn_of_wp Tryz.func119 rfl hf ?_ hro
  simp only [Tryz.ntmps119, List.size_toArray, List.length_cons, List.length_nil, Nat.reduceAdd, Nat.reduceSub, Array.replicate_succ, Array.replicate_zero, List.push_toArray, List.append_toArray, List.nil_append, List.cons_append]
  gi_wp2_with (first
    | (gi_at_range; refine wpListIn_range_own _ rfl _ 157 rfl 25 4 (int_keyed Tryz.underlying25) Tryz.underlying157 _ b nn _ rfl hown ?_; intro w0 hrg0 hg0 hs0)
    | gi_in)
  go_frame
  gi_loopw [3] (fun _ wr => ∃ (left : Lit → Bool) (cnt : Nat) (ss : List Int), wr.ranges Tryz.prog 25 R b W.heap.size nn D0 left cnt ∧ ss.length + cnt ≤ Maps.size D0 ∧ CollU D0 left ss ∧ J ss wr)
    (fun _ wr => wr.rangeLeft b W.heap.size)
  case atStart =>
    exact ⟨_, _, [], hrg0, by simp, CollU.start D0, hJ [] W w0 none h0 hg0 (fun r e => by cases e)⟩
  case round =>
    obtain ⟨left, cnt, ss, hrg, hcs, hC, hJs⟩ := hrel
    gi_wp2_with (first
      | (gi_at_next; refine wpListIn_next_ranges _ rfl _ rfl 25 (int_keyed Tryz.underlying25) R encU id (fun key kl hk => by obtain ⟨x, hx, _⟩ := keyOf_u32 Tryz.underlying25 hk; exact ⟨x, hx⟩) (fun v _ _ => ⟨v, rfl⟩) b W.heap.size nn _ _ _ rfl hrg ?_ ?_)
      | gi_in)
    · intro hc0 hl0
      gi_wp2
      go_end0
      exact ⟨⟨_, rfl⟩, .inl ⟨ss, ⟨hC.1, fun x => by rw [hC.2 x, hl0]; simp⟩, hJs⟩⟩
    · intro x c kl yd yp w2 cnt2 hkey hlk hv hat hrg2 hlt hg2 hs2 hen
      obtain ⟨x', ex, rfl, _⟩ := keyOf_u32 Tryz.underlying25 hkey
      obtain rfl : x = x' := encU_inj ex
      have hJ2 : J ss w2 := hJ ss wr w2 (some W.heap.size) hJs hg2 (fun r e => by cases e; exact ⟨Nat.le_refl _, hrg.iter_walk⟩)
      obtain ⟨fn, tmps, assign, body, hy, hR⟩ := hY ss x w2 hJ2 (by omega)
      clear hs2
      gi_wp2
      refine hR.mono ?_
      have hC2 := hC.step hlk hat
      rintro e W3 (⟨rfl, hJ3, hk3⟩ | ⟨rfl, hJx3⟩)
      · gi_wp2
        have hrg3 := hrg2.of_walks hk3
        go_roundw
        case rel => exact ⟨_, cnt2, ss ++ [x], hrg3, by simp; omega, hC2, hJ3⟩
        case measure => rw [hrg3.left_eq, hrg.left_eq]; exact hlt
      · gi_wp2
        refine bodyPost_ret (results_none rfl _ _ _) rfl ?_
        exact ⟨⟨_, rfl⟩, .inr ⟨ss ++ [x], trivial, hJx3⟩⟩
theorem keys_stops {H : Type} (F : Fence) (n : Nat) (hf : F.fn 119) (hro : F.round = none) (hn : 1 ≤ n) (Bm b nn : Nat) (D0 : DataW H) {R : Value → Option (DataW H × List MemPlace)} (w : World) (hBm : Bm < w.heap.size)
    (hm : w.cell? ⟨Bm, 0, none⟩ = some (.map (some b))) (hown : w.ownsMap Tryz.prog 25 R b nn D0) :
    SeqStopsK F n Tryz.prog 119 #[.pointer (some ⟨Bm, 0, none⟩)] (fun x : Int => #[encU x]) KeepsWalks (KeysCame D0) (fun _ => True) (Maps.size D0) w := fun l J Jx W hW hJ _ hY h0 => by
  have hown' : W.ownsMap Tryz.prog 25 R b nn D0 := by
    have hbl := hown.lt
    obtain ⟨es, clock, hb, Ft, hs, hD⟩ := hown
    exact ⟨es, clock, (hW.block b hbl).trans hb, Ft, hs, hD⟩
  exact keys1_in F n hf hro hn l Bm b nn D0 J Jx hY W hJ ((hW.cell (p := ⟨Bm, 0, none⟩) hBm).trans hm) hown' h0
end Go.Proofs.YtpjoefekhgmlhaaGreat.So

namespace Go.Proofs.YtpjoefekhgmlhaaGreat.So
open Go.RowKit Go.Maps Go.Shelf

attribute [local go_sem] Oper.semAt_some

theorem u32i_info : (Tryz.prog.info? 25).map (fun i => (i.zero, i.size, i.bytes)) = some (some (.int .u32 0), 1, 4) := by kernel_rfl
/-- What the iterator gives is told in a new slice. -/
def CollPost (S : List Int → Prop) (w : World) (e : Ending) (w' : World) : Prop := ∃ v xs, e = .returned v ∧ S xs ∧ w'.ownsRow w.heap.size 25 1 v xs.length (xs.map encU) ∧ (v = .slice none 0 0 ↔ xs = []) ∧ Below w.heap.size w w'
set_option maxRecDepth 100000 in
set_option maxHeartbeats 2000000 in
theorem appseq_in (F : Fence) (n : Nat) (hf : F.fn 137) (hro : F.round = none) (hn : 3 ≤ n) (g : Nat) (lb : Array Value) (hFg : F.fn g) (eg : ∀ args w, (callFunc g args).run Tryz.prog w = .ok (.enter g args) w) (S Sp : List Int → Prop) (N : Nat) (hN : N ≤ 1000000) (w : World)
    (hseq : SeqStopsK F (n - 1) Tryz.prog g lb (fun x : Int => #[encU x]) KeepsWalks S Sp N w) :
    CallsIn F n Tryz.prog 137 #[.slice none 0 0, .func (.func g) #[] lb] w (CollPost S w) := by
  have h1 : 1 ≤ n := by omega
  obtain ⟨i0, hi, hz0, hz1, hz2⟩ := info_parts u32i_info
  refine callsIn_of_wp_marks Tryz.func137 rfl hf ?_ hro
  simp only [Tryz.ntmps137, List.size_toArray, List.length_cons, List.length_nil, Nat.reduceAdd, Nat.reduceSub, Array.replicate_succ, Array.replicate_zero, List.push_toArray, List.append_toArray, List.nil_append, List.cons_append]
  gi_wp2
  have bO := Boxed.new w 39 (.slice none 0 0)
  have hB0 : Below w.heap.size w (w.alloc (.cells #[.slice none 0 0] 39)) := (Below.refl _ w).alloc (Nat.le_refl _) _
  refine wpIn_rangeFunc_ownG hro h1 (gf := g) (lb := lb) rfl hFg eg hseq walksK_t walksK_b hB0 (fun _ => rfl)
    (fun pre W => (∃ v, Boxed W w.heap.size 39 v ∧ W.ownsRow w.heap.size 25 1 v pre.length (pre.map encU) ∧ (v = .slice none 0 0 ↔ pre = []) ∧ pre.length ≤ N) ∧ Below w.heap.size w W)
    (fun _ _ _ => False) ?hI (fun _ _ _ _ _ hs _ _ => hs) ⟨⟨_, bO, World.ownsRow_nil _ _ _ _, by simp, by simp⟩, hB0⟩ ?a1 ?assign ?body ?done ?stop
  case hI => exact OwnFrom.and (Own.from (holdsRow_own w.heap.size w.heap.size 39 25 1 (fun pre : List Int => pre.length) (fun pre => pre.map encU) (fun pre v => (v = .slice none 0 0 ↔ pre = []) ∧ pre.length ≤ N)) _) (ownFrom_below (Nat.le_refl _) (by simp))
  case a1 => exact fun x => { tmps := #[.slice none 0 0, .func (.func g) #[] lb, .pointer (some ⟨w.heap.size, 0, none⟩), undef, .slice none 0 0, encU x, .func (.func g) #[] lb, encU x, undef, undef, undef, undef, undef], defers := [] }
  case assign =>
    intro l x W K hK
    gi_wp2
    exact hK
  case body =>
    rintro l pre x W ⟨⟨v, hv, hrow, hnil, hpN⟩, hB⟩ hlt
    have hc := hv.cell
    gi_wp2_with (gi_at_builtin; refine wpListIn_append_own _ rfl _ _ 39 rfl w.heap.size 25 i0 (.int .u32 0) 1 4 Tryz.underlying39 hi hz0 hz1 hz2 rfl (by decide) _ _ _ rfl (hrow.alloc _) ⟨W.heap.size, 0, none⟩ 1 1 [encU x] rfl rfl (cell_one_new _ _ _) (by simp [Value.oneCell']) (by simp only [maxLen]; omega) (by omega) (by have := hB.size; simp; omega) ?_; intro v' w1 hown' hgrow _; obtain ⟨g', cap', rfl⟩ := ownsRow_succ hown'; obtain ⟨hv1, hv2, hr2, hk2, hb2⟩ := hv.appended (by decide) hrow hB.size (Nat.le_refl _) hown' hgrow; have hc1 := hv1.cell; have hf1 := hv1.frozen)
    exact ⟨hk2.from _, hk2.walks, ⟨_, hv2, by simpa using hr2, by simp, by simp; omega⟩, hB.trans hb2⟩
  case done =>
    rintro D ys W hD hS ⟨⟨v, hv, hrow, hnil, _⟩, hB⟩ hK
    have hc := hv.cell
    gi_wp2
    refine ⟨by simp, .inl ⟨_, _, rfl, run_takeDeferred hK, ?_⟩⟩
    exact ⟨_, results_tmp rfl _ _ _, v, ys, rfl, hS, ownsRow_putObj hrow _ hK rfl, hnil, hB.trans (belowK_b (w := w) (Nat.le_refl _) W D _ _ (by simp at hD; omega) hK rfl rfl)⟩
  case stop =>
    rintro D c pre W _ _ h _
    exact h.elim
set_option maxHeartbeats 1000000 in
theorem collect_any (g : Nat) (lb : Array Value) (eg : ∀ args w, (callFunc g args).run Tryz.prog w = .ok (.enter g args) w) (S Sp : List Int → Prop) (N : Nat) (hN : N ≤ 1000000) (w : World)
    (hseq : SeqStopsK Fence.wide 9 Tryz.prog g lb (fun x : Int => #[encU x]) KeepsWalks S Sp N w) :
    Calls Tryz.prog 117 #[.func (.func g) #[] lb] w (CollPost S w) := by
  have hc : Calls Tryz.prog 137 #[.slice none 0 0, .func (.func g) #[] lb] w (CollPost S w) := callsIn_wide.1 (appseq_in Fence.wide 10 trivial rfl (by omega) g lb trivial eg S Sp N hN w hseq)
  have HC := Lib.hid hc
  clear hc hseq eg
  go_enter Tryz.func117, Tryz.ntmps117
  go_wp2_with fail
  refine (HC.out).mono ?_
  rintro e w2 ⟨v, xs, rfl, hS, hown, hnil, hb⟩
  have HS := Lib.hid hS
  have HO := Lib.hid hown
  have HN := Lib.hid hnil
  have HB := Lib.hid hb
  clear hS hown hnil hb HC
  go_wp2_with fail
  go_ret
  exact ⟨v, xs, rfl, HS.out, HO.out, HN.out, HB.out⟩
end Go.Proofs.YtpjoefekhgmlhaaGreat.So

namespace Go.Proofs.YtpjoefekhgmlhaaGreat.Tp
open Go.RowKit Mem

/-- The cells xs lie from A on, not in the block 'own'. -/
structure Held (w : World) (own : Option Nat) (A : Option Addr) (xs : List Value) : Prop where
  lies : Lies w A xs
  apart : 0 < xs.length → ∀ a, A = some a → own ≠ some a.block
theorem Held.below {w w' : World} {own : Option Nat} {A : Option Addr} {xs : List Value} (h : Held w own A xs) (hb : Below w.heap.size w w') : Held w' own A xs := ⟨h.lies.below hb, h.apart⟩
theorem Held.step {w w' : World} {own own' : Option Nat} {A : Option Addr} {xs : List Value} (h : Held w own A xs) (hg : w.grownBy w' own) (hat : own' = own ∨ own' = some w.heap.size) : Held w' own' A xs := by
  by_cases hx : 0 < xs.length
  · refine ⟨lies_grown h.lies hg (h.apart hx), fun _ a ha => ?_⟩
    rcases hat with rfl | rfl
    · exact h.apart hx a ha
    · obtain ⟨b, off, e, hb, _⟩ := h.lies hx
      rw [ha] at e
      injection e with e
      intro e2
      injection e2 with e2
      rw [e] at e2
      have : w.heap.size = b := e2
      omega
  · have : xs = [] := List.length_eq_zero_iff.1 (by omega)
    subst this
    exact ⟨Lies.nil _ _, fun h => absurd h (by simp)⟩
theorem Held.none {w : World} {own : Option Nat} {A : Option Addr} {xs : List Value} (h : Held w own A xs) : Held w .none A xs := ⟨h.lies, fun _ _ _ e => by cases e⟩
theorem Held.of {w : World} {A : Option Addr} {xs : List Value} (h : Lies w A xs) : Held w .none A xs := ⟨h, fun _ _ _ e => by cases e⟩
/-- What has been made since w0 lies away from a block of before. -/
theorem Held.fresh {w0 w : World} {own : Option Nat} {A : Option Addr} {xs : List Value} (h : Lies w A xs) (hn : ∀ a, A = some a → w0.heap.size ≤ a.block) (ho : ∀ g, own = some g → g < w0.heap.size) : Held w own A xs :=
  ⟨h, fun _ a ha e => by have h1 := hn a ha; have h2 := ho _ e; omega⟩

/-- What the call owns is new. -/
theorem new_of {w wr : World} {R : Option Addr} {e : TypeId} {size n c k : Nat} {xs : List Value} (h : wr.ownsRow w.heap.size e size (.slice R n c) k xs) : Gr.New w R := fun a ha => by
  subst ha
  rcases h.2 with ⟨h1, _⟩ | ⟨g, cap, cur, hv, hg, _⟩
  · cases h1
  · injection hv with hA _ _
    injection hA with hA
    rw [hA]; exact hg
theorem wpList_appN {P : Program} {ops : Array Oper} {rest : List Oper} {o : Oper} {a : Act} {Q : Exit → Act → World → Prop} (hgd : o.guard = .none) (s x : Operand) (t : TypeId)
    (ho : o.op = .call { callee := .builtin .append, args := #[s, x], argTypes := #[t, t] }) {e : TypeId} {size bytes : Nat} {z : Value} (ht : P.underlying t = some (.slice e))
    (hinfo : (P.info? e).map (fun i => (i.zero, i.size, i.bytes)) = some (some z, size, bytes)) (hzs : z.cells.size = size) (hsz : 0 < size) (hby : bytes ≤ 64)
    (w W : World) (hb : Below w.heap.size w W) (S : Option Addr) (n cp : Nat) (xs : List Value) (hs : a.eval s = .slice S n cp) (hown : W.ownsRow w.heap.size e size (.slice S n cp) n xs)
    (A : Option Addr) (m c : Nat) (ys : List Value) (hx : a.eval x = .slice A m c) (hl : ys.length = m * size) (hr : Lies W A ys) (h1 : ∀ u ∈ ys, u.oneCell' = true) (h63 : n + m ≤ 1099511627776)
    (h : ∀ S' cp' W', W'.ownsRow w.heap.size e size (.slice S' (n + m) cp') (n + m) (xs ++ ys) → n + m ≤ cp' → cp' ≤ 9223372036854775807 → Below w.heap.size w W' → W.grownBy W' (Value.slice S n cp).ownBlock →
      ((Value.slice S' (n + m) cp').ownBlock = (Value.slice S n cp).ownBlock ∨ (Value.slice S' (n + m) cp').ownBlock = some W.heap.size) →
      wpList P ops Q rest (a.put o.dst (.slice S' (n + m) cp')) W') :
    wpList P ops Q (o :: rest) a W := by
  obtain ⟨i0, hi, hz0, hz1, hz2⟩ := info_parts hinfo
  have hnb : (n + m) * bytes ≤ 140737488355328 := Nat.le_trans (Nat.mul_le_mul h63 hby) (by omega)
  refine wpList_append_lies W hgd s x t ho w.heap.size e i0 z size bytes ht hi hz0 hz1 hz2 hzs hsz (.slice S n cp) n xs hs hown A m c ys hx hl hr h1 (by simp only [maxLen]; omega) hnb hb.size ?_
  intro v' W' hown' hg hat
  obtain ⟨S', cp', rfl, hc1, hc2⟩ := own_form hown'
  exact h S' cp' W' hown' hc1 hc2 (hb.grown hg hb.size fun g hg' => (hown.lt g hg').1) hg hat
end Go.Proofs.YtpjoefekhgmlhaaGreat.Tp

namespace Go.Proofs.YtpjoefekhgmlhaaGreat.So
open Go.RowKit Go.Sort Mem

abbrev leZ : Int → Int → Bool := fun x y => decide (x ≤ y)
/-- The row of block g holds the numbers in order; nothing else has turned. -/
def SortM (g : Nat) (xs : List Int) (w : World) (e : Ending) (w' : World) : Prop := e = .returned (.tuple #[]) ∧ Lies w' (some ⟨g, 0, none⟩) ((xs.mergeSort leZ).map encU) ∧ ∀ base, base ≤ g → base ≤ w.heap.size → RowKit.Below base w w'
/-- slices.Sort sorts as many as M numbers. -/
def SortsTo (M : Nat) : Prop := ∀ (g cap : Nat) (xs : List Int) (W : World), Holds encU W g 0 xs.toArray → g < W.heap.size → xs.length ≤ M →
  Calls Tryz.prog 118 #[.slice (some ⟨g, 0, none⟩) xs.length cap] W (SortM g xs W)
theorem below_putRow {w : World} {g n base : Nat} (d : Array Int) (hb : base ≤ g) : RowKit.Below base w (putRow encU (Go.Sort.ahead w n) g 0 d) := by
  refine ⟨rfl, rfl, rfl, by simp, fun k hk => ?_⟩
  have : g ≠ k := by omega
  simp [putRow, mapBlock, Go.Sort.ahead, Array.getElem?_modify, this]
theorem lies_holds {w : World} {g : Nat} {d : Array Int} (h : Holds encU w g 0 d) (hg : g < w.heap.size) : Lies w (some ⟨g, 0, none⟩) (d.toList.map encU) := fun _ => by
  refine ⟨g, 0, rfl, hg, fun i u hu => ?_⟩
  rw [List.getElem?_map] at hu
  obtain ⟨x, hx, rfl⟩ := Option.map_eq_some_iff.1 hu
  obtain ⟨hi, hx2⟩ := List.getElem?_eq_some_iff.1 hx
  have hi' : i < d.size := by simpa using hi
  have h1 := (h i hi').1
  rw [h1, ← hx2]
  simp [hi']
theorem ins_merge (xs : List Int) : (Go.Sort.insertionSort ltInt xs.toArray 0 xs.toArray.size).toList = xs.mergeSort leZ := by
  obtain ⟨h1, h2⟩ := insertionSort_holds (lt := ltInt) swo_ltInt xs.toArray 0 xs.toArray.size (Nat.zero_le _) (Nat.le_refl _)
  have h := sorted_unique_holds swo_ltInt (fun x y h1 h2 => by simp only [ltInt, decide_eq_false_iff_not] at h1 h2; omega) xs.toArray _ h1 h2
  rw [h]
  congr 1
  funext x y
  show (!decide (y < x)) = decide (x ≤ y)
  by_cases h : x ≤ y
  · have h' : ¬ y < x := by omega
    simp [h, h']
  · have h' : y < x := by omega
    simp [h, h']
theorem sorts_few : SortsTo 12 := fun g cap xs W hH hg hl => by
  have hs := sort_few g 0 cap xs.toArray W hH (by simpa using hl)
  have e : xs.toArray.size = xs.length := by simp
  rw [e] at hs
  refine hs.mono ?_
  rintro e w' ⟨rfl, n, rfl⟩
  have hm := ins_merge xs
  have hsz : (Go.Sort.insertionSort ltInt xs.toArray 0 xs.toArray.size).size = xs.toArray.size := by
    have := congrArg List.length hm
    rw [List.length_mergeSort] at this
    simpa using this
  refine ⟨rfl, ?_, fun base hb _ => below_putRow _ hb⟩
  rw [← hm]
  exact lies_holds (holds_putRow encU (Go.Sort.ahead W n) g 0 xs.toArray _ (holds_ahead _ _ _ _ _ _ hH) hsz) (by simpa using hg)
theorem holds_block {w : World} {g : Nat} {cur : Array Value} {e : TypeId} {ss : List Int} (hb : w.heap[g]? = some (.cells cur e (0, 0))) (ht : cur.toList.take ss.length = ss.map encU) : Holds encU w g 0 ss.toArray := by
  intro j hj
  have hj' : j < ss.length := by simpa using hj
  refine ⟨?_, frozen_of_row _ _ _ _ e hb⟩
  have h1 : (cur.toList.take ss.length)[j]? = (ss.map encU)[j]? := by rw [ht]
  rw [List.getElem?_take_of_lt hj'] at h1
  rw [cell_of_row _ _ _ cur e (0, 0) hb, Nat.zero_add, ← Array.getElem?_toList, h1]
  simp [hj']
/-- Numbers in order are told, in a new slice. -/
def SortedPost (S : List Int → Prop) (w : World) (e : Ending) (w' : World) : Prop := ∃ R m xs, e = .returned (.slice R xs.length m) ∧ S xs ∧ Lies w' R ((xs.mergeSort leZ).map encU) ∧ RowKit.Below w.heap.size w w' ∧ xs.length ≤ m ∧ m ≤ 9223372036854775807 ∧ Gr.New w R
set_option maxHeartbeats 1000000 in
theorem sorted_any (M : Nat) (hM : SortsTo M) (g : Nat) (lb : Array Value) (eg : ∀ args w, (callFunc g args).run Tryz.prog w = .ok (.enter g args) w) (S Sp : List Int → Prop) (N : Nat) (hN : N ≤ 1000000) (hS : ∀ xs, S xs → xs.length ≤ M) (hne : ∀ xs, S xs → xs ≠ []) (w : World)
    (hseq : SeqStopsK Fence.wide 9 Tryz.prog g lb (fun x : Int => #[encU x]) KeepsWalks S Sp N w) :
    Calls Tryz.prog 86 #[.func (.func g) #[] lb] w (SortedPost S w) := by
  have hc := collect_any g lb eg S Sp N hN w hseq
  have HC := Lib.hid hc
  have HM := Lib.hid hM
  have HS := Lib.hid hS
  have HNE := Lib.hid hne
  clear hc hM hS hseq eg hne
  go_enter Tryz.func86, Tryz.ntmps86
  go_wp2_with fail
  refine (HC.out).mono ?_
  rintro e w2 ⟨v, xs, rfl, hSx, hown, hnil, hb⟩
  have HSX := Lib.hid hSx
  have HB := Lib.hid hb
  rcases hown.2 with ⟨rfl, hz⟩ | ⟨gb, cap, cur, rfl, hbase, hgb, r1, r2, r3, r4⟩
  · exact absurd (hnil.1 rfl) (HNE.out xs hSx)
  · have hgl : gb < w2.heap.size := by
      rcases Nat.lt_or_ge gb w2.heap.size with h' | h'
      · exact h'
      · rw [Array.getElem?_eq_none h'] at hgb; cases hgb
    have hH := holds_block (ss := xs) hgb (by simpa using r4)
    have hs := HM.out gb cap xs w2 hH hgl (HS.out xs hSx)
    have HSO := Lib.hid hs
    clear hs hown hnil hb hSx HC hH hgb r3 r4
    go_wp2_with fail
    refine (HSO.out).mono ?_
    rintro e w3 ⟨rfl, hL, hbl⟩
    have hb3 := HB.out.trans (hbl w.heap.size hbase HB.out.size)
    have HL := Lib.hid hL
    have HB3 := Lib.hid hb3
    clear hL hbl hb3
    go_wp2_with fail
    go_ret
    exact ⟨_, cap, xs, rfl, HSX.out, HL.out, HB3.out, r1, by simp only [maxLen] at r2; omega, fun a ha => by injection ha with ha; rw [← ha]; exact hbase⟩
end Go.Proofs.YtpjoefekhgmlhaaGreat.So
