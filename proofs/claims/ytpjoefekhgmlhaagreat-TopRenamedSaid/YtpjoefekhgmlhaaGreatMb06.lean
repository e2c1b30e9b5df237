/- WALK: the table of the steps of all bytes from 0 on. No condition. · WALKS: sums of bytes that go on, sums of bytes, the first 100 bytes, the example of the document. Conditions: the sum is below 2^32, the slice reads as bytes. · CONTRACTS of package prefix. Conditions: lengths 0 to 32, addresses below 2^32. · CONTRACTS of rules: rule.May, rule.Compare. Conditions: the rule may be. · CONTRACTS of tables: table.May. Conditions: the table may be. -/
import Derived.Test.YtpjoefekhgmlhaaGreatMb05
import Derived.Deep.LoopGhost
import Derived.Laws.Rows
import Derived.Laws.Tables
import Derived.Lib.SlBytesConst
import Derived.Laws.BitsAllLaws
import Derived.Laws.ShiftsVarLaws
import Derived.StillTailTactics
import Derived.Deep.RegionWith
import Derived.Deep.QuietTactic
import Derived.BigQuiet
import Derived.IntWalk
namespace Go.Proofs.YtpjoefekhgmlhaaGreat.Crc
open Go.RowKit

def zeros : Array Value := Array.replicate 256 (Value.int .u32 0)
theorem zeros_size : zeros.size = 256 := Array.size_replicate
theorem zeros_mem {v : Value} (h : v ∈ zeros) : v = Value.int .u32 0 := (Array.mem_replicate.1 h).2
theorem zero35 (w : World) : (zeroValue 212).run Tryz.prog w = .ok (.agg zeros) w := by kernel_rfl
theorem size35 : (Tryz.prog.info? 212).map (·.size) = some 256 := by kernel_rfl
theorem step_zero (c : Nat) (hc : c < 256) (w : World) :
    Calls Tryz.prog 142 #[.int .u32 0, .int .u8 (c : Int)] w fun e w' => e = .returned (.int .u32 ((cstep 0 c : Nat) : Int)) ∧ w = w' := step_any 0 c (by omega) hc w

/-- After k rounds: the first k places hold the steps of k and all below. -/
def TabRel (w : World) (k : Nat) (wr : World) : Prop := ∃ cs : Array Value, wr.heap[w.heap.size]? = some (.cells cs 212 (0, 0)) ∧ cs.size = 256 ∧ (∀ v ∈ cs, v.oneCell' = true) ∧ (∀ i, i < k → cs[i]? = some (.int .u32 ((cstep 0 i : Nat) : Int))) ∧ Below w.heap.size w wr
theorem TabRel.start (w : World) : TabRel w 0 (w.alloc (.cells zeros 212)) :=
  ⟨zeros, heap_alloc_new w _, zeros_size, by intro v hv; rw [zeros_mem hv]; rfl, fun i hi => absurd hi (by omega), (Below.refl _ _).alloc (Nat.le_refl _) _⟩
theorem TabRel.cell {w wr : World} {k : Nat} (h : TabRel w k wr) {i : Nat} (hi : i < 256) : ∃ v, wr.cell? ⟨w.heap.size, i, none⟩ = some v := by
  obtain ⟨cs, hh, hs, _⟩ := h
  exact ⟨cs[i], by rw [cell_of_row wr _ i cs 212 (0, 0) hh]; exact Array.getElem?_eq_getElem (by omega)⟩
theorem TabRel.free {w wr : World} {k : Nat} (h : TabRel w k wr) (i : Nat) : wr.frozen? ⟨w.heap.size, i, none⟩ = false := by
  obtain ⟨cs, hh, _⟩ := h
  exact frozen_of_row wr _ i cs 212 hh
theorem TabRel.next {w wr : World} {k : Nat} (h : TabRel w k wr) (hk : k < 256) : TabRel w (k + 1) (wr.setCell ⟨w.heap.size, k, none⟩ (.int .u32 ((cstep 0 k : Nat) : Int))) := by
  obtain ⟨cs, hh, hs, h1, h2, hb⟩ := h
  refine ⟨_, heap_setCell_same wr _ k cs 212 _ hh, by simpa using hs, ?_, ?_, hb.setCell (Nat.le_refl _) _⟩
  · intro v hv
    rcases Array.mem_or_eq_of_mem_setIfInBounds hv with hv | hv
    · exact h1 v hv
    · subst hv; rfl
  · intro i hi
    rw [Array.getElem?_setIfInBounds]
    by_cases e : k = i
    · subst e; rw [if_pos rfl, if_pos (by omega)]
    · rw [if_neg e]; exact h2 i (by omega)

set_option maxRecDepth 100000 in
set_option maxHeartbeats 400000 in
theorem table_any (w : World) :
    Calls Tryz.prog 132 #[] w fun e w' => ∃ cs : Array Value, e = .returned (.agg cs) ∧ cs.size = 256 ∧ (∀ v ∈ cs, v.oneCell' = true) ∧ (∀ i, i < 256 → cs[i]? = some (.int .u32 ((cstep 0 i : Nat) : Int))) ∧ Below w.heap.size w w' := by
  have hz := zero35
  go_enter Tryz.func132, Tryz.ntmps132
  go_wp2
  clear hz
  go_loopw [2] (fun i wr => ∃ k : Nat, k ≤ 256 ∧ i = .int .i64 k ∧ TabRel w k wr) (fun i _ => 256 - (intOf i).toNat)
  case atStart => exact ⟨0, by omega, rfl, TabRel.start w⟩
  case round =>
    obtain ⟨k, hk, rfl, hT⟩ := hrel
    by_cases hlt : k < 256
    · obtain ⟨v0, hc⟩ := hT.cell hlt
      have hf := hT.free k
      have hn := hT.next hlt
      go_wp2_with (go_at_call 142; refine (step_zero k hlt _).mono ?_; rintro e w' ⟨rfl, rfl⟩)
      go_roundw
      case rel => exact ⟨k + 1, by omega, by go_num, hn⟩
      case measure => simp [intOf]; omega
    · obtain rfl : k = 256 := by omega
      obtain ⟨cs, hh, hs, h1, h2, hb⟩ := hT
      have hi : (Tryz.prog.info? 212).map (·.size) = some cs.size := by rw [hs]; exact size35
      have h1' : cs.all (·.oneCell') = true := by rw [Array.all_eq_true_iff_forall_mem]; exact h1
      have HS := Lib.hid hs
      clear hs
      go_wp2_with (first
        | (with_reducible refine wpList_load_row rfl 212 _ rfl w.heap.size rfl 212 cs (0, 0) _ hh Tryz.underlying212 rfl hi ?_)
        | (with_reducible refine wpList_store_row rfl 212 _ _ rfl w.heap.size cs rfl rfl 212 cs hh hi rfl h1' ?_))
      have hh' := setRow_heap wr w.heap.size cs cs 212 (0, 0) hh
      refine bodyPost_ret (v := .agg cs) (results_cell_row (p := 0) (ty := 212) rfl _ _ w.heap.size 212 cs (0, 0) _ rfl hh' Tryz.underlying212 rfl hi) rfl ⟨cs, rfl, HS.out, h1, h2, ?_⟩
      exact hb.trans ⟨rfl, rfl, rfl, by simp, fun i hi => setRow_other _ _ _ _ (by omega)⟩
end Go.Proofs.YtpjoefekhgmlhaaGreat.Crc

namespace Go.Proofs.YtpjoefekhgmlhaaGreat.Crc
open Go.RowKit

/-- A slice that reads as the numbers l, each a byte; of a slice of none nothing is asked of the address. -/
def Bytes (w : World) (A : Option Addr) (l : List Nat) : Prop :=
  (∀ c ∈ l, c < 256) ∧ (0 < l.length → ∃ b off, A = some ⟨b, off, none⟩ ∧ b < w.heap.size ∧ ∀ i c, l[i]? = some c → w.cell? ⟨b, off + i, none⟩ = some (.int .u8 ((c : Nat) : Int)))
theorem Bytes.below {w w' : World} {A : Option Addr} {l : List Nat} (h : Bytes w A l) (hb : Below w.heap.size w w') : Bytes w' A l :=
  ⟨h.1, fun hn => by
    obtain ⟨b, off, e, hlt, hc⟩ := h.2 hn
    exact ⟨b, off, e, Nat.lt_of_lt_of_le hlt hb.size, fun i c hi => (hb.cell (p := ⟨b, off + i, none⟩) hlt).trans (hc i c hi)⟩⟩
/-- What one round asks: that the slice has an address, and what lies at place k. -/
theorem Bytes.at_ {w : World} {A : Option Addr} {l : List Nat} (h : Bytes w A l) {k : Nat} (hk : k < l.length) :
    ∃ b off c, A = some ⟨b, off, none⟩ ∧ b < w.heap.size ∧ c < 256 ∧ l[k]? = some c ∧ w.cell? ⟨b, off + k, none⟩ = some (.int .u8 ((c : Nat) : Int)) := by
  obtain ⟨b, off, e, hlt, hc⟩ := h.2 (by omega)
  exact ⟨b, off, l[k], e, hlt, h.1 _ (List.getElem_mem hk), List.getElem?_eq_getElem hk, hc k _ (List.getElem?_eq_getElem hk)⟩

theorem not_u32 (s : Nat) (h : s < 4294967296) : bits .xor .u32 IntKind.u32.max (s : Int) = ((cnot s : Nat) : Int) := by
  have e : IntKind.u32.max = ((4294967295 : Nat) : Int) := by rfl
  rw [e, u32_xor_nat _ _ (by omega) h, cnot_eq h]
theorem xor_all (s : Nat) (h : s < 4294967296) : bits .xor .u32 (s : Int) 4294967295 = ((cnot s : Nat) : Int) := by
  have e := u32_xor_nat s 4294967295 h (by omega)
  rw [cnot_xor' h] at e
  exact e
theorem place_u8 (x c : Nat) (hc : c < 256) : bits .xor .u8 ((x : Int) % 256) (c : Int) = (((x % 256) ^^^ c : Nat) : Int) := by
  rw [show (x : Int) % 256 = ((x % 256 : Nat) : Int) by omega, u8_xor_nat _ _ (by omega) hc]
theorem place_lt (x c : Nat) (hc : c < 256) : (x % 256) ^^^ c < 256 := Nat.xor_lt_two_pow (n := 8) (by omega) (by omega)
theorem next_u32 (x c : Nat) (hx : x < 4294967296) (hc : c < 256) : bits .xor .u32 ((x : Int) / 256) ((cstep 0 ((x % 256) ^^^ c) : Nat) : Int) = ((cstep x c : Nat) : Int) := by
  rw [show (x : Int) / 256 = ((x / 256 : Nat) : Int) by omega, u32_xor_nat _ _ (by omega) (cstep_lt (by omega) (place_lt x c hc)), ← cstep_table]
theorem take_next {l : List Nat} {k c : Nat} (h : l[k]? = some c) (s : Nat) : cfold s (l.take (k + 1)) = cstep (cfold s (l.take k)) c := by
  obtain ⟨hk, rfl⟩ := List.getElem?_eq_some_iff.1 h
  rw [List.take_succ_eq_append_getElem hk, cfold_snoc]

set_option maxRecDepth 100000 in
set_option maxHeartbeats 400000 in
theorem more_any (s : Nat) (hs : s < 4294967296) (A : Option Addr) (cap : Nat) (l : List Nat) (hl : l.length ≤ 9223372036854775807) (w : World) (hB : Bytes w A l) :
    Calls Tryz.prog 106 #[.int .u32 (s : Int), .slice A l.length cap] w fun e w' => e = .returned (.int .u32 ((cmore s l : Nat) : Int)) ∧ Below w.heap.size w w' := by
  have hz := zero35
  have hn := not_u32 s hs
  go_enter Tryz.func106, Tryz.ntmps106
  go_wp2_with (first
    | (go_at_call 132; refine (table_any _).mono ?_; rintro e w1 ⟨cs, rfl, hsz, h1, h2, hb1⟩; have hi : (Tryz.prog.info? 212).map (·.size) = some cs.size := (by rw [hsz]; exact size35); have h1' : cs.all (·.oneCell') = true := (by rw [Array.all_eq_true_iff_forall_mem]; exact h1); have HS := Lib.hid hsz; clear hsz)
    | (with_reducible refine wpList_store_row rfl 212 _ _ rfl w1.heap.size cs rfl rfl 212 zeros (heap_alloc_new w1 _) hi (by rw [zeros_size]; exact HS.out.symm) h1' ?_))
  clear hn hz hi h1'
  have hb2 : Below w1.heap.size w1 ((w1.alloc (Obj.cells zeros 212)).setRow w1.heap.size cs) :=
    ((Below.refl _ w1).alloc (Nat.le_refl _) _).trans ⟨rfl, rfl, rfl, by simp, fun i hi => setRow_other _ _ _ _ (by omega)⟩
  have hB2 := (hB.below hb1).below hb2
  have hT : ∀ i, i < 256 → ((w1.alloc (Obj.cells zeros 212)).setRow w1.heap.size cs).cell? ⟨w1.heap.size, i, none⟩ = some (.int .u32 ((cstep 0 i : Nat) : Int)) := fun i hi =>
    (cell_setRow_same _ _ i zeros cs 212 (0, 0) (heap_alloc_new w1 _)).trans (h2 i hi)
  have hend := hb1.trans (hb2.mono hb1.size)
  generalize hW : (w1.alloc (Obj.cells zeros 212)).setRow w1.heap.size cs = W at *
  clear hW hb2 h1 h2
  have HT := Lib.hid hT
  clear hT
  go_loop [0, 13] (fun x i => ∃ k t : Nat, k ≤ l.length ∧ t < 4294967296 ∧ Hid (t = cfold (cnot s) (l.take k)) ∧ i = .int .i64 k ∧ x = .int .u32 t) (fun _ i => l.length - (intOf i).toNat)
  case atStart => exact ⟨0, cnot s, by omega, cnot_lt _, rfl, rfl, rfl⟩
  case round =>
    obtain ⟨k, t, hk, ht, H, rfl, rfl⟩ := hrel
    by_cases hlt : k < l.length
    · obtain ⟨b, off, c, rfl, hb, hc, hx, hcell⟩ := hB2.at_ hlt
      have p1 := place_u8 t c hc
      have p2 := place_lt t c hc
      have p3 := HT.out _ p2
      have HX := Lib.hid hx
      have HC := Lib.hid hc
      clear hx
      go_wp2
      go_round
      case rel => exact ⟨k + 1, cstep t c, by omega, cstep_lt ht HC.out, (by rw [show t = _ from H.out]; exact (take_next HX.out _).symm), by go_num, by rw [next_u32 t c ht HC.out]⟩
      case measure => simp [intOf]; omega
    · have hn := not_u32 t ht
      go_wp2
      go_ret
      refine ⟨ret_int ?_, hend⟩
      have e := H.out
      rw [List.take_of_length_le (by omega)] at e
      rw [e]; rfl

set_option maxHeartbeats 400000 in
theorem sum_any (A : Option Addr) (cap : Nat) (l : List Nat) (hl : l.length ≤ 9223372036854775807) (w : World) (hB : Bytes w A l) :
    Calls Tryz.prog 71 #[.slice A l.length cap] w fun e w' => e = .returned (.int .u32 ((cmore 0 l : Nat) : Int)) ∧ Below w.heap.size w w' := by
  have hm : Calls Tryz.prog 106 #[.int .u32 0, .slice A l.length cap] w fun e w' => e = .returned (.int .u32 ((cmore 0 l : Nat) : Int)) ∧ Below w.heap.size w w' := more_any 0 (by omega) A cap l hl w hB
  have HM := Lib.hid hm
  clear hm
  go_enter Tryz.func71, Tryz.ntmps71
  go_wp2_with (go_at_call 106; refine (HM.out).mono ?_; rintro e w1 ⟨rfl, hb1⟩)
  go_ret
  exact ⟨rfl, hb1⟩
end Go.Proofs.YtpjoefekhgmlhaaGreat.Crc

namespace Go.Proofs.YtpjoefekhgmlhaaGreat.Tp
open Go.RowKit Mem

theorem shl_mask (n : Nat) (hn : n ≤ 32) : (4294967295 : Int) * 2 ^ (32 - n) % 4294967296 = ((maskN n : Nat) : Int) := by
  rw [← mask_shl n (by omega), Int.natCast_emod, Int.natCast_mul, Int.natCast_pow]
  rfl
set_option maxRecDepth 100000 in
set_option maxHeartbeats 400000 in
theorem mask_any (n : Nat) (hn : n ≤ 32) (w : World) : Calls Tryz.prog 116 #[.int .i64 (n : Int)] w fun e w' => e = .returned (.int .u32 ((maskN n : Nat) : Int)) ∧ w = w' := by
  have hw := shl_mask n hn
  have HW := Lib.hid hw
  have h0 : (0 : Int) ≤ (n : Int) := by omega
  clear hw
  go_enter Tryz.func116, Tryz.ntmps116
  go_wp2_with fail
  go_ret
  exact ⟨ret_int HW.out, rfl⟩

theorem pmay_any (x n : Nat) (hx : x < 4294967296) (hn : n ≤ 32) (hz : x % wid n = 0) (w : World) : Calls Tryz.prog 112 #[.int .u32 (x : Int), .int .i64 (n : Int)] w fun e w' => e = .returned (.int .i64 0) ∧ w = w' := by
  have hm := mask_any n hn w
  have hml := mask_lt n (by omega)
  have hb : bits .andNot .u32 (x : Int) ((maskN n : Nat) : Int) = 0 := by rw [u32_andNot_nat x _ hx hml, andNot_mask hn, hz]; rfl
  have HM := Lib.hid hm
  have h0 : (0 : Int) ≤ (n : Int) := by omega
  generalize maskN n = m at *
  clear hm hz hx hml
  go_enter Tryz.func112, Tryz.ntmps112
  go_wp2_with (go_at_call 116; refine (HM.out).mono ?_; rintro e w' ⟨rfl, rfl⟩)
  go_ret
  exact ⟨rfl, rfl⟩

theorem holds_any (x n a : Nat) (hx : x < 4294967296) (ha : a < 4294967296) (hn : n ≤ 32) (w : World) : Calls Tryz.prog 123 #[.int .u32 (x : Int), .int .i64 (n : Int), .int .u32 (a : Int)] w fun e w' => e = .returned (.bool (holdsB x n a)) ∧ w = w' := by
  have hm := mask_any n hn w
  have hml := mask_lt n (by omega)
  have hxy : x ^^^ a < 4294967296 := Nat.xor_lt_two_pow (n := 32) hx ha
  have hb1 := u32_xor_nat x a hx ha
  obtain ⟨z, hz⟩ : ∃ z, z = (x ^^^ a) &&& maskN n := ⟨_, rfl⟩
  have hb2 : bits .and .u32 ((x ^^^ a : Nat) : Int) ((maskN n : Nat) : Int) = (z : Int) := by rw [u32_and_nat _ _ hxy hml, hz]
  have hh := holds_bits hx ha hn
  rw [← hz] at hh
  have hf : ((z : Int) == 0) = holdsB x n a := by rw [← hh]; rw [Bool.eq_iff_iff]; simp
  have HM := Lib.hid hm
  have HF := Lib.hid hf
  generalize maskN n = m at *
  generalize x ^^^ a = q at *
  clear hm hz hx hml hh hf hxy
  go_enter Tryz.func123, Tryz.ntmps123
  go_wp2_with (go_at_call 116; refine (HM.out).mono ?_; rintro e w' ⟨rfl, rfl⟩)
  go_ret
  exact ⟨ret_bool HF.out, rfl⟩

theorem pends_any (x n : Nat) (hx : x < 4294967296) (hn : n ≤ 32) (w : World) : Calls Tryz.prog 85 #[.int .u32 (x : Int), .int .i64 (n : Int)] w fun e w' => e = .returned (.tuple #[.int .u32 ((lowN x n : Nat) : Int), .int .u32 ((highN x n : Nat) : Int)]) ∧ w = w' := by
  have hm := mask_any n hn w
  have hml := mask_lt n (by omega)
  have hb1 : bits .and .u32 (x : Int) ((maskN n : Nat) : Int) = ((lowN x n : Nat) : Int) := by rw [u32_and_nat _ _ hx hml, and_mask hx hn]; rfl
  have hnot := Crc.not_u32 (maskN n) hml
  have hcn : Crc.cnot (maskN n) = 4294967295 - maskN n := rfl
  rw [hcn] at hnot
  have hb2 : bits .or .u32 (x : Int) ((4294967295 - maskN n : Nat) : Int) = ((highN x n : Nat) : Int) := by rw [u32_or_nat _ _ hx (by omega), or_notmask hn]; rfl
  have HM := Lib.hid hm
  generalize (4294967295 - maskN n) = k at *
  generalize maskN n = m at *
  generalize lowN x n = lo at *
  generalize highN x n = hi at *
  clear hm hx hml hcn
  go_enter Tryz.func85, Tryz.ntmps85
  go_wp2_with (go_at_call 116; refine (HM.out).mono ?_; rintro e w' ⟨rfl, rfl⟩)
  go_ret2
  exact ⟨rfl, rfl⟩

/-! ### orders -/
def cmpI (a b : Int) : Int := if a < b then -1 else if b < a then 1 else 0
theorem cmp32 (a b : Nat) (w : World) : Calls Tryz.prog 140 #[.int .u32 (a : Int), .int .u32 (b : Int)] w fun e w' => e = .returned (.int .i64 (cmpI a b)) ∧ w = w' := by
  have h1 : ∀ (x : Nat) (w : World), Calls Tryz.prog 155 #[.int .u32 (x : Int)] w fun e w' => e = .returned (.bool false) ∧ w = w' := fun x w => by
    have t : ((x : Int) != (x : Int)) = false := by simp
    go_enter Tryz.func155, Tryz.ntmps155
    go_wp2_with fail
    go_ret
    exact ⟨rfl, rfl⟩
  have H1 := Lib.hid h1
  clear h1
  rcases Nat.lt_trichotomy a b with h | h | h
  · have e : cmpI a b = -1 := by unfold cmpI; rw [if_pos (by omega)]
    rw [e]
    clear e
    go_enter Tryz.func140, Tryz.ntmps140
    go_wp2_with (go_at_call 155; refine (H1.out _ _).mono ?_; rintro e w' ⟨rfl, rfl⟩)
    go_ret
    exact ⟨rfl, rfl⟩
  · have e : cmpI a b = 0 := by unfold cmpI; rw [if_neg (by omega), if_neg (by omega)]
    rw [e]
    clear e
    subst h
    go_enter Tryz.func140, Tryz.ntmps140
    go_wp2_with (go_at_call 155; refine (H1.out _ _).mono ?_; rintro e w' ⟨rfl, rfl⟩)
    go_ret
    exact ⟨rfl, rfl⟩
  · have e : cmpI a b = 1 := by unfold cmpI; rw [if_neg (by omega), if_pos (by omega)]
    rw [e]
    clear e
    go_enter Tryz.func140, Tryz.ntmps140
    go_wp2_with (go_at_call 155; refine (H1.out _ _).mono ?_; rintro e w' ⟨rfl, rfl⟩)
    go_ret
    exact ⟨rfl, rfl⟩
theorem cmp64 (a b : Int) (w : World) : Calls Tryz.prog 141 #[.int .i64 a, .int .i64 b] w fun e w' => e = .returned (.int .i64 (cmpI a b)) ∧ w = w' := by
  have h1 : ∀ (x : Int) (w : World), Calls Tryz.prog 156 #[.int .i64 x] w fun e w' => e = .returned (.bool false) ∧ w = w' := fun x w => by
    have t : (x != x) = false := by simp
    go_enter Tryz.func156, Tryz.ntmps156
    go_wp2_with fail
    go_ret
    exact ⟨rfl, rfl⟩
  have H1 := Lib.hid h1
  clear h1
  rcases Int.lt_trichotomy a b with h | h | h
  · have e : cmpI a b = -1 := by unfold cmpI; rw [if_pos (by omega)]
    rw [e]
    clear e
    go_enter Tryz.func141, Tryz.ntmps141
    go_wp2_with (go_at_call 156; refine (H1.out _ _).mono ?_; rintro e w' ⟨rfl, rfl⟩)
    go_ret
    exact ⟨rfl, rfl⟩
  · have e : cmpI a b = 0 := by unfold cmpI; rw [if_neg (by omega), if_neg (by omega)]
    rw [e]
    clear e
    subst h
    go_enter Tryz.func141, Tryz.ntmps141
    go_wp2_with (go_at_call 156; refine (H1.out _ _).mono ?_; rintro e w' ⟨rfl, rfl⟩)
    go_ret
    exact ⟨rfl, rfl⟩
  · have e : cmpI a b = 1 := by unfold cmpI; rw [if_neg (by omega), if_pos (by omega)]
    rw [e]
    clear e
    go_enter Tryz.func141, Tryz.ntmps141
    go_wp2_with (go_at_call 156; refine (H1.out _ _).mono ?_; rintro e w' ⟨rfl, rfl⟩)
    go_ret
    exact ⟨rfl, rfl⟩
/-- The order of prefixes. -/
def pcmp (a : Nat) (m : Int) (b : Nat) (n : Int) : Int := if a = b then cmpI m n else cmpI a b
theorem pcmp_any (a : Nat) (m : Int) (b : Nat) (n : Int) (w : World) : Calls Tryz.prog 120 #[.int .u32 (a : Int), .int .i64 m, .int .u32 (b : Int), .int .i64 n] w fun e w' => e = .returned (.int .i64 (pcmp a m b n)) ∧ w = w' := by
  have h1 := cmp32 a b w
  have h2 := cmp64 m n w
  by_cases h : a = b
  · have e : pcmp a m b n = cmpI m n := if_pos h
    rw [e]
    subst h
    have t : ((a : Int) != (a : Int)) = false := by simp
    have H2 := Lib.hid h2
    generalize cmpI m n = r at *
    clear h1 h2 e
    go_enter Tryz.func120, Tryz.ntmps120
    go_wp2_with (go_at_call 141; refine (H2.out).mono ?_; rintro e w' ⟨rfl, rfl⟩)
    go_ret
    exact ⟨rfl, rfl⟩
  · have e : pcmp a m b n = cmpI a b := if_neg h
    rw [e]
    have t : ((a : Int) != (b : Int)) = true := by simp; omega
    have H1 := Lib.hid h1
    generalize cmpI a b = r at *
    clear h1 h2 e
    go_enter Tryz.func120, Tryz.ntmps120
    go_wp2_with (go_at_call 140; refine (H1.out).mono ?_; rintro e w' ⟨rfl, rfl⟩)
    go_ret
    exact ⟨rfl, rfl⟩
end Go.Proofs.YtpjoefekhgmlhaaGreat.Tp

namespace Go.Proofs.YtpjoefekhgmlhaaGreat.Tp
open Go.RowKit Mem

/-- A rule, as numbers. -/
structure RuleT where
  a : Nat
  len : Nat
  act : Nat
  next : Nat
/-- Its cells, and it as a value. -/
abbrev rc (r : RuleT) : List Value := [.int .u32 (r.a : Int), .int .i64 (r.len : Int), .int .i64 (r.act : Int), .int .i64 (r.next : Int)]
abbrev rv (r : RuleT) : Value := .agg #[.int .u32 (r.a : Int), .int .i64 (r.len : Int), .int .i64 (r.act : Int), .int .i64 (r.next : Int)]
/-- A rule that may be, of a network of so many nodes. -/
structure RuleOk (nodes : Nat) (r : RuleT) : Prop where
  a : r.a < 4294967296
  len : r.len ≤ 32
  host : r.a % wid r.len = 0
  act : (r.act = 1 ∧ r.next < nodes) ∨ ((r.act = 2 ∨ r.act = 3) ∧ r.next = 0)

set_option maxHeartbeats 400000 in
theorem rmay_any (r : RuleT) (nodes : Nat) (h : RuleOk nodes r) (_hn : nodes ≤ 256) (w : World) : Calls Tryz.prog 96 #[rv r, .int .i64 (nodes : Int)] w fun e w' => e = .returned (.int .i64 0) ∧ Below w.heap.size w w' := by
  have hp := fun W => pmay_any r.a r.len h.a h.len h.host W
  have HP := Lib.hid hp
  have hact := h.act
  obtain ⟨a, len, act, next⟩ := r
  simp only at hact
  simp only [rv] at HP ⊢
  clear hp h
  rcases hact with ⟨rfl, h2⟩ | ⟨rfl | rfl, h2⟩
  · go_enter Tryz.func96, Tryz.ntmps96
    go_wp2_with (go_at_call 112; refine (HP.out _).mono ?_; rintro e w' ⟨rfl, rfl⟩)
    go_ret
    exact ⟨rfl, (Below.refl _ _).alloc (Nat.le_refl _) _⟩
  · subst h2
    go_enter Tryz.func96, Tryz.ntmps96
    go_wp2_with (go_at_call 112; refine (HP.out _).mono ?_; rintro e w' ⟨rfl, rfl⟩)
    go_ret
    exact ⟨rfl, (Below.refl _ _).alloc (Nat.le_refl _) _⟩
  · subst h2
    go_enter Tryz.func96, Tryz.ntmps96
    go_wp2_with (go_at_call 112; refine (HP.out _).mono ?_; rintro e w' ⟨rfl, rfl⟩)
    go_ret
    exact ⟨rfl, (Below.refl _ _).alloc (Nat.le_refl _) _⟩
theorem rcmp_any (r s : RuleT) (w : World) : Calls Tryz.prog 97 #[rv r, rv s] w fun e w' => e = .returned (.int .i64 (pcmp r.a r.len s.a s.len)) ∧ Below w.heap.size w w' := by
  have hp := fun W => pcmp_any r.a r.len s.a s.len W
  have HP := Lib.hid hp
  obtain ⟨a, len, act, next⟩ := r
  obtain ⟨a2, len2, act2, next2⟩ := s
  simp only [rv] at HP ⊢
  generalize pcmp (a : Nat) (len : Int) a2 (len2 : Int) = k at *
  clear hp
  go_enter Tryz.func97, Tryz.ntmps97
  go_wp2_with (go_at_call 120; refine (HP.out _).mono ?_; rintro e w' ⟨rfl, rfl⟩)
  go_ret
  exact ⟨rfl, ((Below.refl _ _).alloc (Nat.le_refl _) _).alloc (by simp) _⟩

/-! ### rows of rules -/
def rcs (l : List RuleT) : List Value := l.flatMap rc
theorem rcs_len : ∀ l : List RuleT, (rcs l).length = l.length * 4
  | [] => rfl
  | r :: l => by
    have := rcs_len l
    simp only [rcs, List.flatMap_cons, List.length_append, List.length_cons] at this ⊢
    rw [this]
    simp
    omega
theorem rcs_at : ∀ (l : List RuleT) (i : Nat) (hi : i < l.length) (j : Nat), j < 4 → (rcs l)[i * 4 + j]? = (rc l[i])[j]?
  | [], i, hi, _, _ => absurd hi (by simp)
  | r :: l, 0, _, j, hj => by
    simp only [rcs, List.flatMap_cons, List.getElem_cons_zero, Nat.zero_mul, Nat.zero_add]
    rw [List.getElem?_append_left (by simpa using hj)]
  | r :: l, i + 1, hi, j, hj => by
    simp only [rcs, List.flatMap_cons, List.getElem_cons_succ]
    rw [List.getElem?_append_right (by simp; omega), show (i + 1) * 4 + j - (rc r).length = i * 4 + j by simp; omega]
    exact rcs_at l i (by simpa using hi) j hj
/-- A slice that reads as rules. -/
def RulesAt (w : World) (A : Option Addr) (l : List RuleT) : Prop := Lies w A (rcs l)
theorem RulesAt.below {w w' : World} {A : Option Addr} {l : List RuleT} (h : RulesAt w A l) (hb : Below w.heap.size w w') : RulesAt w' A l := Lies.below h hb
/-- One rule of it: its address and its four cells. -/
theorem RulesAt.at_ {w : World} {A : Option Addr} {l : List RuleT} (h : RulesAt w A l) {i : Nat} (hi : i < l.length) : ∃ b off, A = some ⟨b, off, none⟩ ∧ b < w.heap.size ∧
    w.cell? ⟨b, off + i * 4, none⟩ = some (.int .u32 (l[i].a : Int)) ∧ w.cell? ⟨b, off + i * 4 + 1, none⟩ = some (.int .i64 (l[i].len : Int)) ∧ w.cell? ⟨b, off + i * 4 + 2, none⟩ = some (.int .i64 (l[i].act : Int)) ∧ w.cell? ⟨b, off + i * 4 + 3, none⟩ = some (.int .i64 (l[i].next : Int)) := by
  obtain ⟨b, off, e, hb, hc⟩ := h (by rw [rcs_len]; omega)
  refine ⟨b, off, e, hb, ?_, ?_, ?_, ?_⟩
  · exact hc (i * 4 + 0) _ (by rw [rcs_at l i hi 0 (by omega)]; rfl)
  · rw [Nat.add_assoc]; exact hc (i * 4 + 1) _ (by rw [rcs_at l i hi 1 (by omega)]; rfl)
  · rw [Nat.add_assoc]; exact hc (i * 4 + 2) _ (by rw [rcs_at l i hi 2 (by omega)]; rfl)
  · rw [Nat.add_assoc]; exact hc (i * 4 + 3) _ (by rw [rcs_at l i hi 3 (by omega)]; rfl)
end Go.Proofs.YtpjoefekhgmlhaaGreat.Tp

namespace Go.Proofs.YtpjoefekhgmlhaaGreat.Tp
open Go.RowKit Mem

/-- A table that may be. -/
structure TableOk (nodes : Nat) (l : List RuleT) : Prop where
  rule : ∀ r ∈ l, RuleOk nodes r
  asc : ∀ i (hi : i + 1 < l.length), pcmp l[i + 1].a l[i + 1].len l[i].a l[i].len = 1

theorem box_cell (w w2 : World) (t : TypeId) (cs : Array Value) (hb : Below (w.alloc (.cells cs t)).heap.size (w.alloc (.cells cs t)) w2) (j : Nat) (u : Value) (hu : cs[j]? = some u) : w2.cell? ⟨w.heap.size, j, none⟩ = some u := by
  rw [hb.cell (p := ⟨w.heap.size, j, none⟩) (by simp), cell_of_row _ _ j cs t (0, 0) (heap_alloc_new w _)]
  exact hu

set_option maxRecDepth 100000 in
set_option maxHeartbeats 1000000 in
theorem tmay_any (A : Option Addr) (c : Nat) (l : List RuleT) (nodes : Nat) (w : World) (hA : RulesAt w A l) (h : TableOk nodes l) (hn : nodes ≤ 256) (hl : l.length ≤ 4096) :
    Calls Tryz.prog 56 #[.slice A l.length c, .int .i64 (nodes : Int)] w fun e w' => e = .returned (.int .i64 0) ∧ Below w.heap.size w w' := by
  have H := Lib.hid h
  clear h
  go_enter Tryz.func56, Tryz.ntmps56
  go_wp2_with fail
  go_loopw [10] (fun i wr => ∃ k : Nat, k ≤ l.length ∧ i = .int .i64 k ∧ Below w.heap.size w wr) (fun i _ => l.length - (intOf i).toNat)
  case atStart => exact ⟨0, by omega, rfl, Below.refl _ w⟩
  case round =>
    obtain ⟨k, hk, rfl, hbr⟩ := hrel
    by_cases hlt : k < l.length
    · obtain ⟨b, off, hAe, hb, hc0, hc1, hc2, hc3⟩ := RulesAt.at_ hA hlt
      have hd0 := (hbr.cell (p := ⟨b, off + k * 4, none⟩) hb).trans hc0
      have hd1 := (hbr.cell (p := ⟨b, off + k * 4 + 1, none⟩) hb).trans hc1
      have hd2 := (hbr.cell (p := ⟨b, off + k * 4 + 2, none⟩) hb).trans hc2
      have hd3 := (hbr.cell (p := ⟨b, off + k * 4 + 3, none⟩) hb).trans hc3
      obtain ⟨r, hr⟩ : ∃ r, r = l[k] := ⟨_, rfl⟩
      have hmay := fun W => rmay_any r nodes (by rw [hr]; exact H.out.rule _ (List.getElem_mem hlt)) hn W
      rw [← hr] at hd0 hd1 hd2 hd3
      have HMAY := Lib.hid hmay
      have HR := Lib.hid hr
      have HA := Lib.hid hA
      clear hmay hc0 hc1 hc2 hc3 hr hA
      subst hAe
      obtain ⟨a, len, act, next⟩ := r
      simp only [rv] at HMAY hd0 hd1 hd2 hd3
      go_wp2_with fail
      refine (HMAY.out _).mono ?_
      rintro e w2 ⟨rfl, hb2⟩
      have hbox := fun j u (hu : [Value.int .u32 (a : Int), .int .i64 (len : Int), .int .i64 (act : Int), .int .i64 (next : Int)][j]? = some u) => box_cell wr w2 43 #[Value.int .u32 (a : Int), .int .i64 (len : Int), .int .i64 (act : Int), .int .i64 (next : Int)] hb2 j u (by simpa using hu)
      have hx0 := hbox 0 _ rfl
      have hx1 := hbox 1 _ rfl
      have hx2 := hbox 2 _ rfl
      have hx3 := hbox 3 _ rfl
      have hb2w : Below w.heap.size w w2 := (hbr.alloc hbr.size _).trans (hb2.mono (by have := hbr.size; simp; omega))
      clear hbox hb2 hd0 hd1 hd2 hd3
      by_cases h0 : 0 < k
      · have hk1 : k - 1 < l.length := by omega
        obtain ⟨b', off', hAe', hb', hc0, hc1, hc2, hc3⟩ := RulesAt.at_ HA.out hk1
        injection hAe' with hAe'
        injection hAe' with e1 e2 _
        subst e1 e2
        have hd0 := (hb2w.cell (p := ⟨b, off + (k - 1) * 4, none⟩) hb).trans hc0
        have hd1 := (hb2w.cell (p := ⟨b, off + (k - 1) * 4 + 1, none⟩) hb).trans hc1
        have hd2 := (hb2w.cell (p := ⟨b, off + (k - 1) * 4 + 2, none⟩) hb).trans hc2
        have hd3 := (hb2w.cell (p := ⟨b, off + (k - 1) * 4 + 3, none⟩) hb).trans hc3
        have hasc := H.out.asc (k - 1) (by omega)
        have e3 : k - 1 + 1 = k := by omega
        simp only [e3, ← HR.out] at hasc
        obtain ⟨s, hs⟩ : ∃ s, s = l[k - 1] := ⟨_, rfl⟩
        rw [← hs] at hd0 hd1 hd2 hd3 hasc
        have hcmp := fun W => rcmp_any ⟨a, len, act, next⟩ s W
        simp only [hasc] at hcmp
        have HCMP := Lib.hid hcmp
        have HB := Lib.hid hb2w
        obtain ⟨a2, len2, act2, next2⟩ := s
        simp only [rv] at HCMP hd0 hd1 hd2 hd3
        obtain ⟨j, hj⟩ : ∃ j, j = k - 1 := ⟨_, rfl⟩
        rw [← hj] at hd0 hd1 hd2 hd3
        have hjk : k = j + 1 := by omega
        subst hjk
        have t1 : decide ((0 : Int) < (j : Int) + 1) = true := by rw [decide_eq_true_eq]; omega
        have i0 : (0 : Int) ≤ (j : Int) := by omega
        have i1 : (j : Int) < (l.length : Int) := by omega
        clear hcmp hs hc0 hc1 hc2 hc3 hasc hb2w e3 hj hk1
        go_wp2_with fail
        have f3 : IntKind.i64.wrap (j : Int) = (j : Int) := IntWalk.i64_in _ (by omega)
        go_still_tail 9, (by kernel_rfl)
        clear f3
        change wpList _ _ _ _ _ w2.drew
        have hb3 : Below w.heap.size w w2.drew := ⟨HB.out.os, HB.out.tape, HB.out.output, HB.out.size, HB.out.block⟩
        clear hx0 hx1 hx2 hx3 hd0 hd1 hd2 hd3
        generalize w2.drew = w3 at *
        go_wp2_with (go_at_call 97; refine (HCMP.out _).mono ?_; rintro e w4 ⟨rfl, hb4⟩)
        refine ⟨⟨j + 1 + 1, by omega, by go_num, hb3.trans (hb4.mono hb3.size)⟩, by simp [intOf]; omega⟩
      · obtain rfl : k = 0 := by omega
        go_wp2_with fail
        go_big_quiet (fail)
        go_wp2_with fail
        refine ⟨⟨1, by omega, rfl, ?_⟩, by simp [intOf]; omega⟩
        first
          | exact hb2w
          | exact below_drawn hb2w _
    · go_wp2_with fail
      go_ret
      exact ⟨rfl, hbr⟩
end Go.Proofs.YtpjoefekhgmlhaaGreat.Tp
