/- WALKS: sums of bytes that go on, sums of bytes, the first 100 bytes, the example of the document. Conditions: the sum is below 2^32, the slice reads as bytes. -/
import Derived.Test.YtbhnfgknbpddiaaCrcTable
import Derived.Lib.SlBytesConst
namespace Go.Proofs.Ytbhnfgknbpddiaa.Crc
open Go.RowKit

/-- A slice that reads as the numbers l, each a byte; of a slice of none nothing is asked of the address. -/
def Bytes (w : World) (A : Option Addr) (l : List Nat) : Prop :=
  (∀ c ∈ l, c < 256) ∧ (0 < l.length → ∃ b off, A = some ⟨b, off, none⟩ ∧ b < w.heap.size ∧ ∀ i c, l[i]? = some c → w.cell? ⟨b, off + i, none⟩ = some (.int .u8 ((c : Nat) : Int)))
theorem Bytes.below {w w' : World} {A : Option Addr} {l : List Nat} (h : Bytes w A l) (hb : Below w.heap.size w w') : Bytes w' A l :=
  ⟨h.1, fun hn => by
    obtain ⟨b, off, e, hlt, hc⟩ := h.2 hn
    exact ⟨b, off, e, Nat.lt_of_lt_of_le hlt hb.size, fun i c hi => (hb.cell (p := ⟨b, off + i, none⟩) hlt).trans (hc i c hi)⟩⟩
/-- What one round asks: that the slice has an address, and what lies at place k. -/
theorem Bytes.at_ {w : World} {A : Option Addr} {l : List Nat} (h : Bytes w A l) {k : Nat} (hk : k < l.length) :
    ∃ b off c, A = some ⟨b, off, none⟩ ∧ b < w.heap.size ∧ c < 256 ∧ l[k]? = some c ∧ w.cell? ⟨b, off + k, none⟩ = some (.int .u8 ((c : Nat) : Int)) := by
  obtain ⟨b, off, e, hlt, hc⟩ := h.2 (by omega)
  exact ⟨b, off, l[k], e, hlt, h.1 _ (List.getElem_mem hk), List.getElem?_eq_getElem hk, hc k _ (List.getElem?_eq_getElem hk)⟩

theorem not_u32 (s : Nat) (h : s < 4294967296) : bits .xor .u32 IntKind.u32.max (s : Int) = ((cnot s : Nat) : Int) := by
  have e : IntKind.u32.max = ((4294967295 : Nat) : Int) := by rfl
  rw [e, u32_xor_nat _ _ (by omega) h, cnot_eq h]
theorem xor_all (s : Nat) (h : s < 4294967296) : bits .xor .u32 (s : Int) 4294967295 = ((cnot s : Nat) : Int) := by
  have e := u32_xor_nat s 4294967295 h (by omega)
  rw [cnot_xor' h] at e
  exact e
theorem place_u8 (x c : Nat) (hc : c < 256) : bits .xor .u8 ((x : Int) % 256) (c : Int) = (((x % 256) ^^^ c : Nat) : Int) := by
  rw [show (x : Int) % 256 = ((x % 256 : Nat) : Int) by omega, u8_xor_nat _ _ (by omega) hc]
theorem place_lt (x c : Nat) (hc : c < 256) : (x % 256) ^^^ c < 256 := Nat.xor_lt_two_pow (n := 8) (by omega) (by omega)
theorem next_u32 (x c : Nat) (hx : x < 4294967296) (hc : c < 256) : bits .xor .u32 ((x : Int) / 256) ((cstep 0 ((x % 256) ^^^ c) : Nat) : Int) = ((cstep x c : Nat) : Int) := by
  rw [show (x : Int) / 256 = ((x / 256 : Nat) : Int) by omega, u32_xor_nat _ _ (by omega) (cstep_lt (by omega) (place_lt x c hc)), ← cstep_table]
theorem take_next {l : List Nat} {k c : Nat} (h : l[k]? = some c) (s : Nat) : cfold s (l.take (k + 1)) = cstep (cfold s (l.take k)) c := by
  obtain ⟨hk, rfl⟩ := List.getElem?_eq_some_iff.1 h
  rw [List.take_succ_eq_append_getElem hk, cfold_snoc]

set_option maxRecDepth 100000 in
set_option maxHeartbeats 400000 in
theorem more_any (s : Nat) (hs : s < 4294967296) (A : Option Addr) (cap : Nat) (l : List Nat) (hl : l.length ≤ 9223372036854775807) (w : World) (hB : Bytes w A l) :
    Calls Try.prog 12 #[.int .u32 (s : Int), .slice A l.length cap] w fun e w' => e = .returned (.int .u32 ((cmore s l : Nat) : Int)) ∧ Below w.heap.size w w' := by
  have hz := zero35
  have hn := not_u32 s hs
  go_enter Try.func12, Try.ntmps12
  go_wp2_with (first
    | (go_at_call 16; refine (table_any _).mono ?_; rintro e w1 ⟨cs, rfl, hsz, h1, h2, hb1⟩; have hi : (Try.prog.info? 35).map (·.size) = some cs.size := (by rw [hsz]; exact size35); have h1' : cs.all (·.oneCell') = true := (by rw [Array.all_eq_true_iff_forall_mem]; exact h1); have HS := Lib.hid hsz; clear hsz)
    | (with_reducible refine wpList_store_row rfl 35 _ _ rfl w1.heap.size cs rfl rfl 35 zeros (heap_alloc_new w1 _) hi (by rw [zeros_size]; exact HS.out.symm) h1' ?_))
  clear hn hz hi h1'
  have hb2 : Below w1.heap.size w1 ((w1.alloc (Obj.cells zeros 35)).setRow w1.heap.size cs) :=
    ((Below.refl _ w1).alloc (Nat.le_refl _) _).trans ⟨rfl, rfl, rfl, by simp, fun i hi => setRow_other _ _ _ _ (by omega)⟩
  have hB2 := (hB.below hb1).below hb2
  have hT : ∀ i, i < 256 → ((w1.alloc (Obj.cells zeros 35)).setRow w1.heap.size cs).cell? ⟨w1.heap.size, i, none⟩ = some (.int .u32 ((cstep 0 i : Nat) : Int)) := fun i hi =>
    (cell_setRow_same _ _ i zeros cs 35 (0, 0) (heap_alloc_new w1 _)).trans (h2 i hi)
  have hend := hb1.trans (hb2.mono hb1.size)
  generalize hW : (w1.alloc (Obj.cells zeros 35)).setRow w1.heap.size cs = W at *
  clear hW hb2 h1 h2
  have HT := Lib.hid hT
  clear hT
  go_loop [0, 13] (fun x i => ∃ k t : Nat, k ≤ l.length ∧ t < 4294967296 ∧ Hid (t = cfold (cnot s) (l.take k)) ∧ i = .int .i64 k ∧ x = .int .u32 t) (fun _ i => l.length - (intOf i).toNat)
  case atStart => exact ⟨0, cnot s, by omega, cnot_lt _, rfl, rfl, rfl⟩
  case round =>
    obtain ⟨k, t, hk, ht, H, rfl, rfl⟩ := hrel
    by_cases hlt : k < l.length
    · obtain ⟨b, off, c, rfl, hb, hc, hx, hcell⟩ := hB2.at_ hlt
      have p1 := place_u8 t c hc
      have p2 := place_lt t c hc
      have p3 := HT.out _ p2
      have HX := Lib.hid hx
      have HC := Lib.hid hc
      clear hx
      go_wp2
      go_round
      case rel => exact ⟨k + 1, cstep t c, by omega, cstep_lt ht HC.out, (by rw [show t = _ from H.out]; exact (take_next HX.out _).symm), by go_num, by rw [next_u32 t c ht HC.out]⟩
      case measure => simp [intOf]; omega
    · have hn := not_u32 t ht
      go_wp2
      go_ret
      refine ⟨ret_int ?_, hend⟩
      have e := H.out
      rw [List.take_of_length_le (by omega)] at e
      rw [e]; rfl

set_option maxHeartbeats 400000 in
theorem sum_any (A : Option Addr) (cap : Nat) (l : List Nat) (hl : l.length ≤ 9223372036854775807) (w : World) (hB : Bytes w A l) :
    Calls Try.prog 9 #[.slice A l.length cap] w fun e w' => e = .returned (.int .u32 ((cmore 0 l : Nat) : Int)) ∧ Below w.heap.size w w' := by
  have hm : Calls Try.prog 12 #[.int .u32 0, .slice A l.length cap] w fun e w' => e = .returned (.int .u32 ((cmore 0 l : Nat) : Int)) ∧ Below w.heap.size w w' := more_any 0 (by omega) A cap l hl w hB
  have HM := Lib.hid hm
  clear hm
  go_enter Try.func9, Try.ntmps9
  go_wp2_with (go_at_call 12; refine (HM.out).mono ?_; rintro e w1 ⟨rfl, hb1⟩)
  go_ret
  exact ⟨rfl, hb1⟩

set_option maxHeartbeats 400000 in
theorem refmore_any (s : Nat) (hs : s < 4294967296) (A : Option Addr) (cap : Nat) (l : List Nat) (hl : l.length ≤ 9223372036854775807) (w : World) (hB : Bytes w A l) :
    Calls Try.prog 13 #[.int .u32 (s : Int), .slice A l.length cap] w fun e w' => e = .returned (.int .u32 ((cmore s l : Nat) : Int)) ∧ w = w' := by
  have hn := xor_all s hs
  go_enter Try.func13, Try.ntmps13
  go_wp2
  clear hn
  go_loop [0, 5] (fun x i => ∃ k t : Nat, k ≤ l.length ∧ t < 4294967296 ∧ Hid (t = cfold (cnot s) (l.take k)) ∧ i = .int .i64 k ∧ x = .int .u32 t) (fun _ i => l.length - (intOf i).toNat)
  case atStart => exact ⟨0, cnot s, by omega, cnot_lt _, rfl, rfl, rfl⟩
  case round =>
    obtain ⟨k, t, hk, ht, H, rfl, rfl⟩ := hrel
    by_cases hlt : k < l.length
    · obtain ⟨b, off, c, rfl, hb, hc, hx, hcell⟩ := hB.at_ hlt
      have HX := Lib.hid hx
      clear hx
      go_wp2_with (go_at_call 15; refine (refstep_any t c ht hc _).mono ?_; rintro e w' ⟨rfl, rfl⟩)
      go_round
      case rel => exact ⟨k + 1, cstep t c, by omega, cstep_lt ht hc, (by rw [show t = _ from H.out]; exact (take_next HX.out _).symm), by go_num, rfl⟩
      case measure => simp [intOf]; omega
    · have hn := xor_all t ht
      go_wp2
      go_ret
      refine ⟨ret_int ?_, rfl⟩
      have e := H.out
      rw [List.take_of_length_le (by omega)] at e
      rw [e]; rfl

set_option maxHeartbeats 400000 in
theorem refsum_any (A : Option Addr) (cap : Nat) (l : List Nat) (hl : l.length ≤ 9223372036854775807) (w : World) (hB : Bytes w A l) :
    Calls Try.prog 11 #[.slice A l.length cap] w fun e w' => e = .returned (.int .u32 ((cmore 0 l : Nat) : Int)) ∧ w = w' := by
  have hm : Calls Try.prog 13 #[.int .u32 0, .slice A l.length cap] w fun e w' => e = .returned (.int .u32 ((cmore 0 l : Nat) : Int)) ∧ w = w' := refmore_any 0 (by omega) A cap l hl w hB
  have HM := Lib.hid hm
  clear hm
  go_enter Try.func11, Try.ntmps11
  go_wp2_with (go_at_call 13; refine (HM.out).mono ?_; rintro e w1 ⟨rfl, rfl⟩)
  go_ret
  exact ⟨rfl, rfl⟩

theorem ret_slice {A : Option Addr} {n m cap : Nat} (h : n = m) : Ending.returned (.slice A n cap) = .returned (.slice A m cap) := by rw [h]
set_option maxHeartbeats 400000 in
theorem few_any (A : Option Addr) (n cap m : Nat) (hn : n ≤ cap) (_hc : cap ≤ 9223372036854775807) (hm : m = min n 100) (w : World) :
    Calls Try.prog 10 #[.slice A n cap] w fun e w' => e = .returned (.slice A m cap) ∧ w = w' := by
  have HM := Lib.hid hm
  clear hm
  go_enter Try.func10, Try.ntmps10
  go_wp2
  all_goals
    go_ret
    exact ⟨ret_slice (by have := HM.out; omega), rfl⟩

/-! ### what came in -/
def IsRow (k : IntKind) (w : World) (a : Option Addr) (len cap : Nat) (zs : List Int) : Prop :=
  (a = none ∧ len = 0 ∧ cap = 0 ∧ zs = []) ∨
  ∃ x, a = some x ∧ len ≤ cap ∧ cap ≤ maxLen ∧ zs.length = cap ∧ (∀ i, i < zs.length → w.cell? (x.add i) = some (.int k (zs.getD i 0))) ∧ ∀ n ∈ zs, (Lit.int k n).wf = true
theorem wf_u8 {n : Int} (h : (Lit.int .u8 n).wf = true) : 0 ≤ n ∧ n < 256 := by
  simp [Lit.wf, IntKind.min, IntKind.max, IntKind.bits, IntKind.signed] at h
  omega
theorem bytes_of_row {w : World} {a : Option Addr} {len cap : Nat} {zs : List Int} (h : IsRow .u8 w a len cap zs) : ∃ l : List Nat, l.length = len ∧ len ≤ cap ∧ cap ≤ 9223372036854775807 ∧ Bytes w a l := by
  rcases h with ⟨rfl, rfl, rfl, rfl⟩ | ⟨x, rfl, hl, hm, hz, hcell, hwz⟩
  · exact ⟨[], rfl, by omega, by omega, by simp, by simp⟩
  · unfold maxLen at hm
    have hlen : ((zs.take len).map Int.toNat).length = len := by simp; omega
    refine ⟨(zs.take len).map Int.toNat, hlen, hl, hm, ?_, fun hp => ?_⟩
    · intro c hc
      obtain ⟨n, hn, rfl⟩ := List.mem_map.1 hc
      have := wf_u8 (hwz n (List.mem_of_mem_take hn))
      omega
    · obtain ⟨b, off, spot⟩ := x
      have hc0 := hcell 0 (by omega)
      have hspot : spot = none := by simpa [Addr.add] using World.cell?_spot hc0
      subst hspot
      have hb : b < w.heap.size := by
        have := block_lt_of_cell hc0
        simpa [Addr.add] using this
      refine ⟨b, off, rfl, hb, fun i c hi => ?_⟩
      obtain ⟨hil, rfl⟩ := List.getElem?_eq_some_iff.1 hi
      have hi' : i < len := by omega
      have hc := hcell i (by omega)
      have e : (⟨b, off, none⟩ : Addr).add i = ⟨b, off + i, none⟩ := by unfold Addr.add; split <;> simp_all
      rw [e] at hc
      rw [hc, List.getElem_map, List.getElem_take]
      have hg : zs.getD i 0 = zs[i]'(by omega) := by simp [List.getD, List.getElem?_eq_getElem (show i < zs.length by omega)]
      have := wf_u8 (hwz (zs[i]'(by omega)) (List.getElem_mem _))
      rw [hg, show ((zs[i]'(by omega)).toNat : Int) = zs[i]'(by omega) by omega]
theorem Bytes.take {w : World} {A : Option Addr} {l : List Nat} (h : Bytes w A l) (k : Nat) : Bytes w A (l.take k) :=
  ⟨fun c hc => h.1 c (List.mem_of_mem_take hc), fun hn => by
    obtain ⟨b, off, e, hlt, hc⟩ := h.2 (by simp at hn; omega)
    refine ⟨b, off, e, hlt, fun i c hi => hc i c ?_⟩
    rw [List.getElem?_take] at hi
    split at hi
    · exact hi
    · cases hi⟩

theorem shown_sum : cmore 0 [49, 50, 51, 52, 53, 54, 55, 56, 57] = 3808858755 := by decide +kernel
def digits : Array Value := #[Value.int .u8 49, Value.int .u8 50, Value.int .u8 51, Value.int .u8 52, Value.int .u8 53, Value.int .u8 54, Value.int .u8 55, Value.int .u8 56, Value.int .u8 57]
theorem digits_at : ∀ (i c : Nat), [49, 50, 51, 52, 53, 54, 55, 56, 57][i]? = some c → digits[i]? = some (.int .u8 ((c : Nat) : Int))
  | 0, _, h | 1, _, h | 2, _, h | 3, _, h | 4, _, h | 5, _, h | 6, _, h | 7, _, h | 8, _, h => by cases h; rfl
  | n + 9, _, h => by simp at h
theorem digits_bytes (w : World) : Bytes (w.alloc (.cells digits 5 (9, 10))) (some ⟨w.heap.size, 0, none⟩) [49, 50, 51, 52, 53, 54, 55, 56, 57] :=
  ⟨by decide, fun _ => ⟨w.heap.size, 0, rfl, by simp, fun i c hi => by
    rw [cell_of_row _ _ (0 + i) digits 5 (9, 10) (heap_alloc_new w _), Nat.zero_add]
    exact digits_at i c hi⟩⟩
set_option maxRecDepth 100000 in
set_option maxHeartbeats 400000 in
theorem shown_any (w : World) : Calls Try.prog 8 #[] w fun e w' => e = .returned (.bool true) ∧ Below w.heap.size w w' := by
  have hs : Calls Try.prog 9 #[.slice (some ⟨w.heap.size, 0, none⟩) 9 9] (w.alloc (.cells digits 5 (9, 10))) fun e w' => e = .returned (.int .u32 3808858755) ∧ Below (w.alloc (.cells digits 5 (9, 10))).heap.size (w.alloc (.cells digits 5 (9, 10))) w' :=
    (sum_any (some ⟨w.heap.size, 0, none⟩) 9 [49, 50, 51, 52, 53, 54, 55, 56, 57] (by decide) (w.alloc (.cells digits 5 (9, 10))) (digits_bytes w)).mono fun e w' h => by rw [shown_sum] at h; exact h
  have HS := Lib.hid hs
  clear hs
  have kc := fun (w : World) (C : Array Value) (n c : Nat) => Lib.run_convert_bytes_const (P := Try.prog) w 22 5 C n c Try.underlying22 Try.underlying5
  go_enter Try.func8, Try.ntmps8
  go_wp2_with (go_at_call 9; refine (HS.out).mono ?_; rintro e w1 ⟨rfl, hb1⟩)
  go_ret
  exact ⟨rfl, ((Below.refl _ w).alloc (Nat.le_refl _) _).trans (hb1.mono (by simp))⟩
end Go.Proofs.Ytbhnfgknbpddiaa.Crc
