/- WALK of the law that what is turned in the bytes turns the sum, whatever else there is. Conditions: the arguments read as slices of bytes. -/
import Derived.Test.YtbhnfgknbpddiaaCrcParts
import Derived.Outline
import Derived.Deep.QuietTactic
import Derived.BigQuiet
import Derived.Deep.RegionLaw
import Derived.Deep.RegionWith
import Derived.Deep.RegionHeld3
import Derived.Deep.OwnRows
import Derived.RegionTactic
namespace Go.Proofs.Ytbhnfgknbpddiaa.Crc
open Go.RowKit Mem

/-- What has been made: the first k places hold the bytes mx, the rest noughts. -/
def MixRel (w1 : World) (n : Nat) (mx : List Nat) (k : Nat) (wr : World) : Prop :=
  ∃ cs : Array Value, wr.heap[w1.heap.size]? = some (.cells cs 5 (0, 0)) ∧ cs.size = n ∧ (∀ i c, i < k → mx[i]? = some c → cs[i]? = some (vb c)) ∧ Below w1.heap.size w1 wr
theorem MixRel.drew {w1 wr : World} {n k : Nat} {mx : List Nat} (h : MixRel w1 n mx k wr) : MixRel w1 n mx k wr.drew := by obtain ⟨cs, h1, h2, h3, h4⟩ := h; exact ⟨cs, h1, h2, h3, h4.drew⟩
theorem MixRel.start (w1 : World) (n : Nat) (mx : List Nat) : MixRel w1 n mx 0 (w1.alloc (.cells (madeCells #[.int .u8 0] n) 5)) :=
  ⟨_, heap_alloc_new w1 _, by simp [madeCells], fun i c hi => absurd hi (by omega), (Below.refl _ _).alloc (Nat.le_refl _) _⟩
theorem MixRel.cell {w1 wr : World} {n k : Nat} {mx : List Nat} (h : MixRel w1 n mx k wr) {i : Nat} (hi : i < n) : ∃ v, wr.cell? ⟨w1.heap.size, i, none⟩ = some v := by
  obtain ⟨cs, hh, hs, _⟩ := h
  exact ⟨cs[i], by rw [cell_of_row wr _ i cs 5 (0, 0) hh]; exact Array.getElem?_eq_getElem (by omega)⟩
theorem MixRel.free {w1 wr : World} {n k : Nat} {mx : List Nat} (h : MixRel w1 n mx k wr) (i : Nat) : wr.frozen? ⟨w1.heap.size, i, none⟩ = false := by
  obtain ⟨cs, hh, _⟩ := h
  exact frozen_of_row wr _ i cs 5 hh
theorem MixRel.next {w1 wr : World} {n k c : Nat} {mx : List Nat} (h : MixRel w1 n mx k wr) (hk : k < n) (hc : mx[k]? = some c) : MixRel w1 n mx (k + 1) (wr.setCell ⟨w1.heap.size, k, none⟩ (vb c)) := by
  obtain ⟨cs, hh, hs, h2, hb⟩ := h
  refine ⟨_, heap_setCell_same wr _ k cs 5 _ hh, by simpa using hs, ?_, hb.setCell (Nat.le_refl _) _⟩
  intro i d hi hd
  rw [Array.getElem?_setIfInBounds]
  by_cases e : k = i
  · subst e; rw [if_pos rfl, if_pos (by omega)]
    rw [hc] at hd; injection hd with hd; rw [hd]
  · rw [if_neg e]; exact h2 i d (by omega) hd
theorem MixRel.bytes {w1 wr : World} {n : Nat} {mx : List Nat} (h : MixRel w1 n mx n wr) (hl : mx.length = n) (h8 : ∀ c ∈ mx, c < 256) : Bytes wr (some ⟨w1.heap.size, 0, none⟩) mx := by
  obtain ⟨cs, hh, hs, h2, hb⟩ := h
  refine ⟨h8, fun hn => ⟨_, 0, rfl, ?_, fun i c hi => ?_⟩⟩
  · rcases Nat.lt_or_ge w1.heap.size wr.heap.size with h' | h'
    · exact h'
    · rw [Array.getElem?_eq_none h'] at hh; cases hh
  · rw [cell_of_row wr _ (0 + i) cs 5 (0, 0) hh, Nat.zero_add]
    exact h2 i c (by have := (List.getElem?_eq_some_iff.1 hi).1; omega) hi

theorem sum_fit (A : Option Addr) (cap : Nat) (l : List Nat) (n : Nat) (hn : l.length = n) (hl : n ≤ 9223372036854775807) (w : World) (hB : Bytes w A l) :
    Calls Try.prog 9 #[.slice A n cap] w fun e w' => e = .returned (.int .u32 ((cmore 0 l : Nat) : Int)) ∧ Below w.heap.size w w' := by
  subst hn
  exact sum_any A cap l hl w hB
/-- What the last line reads, in whatever world it stands. -/
def Ready (w : World) (a0 : Option Addr) (f0 : List Nat) (a1 : Option Addr) (f1 : List Nat) (g : Nat) (mx : List Nat) (W : World) : Prop :=
  Bytes W a0 f0 ∧ Bytes W a1 f1 ∧ Bytes W (some ⟨g, 0, none⟩) mx ∧ Below w.heap.size w W
section
variable {w W W' : World} {a0 a1 : Option Addr} {f0 f1 mx : List Nat} {g : Nat}
theorem Ready.below (h : Ready w a0 f0 a1 f1 g mx W) (hb : Below W.heap.size W W') : Ready w a0 f0 a1 f1 g mx W' :=
  ⟨h.1.below hb, h.2.1.below hb, h.2.2.1.below hb, h.2.2.2.trans (hb.mono h.2.2.2.size)⟩
theorem Ready.drew (h : Ready w a0 f0 a1 f1 g mx W) : Ready w a0 f0 a1 f1 g mx W.drew := h.below (Below.refl _ W).drew
theorem Ready.alloc (h : Ready w a0 f0 a1 f1 g mx W) {o : Obj} : Ready w a0 f0 a1 f1 g mx (W.alloc o) := h.below ((Below.refl _ W).alloc (Nat.le_refl _) o)
end

/-- A row of noughts. -/
def ZAt (n g : Nat) (W : World) : Prop := W.heap[g]? = some (.cells (madeCells #[.int .u8 0] n) 5 (0, 0))
theorem ZAt.lt {n g : Nat} {W : World} (h : ZAt n g W) : g < W.heap.size := by
  rcases Nat.lt_or_ge g W.heap.size with h' | h'
  · exact h'
  · unfold ZAt at h; rw [Array.getElem?_eq_none h'] at h; cases h
theorem ZAt.below {n g : Nat} {W W' : World} (h : ZAt n g W) (hb : Below W.heap.size W W') : ZAt n g W' := (hb.block g h.lt).trans h
theorem ZAt.new (n : Nat) (W : World) : ZAt n W.heap.size (W.alloc (.cells (madeCells #[.int .u8 0] n) 5)) := heap_alloc_new W _
theorem ZAt.bytes {n g : Nat} {W : World} (h : ZAt n g W) : Bytes W (some ⟨g, 0, none⟩) (List.replicate n 0) :=
  ⟨by intro c hc; rw [List.mem_replicate] at hc; omega, fun hn => ⟨g, 0, rfl, h.lt, fun i c hi => by
    rw [cell_of_row W g (0 + i) _ 5 (0, 0) h, Nat.zero_add]
    obtain ⟨hil, rfl⟩ := List.getElem?_eq_some_iff.1 hi
    rw [List.length_replicate] at hil
    simp [madeCells, hil, Nat.mod_one]⟩⟩

theorem ret_bool {b c : Bool} (h : b = c) : Ending.returned (.bool b) = .returned (.bool c) := by rw [h]
theorem min_both {m0 m1 n : Nat} (h : n = min m0 m1) : (n = m0 ∧ m0 ≤ m1) ∨ (n = m1 ∧ m1 < m0) := by omega

theorem info5' : (Try.prog.info? 5).map (fun i => (i.zero, i.size, i.bytes)) = some (some (.int .u8 0), 1, 1) := info5

set_option maxHeartbeats 2000000 in
theorem crcMixed_walk (a0 : Option Addr) (len0 cap0 : Nat) (z0 : List Int) (a1 : Option Addr) (len1 cap1 : Nat) (z1 : List Int) (w : World) (w0 : IsRow .u8 w a0 len0 cap0 z0) (w1 : IsRow .u8 w a1 len1 cap1 z1) :
    Calls Try.prog 6 #[.slice a0 len0 cap0, .slice a1 len1 cap1] w fun e w' => e = .returned (.bool true) ∧ Below w.heap.size w w' := by
  obtain ⟨l0, rfl, hlc0, hcap0, hB0⟩ := bytes_of_row w0
  obtain ⟨l1, rfl, hlc1, hcap1, hB1⟩ := bytes_of_row w1
  clear w0 w1
  obtain ⟨m0, hm0⟩ : ∃ n, n = min l0.length 100 := ⟨_, rfl⟩
  obtain ⟨m1, hm1⟩ : ∃ n, n = min l1.length 100 := ⟨_, rfl⟩
  have HM0 := Lib.hid hm0
  have HM1 := Lib.hid hm1
  obtain ⟨n, hn⟩ : ∃ n, n = min m0 m1 := ⟨_, rfl⟩
  have g0 : n ≤ l0.length := by omega
  have g1 : n ≤ l1.length := by omega
  have g2 : n ≤ 100 := by omega
  have g3 : m0 ≤ 100 := by omega
  have g4 : m1 ≤ 100 := by omega
  clear hm0 hm1
  obtain ⟨f0, hf0⟩ : ∃ l, l = l0.take n := ⟨_, rfl⟩
  obtain ⟨f1, hf1⟩ : ∃ l, l = l1.take n := ⟨_, rfl⟩
  have e0 : f0.length = n := by rw [hf0, List.length_take]; omega
  have e1 : f1.length = n := by rw [hf1, List.length_take]; omega
  obtain ⟨mx, hmx⟩ : ∃ l, l = List.zipWith (· ^^^ ·) f0 f1 := ⟨_, rfl⟩
  have em : mx.length = n := by rw [hmx, List.length_zipWith]; omega
  have hF0 : Bytes w a0 f0 := by rw [hf0]; exact hB0.take n
  have hF1 : Bytes w a1 f1 := by rw [hf1]; exact hB1.take n
  have h8 : ∀ c ∈ mx, c < 256 := by
    intro c hc
    rw [hmx] at hc
    obtain ⟨i, hi, rfl⟩ := List.mem_iff_getElem.1 hc
    rw [List.getElem_zipWith]
    exact Nat.xor_lt_two_pow (n := 8) (hF0.1 _ (List.getElem_mem _)) (hF1.1 _ (List.getElem_mem _))
  have E0 := Lib.hid e0
  have E1 := Lib.hid e1
  have EM := Lib.hid em
  have HX := Lib.hid hmx
  clear e0 e1 em hmx hf0 hf1 hB0 hB1
  have hmk := run_make_row' (P := Try.prog) 22 5 (.int .u8 0) 1 Try.underlying22 info5 rfl .i64 .i64 n (by omega) (by omega)
  have heq : (bits .xor .u32 ((cmore 0 f0 : Nat) : Int) ((cmore 0 f1 : Nat) : Int) == bits .xor .u32 ((cmore 0 mx : Nat) : Int) ((cmore 0 (List.replicate n 0) : Nat) : Int)) = true := by
    rw [u32_xor_nat _ _ (cmore_lt _ _) (cmore_lt _ _), u32_xor_nat _ _ (cmore_lt _ _) (cmore_lt _ _)]
    have := cmore_mixed f0 f1 (E0.out.trans E1.out.symm) hF0.1 hF1.1 (by rw [← HX.out]; exact h8)
    rw [← HX.out, E0.out] at this
    rw [this]
    simp
  have HEQ := Lib.hid heq
  clear heq
  rcases min_both hn with ⟨h, hle⟩ | ⟨h, hle⟩
  all_goals
    subst h
    clear hn
    go_enter Try.func6, Try.ntmps6
    go_wp2_with fail
    refine (shown_any _).mono ?_
    rintro e w1 ⟨rfl, hb1⟩
    go_wp2_with fail
    refine (few_any _ _ _ _ hlc0 hcap0 HM0.out _).mono ?_
    rintro e w' ⟨rfl, rfl⟩
    go_wp2_with fail
    refine (few_any _ _ _ _ hlc1 hcap1 HM1.out _).mono ?_
    rintro e w' ⟨rfl, rfl⟩
    go_wp2_with fail
    go_loopw [8] (fun i wr => ∃ k : Nat, k ≤ n ∧ i = .int .i64 k ∧ MixRel w1 n mx k wr) (fun i _ => n - (intOf i).toNat)
    case atStart => exact ⟨0, by omega, rfl, MixRel.start w1 n mx⟩
    case round =>
      obtain ⟨k, hk, rfl, hT⟩ := hrel
      by_cases hlt : k < n
      · obtain ⟨v0, hc⟩ := hT.cell hlt
        have hf := hT.free k
        have hbl : Below w1.heap.size w1 wr := by obtain ⟨_, _, _, _, h⟩ := hT; exact h
        obtain ⟨b, off, c, rfl, hb, hc8, hx0, hcell0⟩ := ((hF0.below hb1).below hbl).at_ (show k < f0.length by rw [E0.out]; exact hlt)
        obtain ⟨b', off', c', rfl, hb', hc8', hx1, hcell1⟩ := ((hF1.below hb1).below hbl).at_ (show k < f1.length by rw [E1.out]; exact hlt)
        have hxm : mx[k]? = some (c ^^^ c') := by rw [HX.out, List.getElem?_zipWith, hx0, hx1]
        have hx := u8_xor_nat c c' hc8 hc8'
        have hn := hT.drew.next hlt hxm
        have HXM := Lib.hid hxm
        clear hxm hx0 hx1
        go_wp2_with fail
        go_region
        all_goals (go_wp2_with fail)
        refine ⟨⟨k + 1, by omega, by go_num, hn⟩, by simp [intOf]; omega⟩
      · obtain rfl : k = n := by omega
        have hM := hT.bytes EM.out h8
        have hbl : Below w1.heap.size w1 wr := by obtain ⟨_, _, _, _, h⟩ := hT; exact h
        have R0 : Ready w a0 f0 a1 f1 w1.heap.size mx wr := ⟨(hF0.below hb1).below hbl, (hF1.below hb1).below hbl, hM, hb1.trans (hbl.mono hb1.size)⟩
        have kA := fun W (hR : Ready w a0 f0 a1 f1 w1.heap.size mx W) => sum_fit a0 cap0 f0 k E0.out (by omega) W hR.1
        have kB := fun W (hR : Ready w a0 f0 a1 f1 w1.heap.size mx W) => sum_fit a1 cap1 f1 k E1.out (by omega) W hR.2.1
        have kC := fun W (hR : Ready w a0 f0 a1 f1 w1.heap.size mx W) => sum_fit (some ⟨w1.heap.size, 0, none⟩) k mx k EM.out (by omega) W hR.2.2.1
        have KA := Lib.hid kA
        have KB := Lib.hid kB
        have KC := Lib.hid kC
        have kZ := fun g W (hZ : ZAt k g W) => sum_fit (some ⟨g, 0, none⟩) k (List.replicate k 0) k (by simp) (by omega) W (ZAt.bytes hZ)
        have KZ := Lib.hid kZ
        clear kZ
        have i0 : (0 : Int) ≤ (k : Int) := by omega
        have i1 : (k : Int) ≤ (cap0 : Int) := by omega
        have i2 : (k : Int) ≤ (cap1 : Int) := by omega
        clear kA kB kC hM hbl hF0 hF1 hb1 hT
        go_wp2_with fail
        go_region_held3 (fun W' => Ready w a0 f0 a1 f1 w1.heap.size mx W') (first | assumption | (exact Ready.below (by assumption) (by assumption)) | (exact Ready.alloc (by assumption)) | (exact Ready.drew (by assumption)))
          (first
          | (go_at_call_of 9 (Value.slice a0 k cap0); refine (KA.out _ (by assumption)).mono ?_; rintro e w' ⟨rfl, hb'⟩)
          | (go_at_call_of 9 (Value.slice a1 k cap1); refine (KB.out _ (by assumption)).mono ?_; rintro e w' ⟨rfl, hb'⟩)
          | (go_at_call_of 9 (Value.slice (some ⟨w1.heap.size, 0, none⟩) k k); refine (KC.out _ (by assumption)).mono ?_; rintro e w' ⟨rfl, hb'⟩)
          | (go_at_call 9; refine (KZ.out _ _ ?_).mono ?_; (repeat (first | exact ZAt.new _ _ | refine ZAt.below ?_ (by assumption))); rintro e w' ⟨rfl, hb'⟩))
        all_goals
          go_wp2_with fail
          go_ret
          refine ⟨ret_bool HEQ.out, ?_⟩
          first
            | exact (show Ready w a0 f0 a1 f1 w1.heap.size mx _ from by assumption).2.2.2
            | exact (show Ready w a0 f0 a1 f1 w1.heap.size mx _ from Ready.below (by assumption) (by assumption)).2.2.2
end Go.Proofs.Ytbhnfgknbpddiaa.Crc
