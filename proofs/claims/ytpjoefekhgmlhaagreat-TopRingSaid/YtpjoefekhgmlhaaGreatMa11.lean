/- CONTRACTS of package num: numbers as bytes. Conditions: sizes 1, 2, 4, numbers that fit.
CONTRACT of num.Row: some numbers as bytes, one behind the other. Conditions: sizes 1, 2, 4, numbers that fit, no more than 16.
CONTRACTS of package group: a number below 16384 as one byte or two. -/
import Derived.Test.YtpjoefekhgmlhaaGreatMa06
import Derived.IntWalk
import Derived.Laws.BitsAllLaws
namespace Go.Proofs.YtpjoefekhgmlhaaGreat.Tp
open Go.RowKit Mem

theorem sized_lit (n : Int) (w : World) (h : n = 1 ∨ n = 2 ∨ n = 4) : Calls Tryz.prog 111 #[.int .i64 n] w fun e w' => e = .returned (.bool true) ∧ w = w' := by
  rcases h with rfl | rfl | rfl
  all_goals
    go_enter Tryz.func111, Tryz.ntmps111
    go_wp2_with fail
    go_ret
    exact ⟨rfl, rfl⟩

/-- The highest byte first. -/
def be : Nat → Nat → List Nat
  | 1, n => [n]
  | 2, n => [n / 256, n % 256]
  | 4, n => [n / 16777216, n / 65536 % 256, n / 256 % 256, n % 256]
  | _, _ => []
/-- k bytes have been laid, from the end on. -/
def putSt (b : List Nat) (k : Nat) : List Nat := List.replicate (b.length - k) 0 ++ b.drop (b.length - k)

set_option maxRecDepth 100000 in
set_option maxHeartbeats 400000 in
theorem put1 (n : Nat) (hn : n < 256) (w : World) : Calls Tryz.prog 105 #[.int .i64 (n : Int), .int .i64 1] w (VPost w (bytes (be 1 n)) 0) := by
  have hmk : ∀ w, Sem.run Tryz.prog (Instr.makeSlice 45 (.int .i64 1) (.int .i64 1)) w = .ok (.slice (some ⟨w.heap.size, 0, none⟩) 1 1) (w.alloc (.cells #[.int .u8 0] 5)) := fun _ => by kernel_rfl
  go_enter Tryz.func105, Tryz.ntmps105
  go_wp2_with (go_at_call 111; refine (sized_lit 1 _ (by omega)).mono ?_; rintro e w' ⟨rfl, rfl⟩)
  clear hmk
  have hrow := VRow.new w #[.int .u8 0] 5
  have hb : Below w.heap.size w (w.alloc (.cells #[.int .u8 0] 5)) := (Below.refl _ w).alloc (Nat.le_refl _) _
  go_loopw [25] (fun i wr => ∃ k : Nat, k ≤ 1 ∧ i = .int .i64 k ∧ VRow wr w.heap.size (bytes (putSt (be 1 n) k)) ∧ Below w.heap.size w wr) (fun i _ => 1 - (intOf i).toNat)
  case atStart => exact ⟨0, by omega, rfl, hrow, hb⟩
  case round =>
    clear hrow hb
    obtain ⟨k, hk, rfl, hR, hbr⟩ := hrel
    by_cases hlt : k < 1
    · skip
      obtain rfl : k = 0 := by omega
      have hc := hR.cell 0 (by simp [putSt, be])
      have hf := hR.free 0 (by simp [putSt, be])
      have hs := hR.set_ 0 (.int .u8 ((n : Int)))
      have hbs := hbr.setCell (p := ⟨w.heap.size, 0, none⟩) (Nat.le_refl _) (.int .u8 ((n : Int)))
      have HS := Lib.hid hs
      clear hs
      go_wp2_with fail
      refine ⟨⟨1, by omega, rfl, ?_, hbs⟩, by simp [intOf]⟩
      have := HS.out
      simpa [putSt, be, bytes] using this
    · obtain rfl : k = 1 := by omega
      go_wp2_with fail
      go_ret2
      exact ⟨_, _, rfl, hR.lies, hbr, by simp [be], by omega⟩

set_option maxRecDepth 100000 in
set_option maxHeartbeats 400000 in
theorem put2 (n : Nat) (hn : n < 65536) (w : World) : Calls Tryz.prog 105 #[.int .i64 (n : Int), .int .i64 2] w (VPost w (bytes (be 2 n)) 0) := by
  have hmk : ∀ w, Sem.run Tryz.prog (Instr.makeSlice 45 (.int .i64 2) (.int .i64 2)) w = .ok (.slice (some ⟨w.heap.size, 0, none⟩) 2 2) (w.alloc (.cells #[.int .u8 0, .int .u8 0] 5)) := fun _ => by kernel_rfl
  go_enter Tryz.func105, Tryz.ntmps105
  go_wp2_with (go_at_call 111; refine (sized_lit 2 _ (by omega)).mono ?_; rintro e w' ⟨rfl, rfl⟩)
  clear hmk
  have hrow := VRow.new w #[.int .u8 0, .int .u8 0] 5
  have hb : Below w.heap.size w (w.alloc (.cells #[.int .u8 0, .int .u8 0] 5)) := (Below.refl _ w).alloc (Nat.le_refl _) _
  go_loopw [25] (fun i wr => ∃ k : Nat, k ≤ 2 ∧ i = .int .i64 k ∧ VRow wr w.heap.size (bytes (putSt (be 2 n) k)) ∧ Below w.heap.size w wr) (fun i _ => 2 - (intOf i).toNat)
  case atStart => exact ⟨0, by omega, rfl, hrow, hb⟩
  case round =>
    clear hrow hb
    obtain ⟨k, hk, rfl, hR, hbr⟩ := hrel
    by_cases hlt : k < 2
    · skip
      have hk4 : k = 0 ∨ k = 1 := by omega
      rcases hk4 with rfl | rfl
      · have hc := hR.cell 1 (by simp [putSt, be])
        have hf := hR.free 1 (by simp [putSt, be])
        have hs := hR.set_ 1 (.int .u8 ((n : Int) % 256))
        have hbs := hbr.setCell (p := ⟨w.heap.size, 1, none⟩) (Nat.le_refl _) (.int .u8 ((n : Int) % 256))
        have HS := Lib.hid hs
        clear hs
        go_wp2_with fail
        refine ⟨⟨1, by omega, rfl, ?_, hbs⟩, by simp [intOf]⟩
        have := HS.out
        simpa [putSt, be, bytes] using this
      · have hc := hR.cell 0 (by simp [putSt, be])
        have hf := hR.free 0 (by simp [putSt, be])
        have hs := hR.set_ 0 (.int .u8 ((n : Int) / 256))
        have hbs := hbr.setCell (p := ⟨w.heap.size, 0, none⟩) (Nat.le_refl _) (.int .u8 ((n : Int) / 256))
        have HS := Lib.hid hs
        clear hs
        go_wp2_with fail
        refine ⟨⟨2, by omega, rfl, ?_, hbs⟩, by simp [intOf]⟩
        have := HS.out
        simpa [putSt, be, bytes] using this
    · obtain rfl : k = 2 := by omega
      go_wp2_with fail
      go_ret2
      exact ⟨_, _, rfl, hR.lies, hbr, by simp [be], by omega⟩

set_option maxRecDepth 100000 in
set_option maxHeartbeats 400000 in
theorem put4 (n : Nat) (hn : n < 4294967296) (w : World) : Calls Tryz.prog 105 #[.int .i64 (n : Int), .int .i64 4] w (VPost w (bytes (be 4 n)) 0) := by
  have hmk : ∀ w, Sem.run Tryz.prog (Instr.makeSlice 45 (.int .i64 4) (.int .i64 4)) w = .ok (.slice (some ⟨w.heap.size, 0, none⟩) 4 4) (w.alloc (.cells #[.int .u8 0, .int .u8 0, .int .u8 0, .int .u8 0] 5)) := fun _ => by kernel_rfl
  go_enter Tryz.func105, Tryz.ntmps105
  go_wp2_with (go_at_call 111; refine (sized_lit 4 _ (by omega)).mono ?_; rintro e w' ⟨rfl, rfl⟩)
  clear hmk
  have hrow := VRow.new w #[.int .u8 0, .int .u8 0, .int .u8 0, .int .u8 0] 5
  have hb : Below w.heap.size w (w.alloc (.cells #[.int .u8 0, .int .u8 0, .int .u8 0, .int .u8 0] 5)) := (Below.refl _ w).alloc (Nat.le_refl _) _
  go_loopw [25] (fun i wr => ∃ k : Nat, k ≤ 4 ∧ i = .int .i64 k ∧ VRow wr w.heap.size (bytes (putSt (be 4 n) k)) ∧ Below w.heap.size w wr) (fun i _ => 4 - (intOf i).toNat)
  case atStart => exact ⟨0, by omega, rfl, hrow, hb⟩
  case round =>
    clear hrow hb
    obtain ⟨k, hk, rfl, hR, hbr⟩ := hrel
    by_cases hlt : k < 4
    · skip
      have hk4 : k = 0 ∨ k = 1 ∨ k = 2 ∨ k = 3 := by omega
      rcases hk4 with rfl | rfl | rfl | rfl
      · have hc := hR.cell 3 (by simp [putSt, be])
        have hf := hR.free 3 (by simp [putSt, be])
        have hs := hR.set_ 3 (.int .u8 ((n : Int) % 256))
        have hbs := hbr.setCell (p := ⟨w.heap.size, 3, none⟩) (Nat.le_refl _) (.int .u8 ((n : Int) % 256))
        have HS := Lib.hid hs
        clear hs
        go_wp2_with fail
        refine ⟨⟨1, by omega, rfl, ?_, hbs⟩, by simp [intOf]⟩
        have := HS.out
        simpa [putSt, be, bytes] using this
      · have hc := hR.cell 2 (by simp [putSt, be])
        have hf := hR.free 2 (by simp [putSt, be])
        have hs := hR.set_ 2 (.int .u8 ((n : Int) / 256 % 256))
        have hbs := hbr.setCell (p := ⟨w.heap.size, 2, none⟩) (Nat.le_refl _) (.int .u8 ((n : Int) / 256 % 256))
        have HS := Lib.hid hs
        clear hs
        go_wp2_with fail
        refine ⟨⟨2, by omega, rfl, ?_, hbs⟩, by simp [intOf]⟩
        have := HS.out
        simpa [putSt, be, bytes] using this
      · have hc := hR.cell 1 (by simp [putSt, be])
        have hf := hR.free 1 (by simp [putSt, be])
        have hs := hR.set_ 1 (.int .u8 ((n : Int) / 65536 % 256))
        have hbs := hbr.setCell (p := ⟨w.heap.size, 1, none⟩) (Nat.le_refl _) (.int .u8 ((n : Int) / 65536 % 256))
        have HS := Lib.hid hs
        clear hs
        go_wp2_with fail
        refine ⟨⟨3, by omega, rfl, ?_, hbs⟩, by simp [intOf]⟩
        have := HS.out
        simpa [putSt, be, bytes] using this
      · have hc := hR.cell 0 (by simp [putSt, be])
        have hf := hR.free 0 (by simp [putSt, be])
        have hs := hR.set_ 0 (.int .u8 ((n : Int) / 16777216))
        have hbs := hbr.setCell (p := ⟨w.heap.size, 0, none⟩) (Nat.le_refl _) (.int .u8 ((n : Int) / 16777216))
        have HS := Lib.hid hs
        clear hs
        go_wp2_with fail
        refine ⟨⟨4, by omega, rfl, ?_, hbs⟩, by simp [intOf]⟩
        have := HS.out
        simpa [putSt, be, bytes] using this
    · obtain rfl : k = 4 := by omega
      go_wp2_with fail
      go_ret2
      exact ⟨_, _, rfl, hR.lies, hbr, by simp [be], by omega⟩


/-! ### numbers taken -/
theorem or_i64 (a b : Nat) (ha : a < 4294967296) (hb : b < 256) (hm : a % 256 = 0) : bits .or .i64 (a : Int) (b : Int) = ((a + b : Nat) : Int) := by
  rw [← nat_join 8 a b (by omega) (by omega)]
  have hx : a ||| b < 2 ^ 32 := Nat.or_lt_two_pow (by omega) (by omega)
  show IntKind.i64.wrap ((BitVec.ofInt 64 (a : Int) ||| BitVec.ofInt 64 (b : Int)).toNat : Int) = _
  rw [BitVec.toNat_or, BitVec.ofInt_natCast, BitVec.ofInt_natCast, BitVec.toNat_ofNat, BitVec.toNat_ofNat, Nat.mod_eq_of_lt (by omega), Nat.mod_eq_of_lt (by omega)]
  exact IntWalk.i64_in _ (by omega)
def ofBe (l : List Nat) : Nat := l.foldl (fun n b => n * 256 + b) 0
theorem ofBe_snoc (l : List Nat) (b : Nat) : ofBe (l ++ [b]) = ofBe l * 256 + b := by simp [ofBe]
theorem ofBe_lt : ∀ (k : Nat) (l : List Nat), l.length ≤ k → (∀ b ∈ l, b < 256) → ofBe l < 256 ^ k
  | 0, l, h, _ => by
    have : l = [] := List.length_eq_zero_iff.1 (by omega)
    subst this; simp [ofBe]
  | k + 1, l, h, hb => by
    rcases List.eq_nil_or_concat l with rfl | ⟨l', b, rfl⟩
    · simp only [ofBe, List.foldl_nil]; exact Nat.pow_pos (by omega)
    · rw [List.concat_eq_append, ofBe_snoc]
      have h1 := ofBe_lt k l' (by simp at h; omega) (fun x hx => hb x (by simp [hx]))
      have h2 := hb b (by simp)
      rw [Nat.pow_succ]
      omega
theorem ofBe_be1 {n : Nat} : ofBe (be 1 n) = n := by simp [ofBe, be]
theorem ofBe_be2 {n : Nat} : ofBe (be 2 n) = n := by simp only [ofBe, be, List.foldl_cons, List.foldl_nil]; omega
theorem ofBe_be4 {n : Nat} : ofBe (be 4 n) = n := by simp only [ofBe, be, List.foldl_cons, List.foldl_nil]; omega

set_option maxRecDepth 100000 in
set_option maxHeartbeats 400000 in
theorem take_any (A : Option Addr) (c : Nat) (l : List Nat) (size : Nat) (w : World) (hA : Lies w A (bytes l)) (hl : l.length ≤ 9223372036854775807) (hb : ∀ b ∈ l, b < 256) (hs : size = 1 ∨ size = 2 ∨ size = 4) (hsl : size ≤ l.length) :
    Calls Tryz.prog 79 #[.slice A l.length c, .int .i64 (size : Int)] w fun e w' => e = .returned (.tuple #[.int .i64 ((ofBe (l.take size) : Nat) : Int), .int .i64 0]) ∧ w = w' := by
  have hs4 : size ≤ 4 := by omega
  have hz := sized_lit (size : Int) w (by omega)
  have HZ := Lib.hid hz
  have HB := Lib.hid hb
  clear hz hs hb
  go_enter Tryz.func79, Tryz.ntmps79
  go_wp2_with (go_at_call 111; refine (HZ.out).mono ?_; rintro e w' ⟨rfl, rfl⟩)
  go_loop [4, 15] (fun n i => ∃ k v : Nat, k ≤ size ∧ i = .int .i64 k ∧ n = .int .i64 v ∧ Hid (v = ofBe (l.take k))) (fun _ i => size - (intOf i).toNat)
  case atStart => exact ⟨0, 0, by omega, rfl, rfl, Lib.hid (by simp [ofBe])⟩
  case round =>
    obtain ⟨k, v, hk, rfl, rfl, HV⟩ := hrel
    by_cases hlt : k < size
    · have hkl : k < l.length := by omega
      obtain ⟨b, off, rfl, hbk, hcell⟩ := hA.at_map hkl
      have hby := HB.out l[k] (List.getElem_mem hkl)
      have hnx : ofBe (l.take (k + 1)) = v * 256 + l[k] := by rw [List.take_succ_eq_append_getElem hkl, ofBe_snoc, ← HV.out]
      have hv : v < 256 ^ 3 := by
        rw [HV.out]
        refine ofBe_lt 3 _ (by simp; omega) (fun b hb => HB.out b (List.mem_of_mem_take hb))
      obtain ⟨y, hy⟩ : ∃ y, y = l[k] := ⟨_, rfl⟩
      rw [← hy] at hcell hby hnx
      have hor : bits .or .i64 ((v : Int) * 256) (y : Int) = (v : Int) * 256 + (y : Int) := by
        have := or_i64 (v * 256) y (by omega) hby (by omega)
        simpa using this
      have HNX := Lib.hid hnx
      have hv2 : v < 16777216 := hv
      clear hnx hy hv
      go_wp2_with fail
      refine ⟨⟨k + 1, v * 256 + y, by omega, by go_num, by simp, Lib.hid HNX.out.symm⟩, by simp [intOf]; omega⟩
    · obtain rfl : k = size := by omega
      go_wp2_with fail
      go_ret2
      have e := HV.out
      subst e
      exact ⟨rfl, rfl⟩
end Go.Proofs.YtpjoefekhgmlhaaGreat.Tp

namespace Go.Proofs.YtpjoefekhgmlhaaGreat.Tp
open Go.RowKit Mem

theorem be_len {size n : Nat} (h : size = 1 ∨ size = 2 ∨ size = 4) : (be size n).length = size := by rcases h with rfl | rfl | rfl <;> rfl
theorem be_lt {size n : Nat} (h : size = 1 ∨ size = 2 ∨ size = 4) (hn : n < 256 ^ size) : ∀ b ∈ be size n, b < 256 := by
  rcases h with rfl | rfl | rfl
  · simp [be]; omega
  · simp [be]; omega
  · simp [be]; omega
theorem put_any {size n : Nat} (h : size = 1 ∨ size = 2 ∨ size = 4) (hn : n < 256 ^ size) (w : World) : Calls Tryz.prog 105 #[.int .i64 (n : Int), .int .i64 (size : Int)] w (VPost w (bytes (be size n)) 0) := by
  rcases h with rfl | rfl | rfl
  · exact put1 n hn w
  · exact put2 n hn w
  · exact put4 n hn w
theorem bytes_one (l : List Nat) : ∀ u ∈ bytes l, u.oneCell' = true := by
  intro u hu
  obtain ⟨x, _, rfl⟩ := List.mem_map.1 hu
  rfl
def rowB (size : Nat) (l : List Nat) : List Nat := l.flatMap (be size)
theorem rowB_snoc (size : Nat) (l : List Nat) (x : Nat) : rowB size (l ++ [x]) = rowB size l ++ be size x := by simp [rowB]
theorem rowB_len {size : Nat} (h : size = 1 ∨ size = 2 ∨ size = 4) : ∀ l : List Nat, (rowB size l).length = l.length * size
  | [] => by simp [rowB]
  | x :: l => by
    have := rowB_len h l
    simp only [rowB, List.flatMap_cons, List.length_append, be_len h, List.length_cons] at this ⊢
    rw [this, Nat.add_mul]; omega

set_option maxRecDepth 100000 in
set_option maxHeartbeats 1000000 in
theorem row_bytes (A : Option Addr) (c : Nat) (l : List Nat) (size : Nat) (w : World) (hA : Lies w A (Gr.ints (l.map fun x : Nat => (x : Int)))) (hl : l.length ≤ 16) (hs : size = 1 ∨ size = 2 ∨ size = 4) (hb : ∀ x ∈ l, x < 256 ^ size) :
    Calls Tryz.prog 110 #[.int .i64 (size : Int), .slice A l.length c] w (VPost w (bytes (rowB size l)) 0) := by
  have hz := sized_lit (size : Int) w (by omega)
  obtain ⟨i0, hi, hz0, hz1, hz2⟩ := info_parts byte_info
  have hs4 : size ≤ 4 := by omega
  have hp := fun n (hn : n < 256 ^ size) W => put_any hs hn W
  have hbl := fun n => be_len (n := n) hs
  have hrl := fun k => rowB_len hs (l.take k)
  have HZ := Lib.hid hz
  have HB := Lib.hid hb
  have HP := Lib.hid hp
  have HBL := Lib.hid hbl
  have HRL := Lib.hid hrl
  clear hz hs hb hp hbl hrl
  go_enter Tryz.func110, Tryz.ntmps110
  go_wp2_with (go_at_call 111; refine (HZ.out).mono ?_; rintro e w' ⟨rfl, rfl⟩)
  go_loopw [6, 16] (fun s i wr => ∃ k : Nat, k ≤ l.length ∧ i = .int .i64 k ∧ wr.ownsRow w.heap.size 5 1 s (k * size) (bytes (rowB size (l.take k))) ∧ Below w.heap.size w wr) (fun _ i _ => l.length - (intOf i).toNat)
  case atStart => exact ⟨0, by omega, rfl, by rw [Nat.zero_mul]; exact World.ownsRow_nil _ _ _ _, Below.refl _ _⟩
  case round =>
    obtain ⟨k, hk, rfl, hown, hbr⟩ := hrel
    obtain ⟨A5, m5, rfl, hm1, hm2⟩ := own_form hown
    have hks : k * size ≤ 64 := Nat.le_trans (Nat.mul_le_mul (show k ≤ 16 by omega) hs4) (by omega)
    by_cases hlt : k < l.length
    · obtain ⟨b, off, rfl, hb, hcell0⟩ := hA.at_map (show k < (l.map fun x : Nat => (x : Int)).length by simpa using hlt)
      have hcell := (hbr.cell (p := ⟨b, off + k, none⟩) hb).trans hcell0
      rw [List.getElem_map] at hcell
      have hx := HB.out l[k] (List.getElem_mem hlt)
      have hnx : rowB size (l.take (k + 1)) = rowB size (l.take k) ++ be size l[k] := by rw [List.take_succ_eq_append_getElem hlt, rowB_snoc]
      obtain ⟨x, hxe⟩ : ∃ x, x = l[k] := ⟨_, rfl⟩
      rw [← hxe] at hcell hx hnx
      have hput := HP.out x hx wr
      have hbl := HBL.out x
      have HNX := Lib.hid hnx
      have HPUT := Lib.hid hput
      have HB2 := Lib.hid hbl
      have hsz := hbr.size
      have hrow : ∀ g, (Value.slice A5 (k * size) m5).ownBlock = some g → w.heap.size ≤ g ∧ g < wr.heap.size := fun g h => hown.lt g h
      have HROW := Lib.hid hrow
      clear hnx hxe hput hbl hx hcell0 hrow
      go_wp2_with fail
      refine (HPUT.out).mono ?_
      rintro e w2 ⟨R, m2, rfl, hL, hb2, _, _⟩
      have hown2 := own_below hown hb2
      have hs2 : w.heap.size ≤ w2.heap.size := Nat.le_trans hsz hb2.size
      have hlen : (bytes (be size x)).length = size := by rw [List.length_map, HB2.out]
      rw [hlen]
      have HLEN := Lib.hid hlen
      clear hlen
      go_wp2_with (at_builtin; refine wpList_append_lies _ rfl (.tmp 29) (.tmp 30) _ rfl w.heap.size 5 i0 _ 1 1 Tryz.underlying45 hi hz0 hz1 hz2 rfl (by omega) (.slice A5 (k * size) m5) (k * size) _ rfl hown2 R size m2 (bytes (be size x)) rfl (by rw [HLEN.out, Nat.mul_one]) hL (bytes_one _) (by simp only [maxLen]; omega) (by omega) hs2 ?_; intro v3 w3 hown3 hg3 hat3)
      have hb3 : Below w.heap.size w w3 := (hbr.trans (hb2.mono hsz)).grown hg3 hs2 (fun g h => (HROW.out g h).1)
      go_roundw
      case rel => exact ⟨k + 1, by omega, by go_num, by rw [HNX.out, Nat.add_mul, Nat.one_mul, bytes, List.map_append]; exact hown3, hb3⟩
      case measure => simp [intOf]; omega
    · obtain rfl : k = l.length := by omega
      go_wp2_with fail
      go_ret2
      rw [List.take_of_length_le (Nat.le_refl _)] at hown
      have hrl := HRL.out l.length
      rw [List.take_of_length_le (Nat.le_refl _)] at hrl
      exact ⟨A5, m5, Gr.tup_ret (by rw [List.length_map, hrl]), .of_own hown, hbr, by rw [List.length_map, hrl]; exact hm1, hm2⟩
end Go.Proofs.YtpjoefekhgmlhaaGreat.Tp

namespace Go.Proofs.YtpjoefekhgmlhaaGreat.Tp
open Go.RowKit Mem

/-- A row of bytes in a block of just its size. -/
structure BRow (w : World) (g : Nat) (xs : List Value) : Prop extends VRow w g xs where
  blk : ∃ cs, w.heap[g]? = some (.cells cs 5 (0, 0)) ∧ cs.size = xs.length
theorem BRow.set_ {w : World} {g : Nat} {xs : List Value} (h : BRow w g xs) (k : Nat) (x : Value) : BRow (w.setCell ⟨g, k, none⟩ x) g (xs.set k x) := by
  obtain ⟨cs, h1, h2⟩ := h.blk
  refine ⟨h.toVRow.set_ k x, _, heap_setCell_same w g k cs 5 x h1, by simp [h2]⟩
theorem BRow.new (w : World) (cs : Array Value) : BRow (w.alloc (.cells cs 5)) w.heap.size cs.toList := ⟨VRow.new w cs 5, cs, heap_alloc_new w _, by simp⟩
theorem BRow.own {w : World} {g base n : Nat} {xs : List Value} (h : BRow w g xs) (hb : base ≤ g) (hn : n = xs.length) (hm : xs.length ≤ 1000000) : w.ownsRow base 5 1 (.slice (some ⟨g, 0, none⟩) n n) n xs := by
  subst hn
  obtain ⟨cs, h1, h2⟩ := h.blk
  refine ⟨by simp, .inr ⟨g, xs.length, cs, rfl, hb, h1, Nat.le_refl _, by simp only [maxLen]; omega, by omega, ?_⟩⟩
  apply List.ext_getElem?
  intro i
  by_cases hi : i < xs.length
  · have hc := h.cell i hi
    rw [cell_of_row w g i cs 5 (0, 0) h1] at hc
    rw [List.getElem?_take, if_pos (by omega), Array.getElem?_toList, hc, List.getElem?_eq_getElem hi]
  · rw [List.getElem?_eq_none (by simp; omega), List.getElem?_eq_none (by omega)]
/-- A slice of the call's own and an errno are told. -/
def OPost (w : World) (xs : List Value) (en : Int) (e : Ending) (w' : World) : Prop := ∃ R m, e = .returned (.tuple #[.slice R xs.length m, .int .i64 en]) ∧ w'.ownsRow w.heap.size 5 1 (.slice R xs.length m) xs.length xs ∧ Below w.heap.size w w' ∧ xs.length ≤ m ∧ m ≤ 9223372036854775807
def gp (n : Nat) : List Nat := if n < 128 then [n] else [n / 128 + 128, n % 128]
theorem gp_lt {n : Nat} (hn : n < 16384) : ∀ b ∈ gp n, b < 256 := by
  unfold gp
  split
  · simp; omega
  · simp; omega
theorem gp_len (n : Nat) : 1 ≤ (gp n).length ∧ (gp n).length ≤ 2 := by
  unfold gp
  split <;> simp
set_option maxRecDepth 100000 in
set_option maxHeartbeats 400000 in
theorem gsize_any (n : Nat) (hn : n < 16384) (w : World) : Calls Tryz.prog 103 #[.int .i64 (n : Int)] w fun e w' => e = .returned (.int .i64 (if n < 128 then 1 else 2)) ∧ w = w' := by
  by_cases h : n < 128
  · have e : (if n < 128 then (1 : Int) else 2) = 1 := if_pos h
    rw [e]
    clear e
    go_enter Tryz.func103, Tryz.ntmps103
    go_wp2_with fail
    go_loop [0, 3] (fun x s => x = .int .i64 (n : Int) ∧ s = .int .i64 1) (fun x _ => (intOf x).toNat)
    case atStart => exact ⟨rfl, rfl⟩
    case round =>
      obtain ⟨rfl, rfl⟩ := hrel
      go_wp2_with fail
      go_ret
      exact ⟨rfl, rfl⟩
  · have e : (if n < 128 then (1 : Int) else 2) = 2 := if_neg h
    rw [e]
    clear e
    go_enter Tryz.func103, Tryz.ntmps103
    go_wp2_with fail
    go_loopg [0, 3] 1 (fun g x s wr => w = wr ∧ ∃ y : Nat, x = .int .i64 (y : Int) ∧ ((g = 1 ∧ Hid (y = n) ∧ 128 ≤ y ∧ y < 16384 ∧ s = .int .i64 1) ∨ (g = 0 ∧ y < 128 ∧ s = .int .i64 2)))
    case atStart => exact ⟨rfl, n, rfl, .inl ⟨rfl, Lib.hid rfl, by omega, hn, rfl⟩⟩
    case round =>
      obtain ⟨rfl, y, rfl, ⟨rfl, hy, h1, h2, rfl⟩ | ⟨rfl, h1, rfl⟩⟩ := hrel
      · go_wp2_with fail
        go_roundg 0
        case measure => omega
        case rel => exact ⟨rfl, y / 128, by simp, .inr ⟨rfl, by omega, rfl⟩⟩
      · go_wp2_with fail
        go_ret
        exact ⟨rfl, rfl⟩

set_option maxRecDepth 100000 in
set_option maxHeartbeats 1000000 in
theorem gput_own (n : Nat) (hn : n < 16384) (w : World) : Calls Tryz.prog 66 #[.int .i64 (n : Int)] w (OPost w (bytes (gp n)) 0) := by
  have hz := gsize_any n hn w
  by_cases h : n < 128
  · have e : gp n = [n] := if_pos h
    rw [e]
    rw [if_pos h] at hz
    have HZ := Lib.hid hz
    have hmk : ∀ w, Sem.run Tryz.prog (Instr.makeSlice 45 (.int .i64 1) (.int .i64 1)) w = .ok (.slice (some ⟨w.heap.size, 0, none⟩) 1 1) (w.alloc (.cells #[.int .u8 0] 5)) := fun _ => by kernel_rfl
    clear hz e
    go_enter Tryz.func66, Tryz.ntmps66
    go_wp2_with (go_at_call 103; refine (HZ.out).mono ?_; rintro e w' ⟨rfl, rfl⟩)
    clear hmk
    have hrow := BRow.new w #[.int .u8 0]
    have hb : Below w.heap.size w (w.alloc (.cells #[.int .u8 0] 5)) := (Below.refl _ w).alloc (Nat.le_refl _) _
    go_loopg [0, 6] 1 (fun g x i wr => (g = 1 ∧ x = .int .i64 (n : Int) ∧ i = .int .i64 0 ∧ BRow wr w.heap.size [.int .u8 0] ∧ Below w.heap.size w wr) ∨ (g = 0 ∧ x = .int .i64 0 ∧ i = .int .i64 (-1) ∧ BRow wr w.heap.size [.int .u8 ((n : Int) + 128)] ∧ Below w.heap.size w wr))
    case atStart => exact .inl ⟨rfl, rfl, rfl, hrow, hb⟩
    case round =>
      clear hrow hb
      rcases hrel with ⟨rfl, rfl, rfl, hR, hbr⟩ | ⟨rfl, rfl, rfl, hR, hbr⟩
      · have hc := hR.cell 0 (by simp)
        have hf := hR.free 0 (by simp)
        have hs := hR.set_ 0 (.int .u8 ((n : Int) + 128))
        have hbs := hbr.setCell (p := ⟨w.heap.size, 0, none⟩) (Nat.le_refl _) (.int .u8 ((n : Int) + 128))
        have hd : (n : Int) / 128 = 0 := by omega
        have hm : (n : Int) % 128 = (n : Int) := by omega
        clear hR hbr
        go_wp2_with fail
        go_roundg 0
        case measure => omega
        case rel => exact .inr ⟨rfl, by simp, rfl, by simpa using hs, by simpa using hbs⟩
      · have hc := hR.cell 0 (by simp)
        have hf := hR.free 0 (by simp)
        have hs := hR.set_ 0 (.int .u8 (n : Int))
        have hbs := hbr.setCell (p := ⟨w.heap.size, 0, none⟩) (Nat.le_refl _) (.int .u8 (n : Int))
        simp only [List.getElem_cons_zero] at hc
        clear hR hbr
        go_wp2_with fail
        go_ret2
        exact ⟨_, _, rfl, by simpa using hs.own (Nat.le_refl _) rfl (by simp), by simpa using hbs, by simp, by omega⟩
  · have e : gp n = [n / 128 + 128, n % 128] := if_neg h
    rw [e]
    rw [if_neg h] at hz
    have HZ := Lib.hid hz
    have hmk : ∀ w, Sem.run Tryz.prog (Instr.makeSlice 45 (.int .i64 2) (.int .i64 2)) w = .ok (.slice (some ⟨w.heap.size, 0, none⟩) 2 2) (w.alloc (.cells #[.int .u8 0, .int .u8 0] 5)) := fun _ => by kernel_rfl
    clear hz e
    go_enter Tryz.func66, Tryz.ntmps66
    go_wp2_with (go_at_call 103; refine (HZ.out).mono ?_; rintro e w' ⟨rfl, rfl⟩)
    clear hmk
    have hrow := BRow.new w #[.int .u8 0, .int .u8 0]
    have hb : Below w.heap.size w (w.alloc (.cells #[.int .u8 0, .int .u8 0] 5)) := (Below.refl _ w).alloc (Nat.le_refl _) _
    go_loopg [0, 6] 2 (fun g x i wr => (g = 2 ∧ x = .int .i64 (n : Int) ∧ i = .int .i64 1 ∧ BRow wr w.heap.size [.int .u8 0, .int .u8 0] ∧ Below w.heap.size w wr) ∨ (g = 1 ∧ x = .int .i64 ((n : Int) / 128) ∧ i = .int .i64 0 ∧ BRow wr w.heap.size [.int .u8 0, .int .u8 ((n : Int) % 128 + 128)] ∧ Below w.heap.size w wr) ∨ (g = 0 ∧ i = .int .i64 (-1) ∧ BRow wr w.heap.size [.int .u8 ((n : Int) / 128 + 128), .int .u8 ((n : Int) % 128 + 128)] ∧ Below w.heap.size w wr))
    case atStart => exact .inl ⟨rfl, rfl, rfl, hrow, hb⟩
    case round =>
      clear hrow hb
      rcases hrel with ⟨rfl, rfl, rfl, hR, hbr⟩ | ⟨rfl, rfl, rfl, hR, hbr⟩ | ⟨rfl, rfl, hR, hbr⟩
      · have hc := hR.cell 1 (by simp)
        have hf := hR.free 1 (by simp)
        have hs := hR.set_ 1 (.int .u8 ((n : Int) % 128 + 128))
        have hbs := hbr.setCell (p := ⟨w.heap.size, 1, none⟩) (Nat.le_refl _) (.int .u8 ((n : Int) % 128 + 128))
        clear hR hbr
        go_wp2_with fail
        go_roundg 1
        case measure => omega
        case rel => exact .inr (.inl ⟨rfl, rfl, rfl, by simpa using hs, by simpa using hbs⟩)
      · have hc := hR.cell 0 (by simp)
        have hf := hR.free 0 (by simp)
        have hs := hR.set_ 0 (.int .u8 ((n : Int) / 128 + 128))
        have hbs := hbr.setCell (p := ⟨w.heap.size, 0, none⟩) (Nat.le_refl _) (.int .u8 ((n : Int) / 128 + 128))
        obtain ⟨q, hq⟩ : ∃ q : Int, q = (n : Int) / 128 := ⟨_, rfl⟩
        rw [← hq] at hs hbs ⊢
        have hm : q % 128 = q := by omega
        have h1 : 0 ≤ q := by omega
        have h2 : q < 128 := by omega
        have HQ := Lib.hid hq
        clear hR hbr hq
        go_wp2_with fail
        go_roundg 0
        case measure => omega
        case rel => exact .inr (.inr ⟨rfl, rfl, by rw [← HQ.out]; simpa using hs, by simpa using hbs⟩)
      · have hc := hR.cell 1 (by simp)
        have hf := hR.free 1 (by simp)
        have hs := hR.set_ 1 (.int .u8 ((n : Int) % 128))
        have hbs := hbr.setCell (p := ⟨w.heap.size, 1, none⟩) (Nat.le_refl _) (.int .u8 ((n : Int) % 128))
        simp only [List.getElem_cons_succ, List.getElem_cons_zero] at hc
        clear hR hbr
        go_wp2_with fail
        go_ret2
        exact ⟨_, _, rfl, by simpa using hs.own (Nat.le_refl _) rfl (by simp), by simpa using hbs, by simp, by omega⟩

theorem gput_any (n : Nat) (hn : n < 16384) (w : World) : Calls Tryz.prog 66 #[.int .i64 (n : Int)] w (VPost w (bytes (gp n)) 0) :=
  (gput_own n hn w).mono fun _ _ ⟨R, m, h1, h2, h3⟩ => ⟨R, m, h1, .of_own h2, h3⟩
theorem mul_split (n : Int) : n / 128 * 128 + n % 128 = n := by omega
set_option maxRecDepth 100000 in
set_option maxHeartbeats 1000000 in
theorem gtake_any (A : Option Addr) (c : Nat) (n : Nat) (rest : List Nat) (w : World) (hn : n < 16384) (hA : Lies w A (bytes (gp n ++ rest))) (hl : (gp n ++ rest).length ≤ 9223372036854775807) :
    Calls Tryz.prog 80 #[.slice A (gp n ++ rest).length c] w fun e w' => e = .returned (.tuple #[.int .i64 (n : Int), .int .i64 ((gp n).length : Int), .int .i64 0]) ∧ w = w' := by
  by_cases h : n < 128
  · have e : gp n = [n] := if_pos h
    rw [e] at hA hl ⊢
    obtain ⟨b, off, rfl, hb, hcell⟩ := hA.at_map (show 0 < ([n] ++ rest).length by simp)
    simp only [List.cons_append, List.getElem_cons_zero, Nat.add_zero] at hcell
    obtain ⟨L, hL⟩ : ∃ L, L = ([n] ++ rest).length := ⟨_, rfl⟩
    rw [← hL] at hl ⊢
    have h1 : 1 ≤ L := by rw [hL]; simp
    clear hL hA e
    have c1 : ((n : Int) == 128) = false := by rw [beq_eq_false_iff_ne]; omega
    have hm : (n : Int) % 128 = (n : Int) := by omega
    go_enter Tryz.func80, Tryz.ntmps80
    go_wp2_with fail
    go_step3
    go_wp2_with fail
    go_step3
    go_wp2_with fail
    go_loopg [5, 6, 7, 12] 1 (fun g v k l i wr => w = wr ∧ g = 1 ∧ v = .int .i64 0 ∧ k = .int .i64 0 ∧ l = .bool false ∧ i = .int .i64 0)
    case atStart => exact ⟨rfl, rfl, rfl, rfl, rfl, rfl⟩
    case round =>
      obtain ⟨rfl, rfl, rfl, rfl, rfl, rfl⟩ := hrel
      go_wp2_with fail
      rw [Exit.noGoto_ret]
      go_ret3
      exact ⟨rfl, rfl⟩
  · have e : gp n = [n / 128 + 128, n % 128] := if_neg h
    rw [e] at hA hl ⊢
    obtain ⟨b, off, rfl, hb, hcell⟩ := hA.at_map (show 0 < ([n / 128 + 128, n % 128] ++ rest).length by simp)
    obtain ⟨b', off', e2, hb', hcell'⟩ := hA.at_map (show 1 < ([n / 128 + 128, n % 128] ++ rest).length by simp)
    injection e2 with e2
    injection e2 with e2 e3 _
    subst e2 e3
    simp only [List.cons_append, List.getElem_cons_zero, List.getElem_cons_succ, Nat.add_zero] at hcell hcell'
    obtain ⟨L, hL⟩ : ∃ L, L = ([n / 128 + 128, n % 128] ++ rest).length := ⟨_, rfl⟩
    rw [← hL] at hl ⊢
    have h2 : 2 ≤ L := by rw [hL]; simp
    obtain ⟨q, hq⟩ : ∃ q, q = n / 128 := ⟨_, rfl⟩
    obtain ⟨r, hr⟩ : ∃ r, r = n % 128 := ⟨_, rfl⟩
    rw [← hq, Int.natCast_add] at hcell
    rw [← hr] at hcell'
    have hn2 : n = q * 128 + r := by omega
    have hq1 : 1 ≤ q := by omega
    have hq2 : q < 128 := by omega
    have hr2 : r < 128 := by omega
    have HN := Lib.hid hn2
    clear hL hA e hq hr hn2 hn h
    have c1 : ((q : Int) + 128 == 128) = false := by rw [beq_eq_false_iff_ne]; omega
    have hm : ((q : Int) + 128) % 128 = (q : Int) := by omega
    have hm2 : (r : Int) % 128 = (r : Int) := by omega
    go_enter Tryz.func80, Tryz.ntmps80
    go_wp2_with fail
    go_step3
    go_wp2_with fail
    go_step3
    go_wp2_with fail
    go_loopg [5, 6, 7, 12] 2 (fun g v k l i wr => w = wr ∧ l = .bool false ∧ ((g = 2 ∧ v = .int .i64 0 ∧ k = .int .i64 0 ∧ i = .int .i64 0) ∨ (g = 1 ∧ v = .int .i64 (q : Int) ∧ k = .int .i64 1 ∧ i = .int .i64 1)))
    case atStart => exact ⟨rfl, rfl, .inl ⟨rfl, rfl, rfl, rfl⟩⟩
    case round =>
      obtain ⟨rfl, rfl, ⟨rfl, rfl, rfl, rfl⟩ | ⟨rfl, rfl, rfl, rfl⟩⟩ := hrel
      · go_wp2_with fail
        go_roundg 1
        case measure => omega
        case rel => exact ⟨rfl, rfl, .inr ⟨rfl, rfl, rfl, rfl⟩⟩
      · go_wp2_with fail
        rw [Exit.noGoto_ret]
        go_ret3
        have e := HN.out
        subst e
        exact ⟨by simp, rfl⟩
end Go.Proofs.YtpjoefekhgmlhaaGreat.Tp
