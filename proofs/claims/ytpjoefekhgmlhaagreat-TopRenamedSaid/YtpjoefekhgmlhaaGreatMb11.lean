/- CONTRACTS of package group: a number below 16384 as one byte or two. · WORDS for slices of slices of one-cell elements: the cut under a name of its own, one run equation for every world. · CONTRACTS of package frame: four, own, Put; bytes.Equal of equal bytes. Conditions: the slices read as bytes, no more than 2^32. · CONTRACT of frame.Take of what was put. Conditions: the slice reads as such bytes. -/
import Derived.Test.YtpjoefekhgmlhaaGreatMb10
import Derived.Lib.JoinLaws
import Derived.Test.YtpjoefekhgmlhaaGreatMb06
import Derived.Laws.BytesArg
import Derived.Deep.RegionWith
import Derived.Deep.DeepCutAuto
import Derived.Deep.QuietTactic
import Derived.BigQuiet
namespace Go.Proofs.YtpjoefekhgmlhaaGreat.Tp
open Go.RowKit Mem

/-- A row of bytes in a block of just its size. -/
structure BRow (w : World) (g : Nat) (xs : List Value) : Prop extends VRow w g xs where
  blk : ∃ cs, w.heap[g]? = some (.cells cs 5 (0, 0)) ∧ cs.size = xs.length
theorem BRow.set_ {w : World} {g : Nat} {xs : List Value} (h : BRow w g xs) (k : Nat) (x : Value) : BRow (w.setCell ⟨g, k, none⟩ x) g (xs.set k x) := by
  obtain ⟨cs, h1, h2⟩ := h.blk
  refine ⟨h.toVRow.set_ k x, _, heap_setCell_same w g k cs 5 x h1, by simp [h2]⟩
theorem BRow.new (w : World) (cs : Array Value) : BRow (w.alloc (.cells cs 5)) w.heap.size cs.toList := ⟨VRow.new w cs 5, cs, heap_alloc_new w _, by simp⟩
theorem BRow.own {w : World} {g base n : Nat} {xs : List Value} (h : BRow w g xs) (hb : base ≤ g) (hn : n = xs.length) (hm : xs.length ≤ 1000000) : w.ownsRow base 5 1 (.slice (some ⟨g, 0, none⟩) n n) n xs := by
  subst hn
  obtain ⟨cs, h1, h2⟩ := h.blk
  refine ⟨by simp, .inr ⟨g, xs.length, cs, rfl, hb, h1, Nat.le_refl _, by simp only [maxLen]; omega, by omega, ?_⟩⟩
  apply List.ext_getElem?
  intro i
  by_cases hi : i < xs.length
  · have hc := h.cell i hi
    rw [cell_of_row w g i cs 5 (0, 0) h1] at hc
    rw [List.getElem?_take, if_pos (by omega), Array.getElem?_toList, hc, List.getElem?_eq_getElem hi]
  · rw [List.getElem?_eq_none (by simp; omega), List.getElem?_eq_none (by omega)]
/-- A slice of the call's own and an errno are told. -/
def OPost (w : World) (xs : List Value) (en : Int) (e : Ending) (w' : World) : Prop := ∃ R m, e = .returned (.tuple #[.slice R xs.length m, .int .i64 en]) ∧ w'.ownsRow w.heap.size 5 1 (.slice R xs.length m) xs.length xs ∧ Below w.heap.size w w' ∧ xs.length ≤ m ∧ m ≤ 9223372036854775807
def gp (n : Nat) : List Nat := if n < 128 then [n] else [n / 128 + 128, n % 128]
theorem gp_lt {n : Nat} (hn : n < 16384) : ∀ b ∈ gp n, b < 256 := by
  unfold gp
  split
  · simp; omega
  · simp; omega
theorem gp_len (n : Nat) : 1 ≤ (gp n).length ∧ (gp n).length ≤ 2 := by
  unfold gp
  split <;> simp
set_option maxRecDepth 100000 in
set_option maxHeartbeats 400000 in
theorem gsize_any (n : Nat) (hn : n < 16384) (w : World) : Calls Tryz.prog 103 #[.int .i64 (n : Int)] w fun e w' => e = .returned (.int .i64 (if n < 128 then 1 else 2)) ∧ w = w' := by
  by_cases h : n < 128
  · have e : (if n < 128 then (1 : Int) else 2) = 1 := if_pos h
    rw [e]
    clear e
    go_enter Tryz.func103, Tryz.ntmps103
    go_wp2_with fail
    go_loop [0, 3] (fun x s => x = .int .i64 (n : Int) ∧ s = .int .i64 1) (fun x _ => (intOf x).toNat)
    case atStart => exact ⟨rfl, rfl⟩
    case round =>
      obtain ⟨rfl, rfl⟩ := hrel
      go_wp2_with fail
      go_ret
      exact ⟨rfl, rfl⟩
  · have e : (if n < 128 then (1 : Int) else 2) = 2 := if_neg h
    rw [e]
    clear e
    go_enter Tryz.func103, Tryz.ntmps103
    go_wp2_with fail
    go_loopg [0, 3] 1 (fun g x s wr => w = wr ∧ ∃ y : Nat, x = .int .i64 (y : Int) ∧ ((g = 1 ∧ Hid (y = n) ∧ 128 ≤ y ∧ y < 16384 ∧ s = .int .i64 1) ∨ (g = 0 ∧ y < 128 ∧ s = .int .i64 2)))
    case atStart => exact ⟨rfl, n, rfl, .inl ⟨rfl, Lib.hid rfl, by omega, hn, rfl⟩⟩
    case round =>
      obtain ⟨rfl, y, rfl, ⟨rfl, hy, h1, h2, rfl⟩ | ⟨rfl, h1, rfl⟩⟩ := hrel
      · go_wp2_with fail
        go_roundg 0
        case measure => omega
        case rel => exact ⟨rfl, y / 128, by simp, .inr ⟨rfl, by omega, rfl⟩⟩
      · go_wp2_with fail
        go_ret
        exact ⟨rfl, rfl⟩

set_option maxRecDepth 100000 in
set_option maxHeartbeats 1000000 in
theorem gput_own (n : Nat) (hn : n < 16384) (w : World) : Calls Tryz.prog 66 #[.int .i64 (n : Int)] w (OPost w (bytes (gp n)) 0) := by
  have hz := gsize_any n hn w
  by_cases h : n < 128
  · have e : gp n = [n] := if_pos h
    rw [e]
    rw [if_pos h] at hz
    have HZ := Lib.hid hz
    have hmk : ∀ w, Sem.run Tryz.prog (Instr.makeSlice 45 (.int .i64 1) (.int .i64 1)) w = .ok (.slice (some ⟨w.heap.size, 0, none⟩) 1 1) (w.alloc (.cells #[.int .u8 0] 5)) := fun _ => by kernel_rfl
    clear hz e
    go_enter Tryz.func66, Tryz.ntmps66
    go_wp2_with (go_at_call 103; refine (HZ.out).mono ?_; rintro e w' ⟨rfl, rfl⟩)
    clear hmk
    have hrow := BRow.new w #[.int .u8 0]
    have hb : Below w.heap.size w (w.alloc (.cells #[.int .u8 0] 5)) := (Below.refl _ w).alloc (Nat.le_refl _) _
    go_loopg [0, 6] 1 (fun g x i wr => (g = 1 ∧ x = .int .i64 (n : Int) ∧ i = .int .i64 0 ∧ BRow wr w.heap.size [.int .u8 0] ∧ Below w.heap.size w wr) ∨ (g = 0 ∧ x = .int .i64 0 ∧ i = .int .i64 (-1) ∧ BRow wr w.heap.size [.int .u8 ((n : Int) + 128)] ∧ Below w.heap.size w wr))
    case atStart => exact .inl ⟨rfl, rfl, rfl, hrow, hb⟩
    case round =>
      clear hrow hb
      rcases hrel with ⟨rfl, rfl, rfl, hR, hbr⟩ | ⟨rfl, rfl, rfl, hR, hbr⟩
      · have hc := hR.cell 0 (by simp)
        have hf := hR.free 0 (by simp)
        have hs := hR.set_ 0 (.int .u8 ((n : Int) + 128))
        have hbs := hbr.setCell (p := ⟨w.heap.size, 0, none⟩) (Nat.le_refl _) (.int .u8 ((n : Int) + 128))
        have hd : (n : Int) / 128 = 0 := by omega
        have hm : (n : Int) % 128 = (n : Int) := by omega
        clear hR hbr
        go_wp2_with fail
        go_roundg 0
        case measure => omega
        case rel => exact .inr ⟨rfl, by simp, rfl, by simpa using hs, by simpa using hbs⟩
      · have hc := hR.cell 0 (by simp)
        have hf := hR.free 0 (by simp)
        have hs := hR.set_ 0 (.int .u8 (n : Int))
        have hbs := hbr.setCell (p := ⟨w.heap.size, 0, none⟩) (Nat.le_refl _) (.int .u8 (n : Int))
        simp only [List.getElem_cons_zero] at hc
        clear hR hbr
        go_wp2_with fail
        go_ret2
        exact ⟨_, _, rfl, by simpa using hs.own (Nat.le_refl _) rfl (by simp), by simpa using hbs, by simp, by omega⟩
  · have e : gp n = [n / 128 + 128, n % 128] := if_neg h
    rw [e]
    rw [if_neg h] at hz
    have HZ := Lib.hid hz
    have hmk : ∀ w, Sem.run Tryz.prog (Instr.makeSlice 45 (.int .i64 2) (.int .i64 2)) w = .ok (.slice (some ⟨w.heap.size, 0, none⟩) 2 2) (w.alloc (.cells #[.int .u8 0, .int .u8 0] 5)) := fun _ => by kernel_rfl
    clear hz e
    go_enter Tryz.func66, Tryz.ntmps66
    go_wp2_with (go_at_call 103; refine (HZ.out).mono ?_; rintro e w' ⟨rfl, rfl⟩)
    clear hmk
    have hrow := BRow.new w #[.int .u8 0, .int .u8 0]
    have hb : Below w.heap.size w (w.alloc (.cells #[.int .u8 0, .int .u8 0] 5)) := (Below.refl _ w).alloc (Nat.le_refl _) _
    go_loopg [0, 6] 2 (fun g x i wr => (g = 2 ∧ x = .int .i64 (n : Int) ∧ i = .int .i64 1 ∧ BRow wr w.heap.size [.int .u8 0, .int .u8 0] ∧ Below w.heap.size w wr) ∨ (g = 1 ∧ x = .int .i64 ((n : Int) / 128) ∧ i = .int .i64 0 ∧ BRow wr w.heap.size [.int .u8 0, .int .u8 ((n : Int) % 128 + 128)] ∧ Below w.heap.size w wr) ∨ (g = 0 ∧ i = .int .i64 (-1) ∧ BRow wr w.heap.size [.int .u8 ((n : Int) / 128 + 128), .int .u8 ((n : Int) % 128 + 128)] ∧ Below w.heap.size w wr))
    case atStart => exact .inl ⟨rfl, rfl, rfl, hrow, hb⟩
    case round =>
      clear hrow hb
      rcases hrel with ⟨rfl, rfl, rfl, hR, hbr⟩ | ⟨rfl, rfl, rfl, hR, hbr⟩ | ⟨rfl, rfl, hR, hbr⟩
      · have hc := hR.cell 1 (by simp)
        have hf := hR.free 1 (by simp)
        have hs := hR.set_ 1 (.int .u8 ((n : Int) % 128 + 128))
        have hbs := hbr.setCell (p := ⟨w.heap.size, 1, none⟩) (Nat.le_refl _) (.int .u8 ((n : Int) % 128 + 128))
        clear hR hbr
        go_wp2_with fail
        go_roundg 1
        case measure => omega
        case rel => exact .inr (.inl ⟨rfl, rfl, rfl, by simpa using hs, by simpa using hbs⟩)
      · have hc := hR.cell 0 (by simp)
        have hf := hR.free 0 (by simp)
        have hs := hR.set_ 0 (.int .u8 ((n : Int) / 128 + 128))
        have hbs := hbr.setCell (p := ⟨w.heap.size, 0, none⟩) (Nat.le_refl _) (.int .u8 ((n : Int) / 128 + 128))
        obtain ⟨q, hq⟩ : ∃ q : Int, q = (n : Int) / 128 := ⟨_, rfl⟩
        rw [← hq] at hs hbs ⊢
        have hm : q % 128 = q := by omega
        have h1 : 0 ≤ q := by omega
        have h2 : q < 128 := by omega
        have HQ := Lib.hid hq
        clear hR hbr hq
        go_wp2_with fail
        go_roundg 0
        case measure => omega
        case rel => exact .inr (.inr ⟨rfl, rfl, by rw [← HQ.out]; simpa using hs, by simpa using hbs⟩)
      · have hc := hR.cell 1 (by simp)
        have hf := hR.free 1 (by simp)
        have hs := hR.set_ 1 (.int .u8 ((n : Int) % 128))
        have hbs := hbr.setCell (p := ⟨w.heap.size, 1, none⟩) (Nat.le_refl _) (.int .u8 ((n : Int) % 128))
        simp only [List.getElem_cons_succ, List.getElem_cons_zero] at hc
        clear hR hbr
        go_wp2_with fail
        go_ret2
        exact ⟨_, _, rfl, by simpa using hs.own (Nat.le_refl _) rfl (by simp), by simpa using hbs, by simp, by omega⟩

theorem gput_any (n : Nat) (hn : n < 16384) (w : World) : Calls Tryz.prog 66 #[.int .i64 (n : Int)] w (VPost w (bytes (gp n)) 0) :=
  (gput_own n hn w).mono fun _ _ ⟨R, m, h1, h2, h3⟩ => ⟨R, m, h1, .of_own h2, h3⟩
theorem mul_split (n : Int) : n / 128 * 128 + n % 128 = n := by omega
set_option maxRecDepth 100000 in
set_option maxHeartbeats 1000000 in
theorem gtake_any (A : Option Addr) (c : Nat) (n : Nat) (rest : List Nat) (w : World) (hn : n < 16384) (hA : Lies w A (bytes (gp n ++ rest))) (hl : (gp n ++ rest).length ≤ 9223372036854775807) :
    Calls Tryz.prog 80 #[.slice A (gp n ++ rest).length c] w fun e w' => e = .returned (.tuple #[.int .i64 (n : Int), .int .i64 ((gp n).length : Int), .int .i64 0]) ∧ w = w' := by
  by_cases h : n < 128
  · have e : gp n = [n] := if_pos h
    rw [e] at hA hl ⊢
    obtain ⟨b, off, rfl, hb, hcell⟩ := hA.at_map (show 0 < ([n] ++ rest).length by simp)
    simp only [List.cons_append, List.getElem_cons_zero, Nat.add_zero] at hcell
    obtain ⟨L, hL⟩ : ∃ L, L = ([n] ++ rest).length := ⟨_, rfl⟩
    rw [← hL] at hl ⊢
    have h1 : 1 ≤ L := by rw [hL]; simp
    clear hL hA e
    have c1 : ((n : Int) == 128) = false := by rw [beq_eq_false_iff_ne]; omega
    have hm : (n : Int) % 128 = (n : Int) := by omega
    go_enter Tryz.func80, Tryz.ntmps80
    go_wp2_with fail
    go_step3
    go_wp2_with fail
    go_step3
    go_wp2_with fail
    go_loopg [5, 6, 7, 12] 1 (fun g v k l i wr => w = wr ∧ g = 1 ∧ v = .int .i64 0 ∧ k = .int .i64 0 ∧ l = .bool false ∧ i = .int .i64 0)
    case atStart => exact ⟨rfl, rfl, rfl, rfl, rfl, rfl⟩
    case round =>
      obtain ⟨rfl, rfl, rfl, rfl, rfl, rfl⟩ := hrel
      go_wp2_with fail
      rw [Exit.noGoto_ret]
      go_ret3
      exact ⟨rfl, rfl⟩
  · have e : gp n = [n / 128 + 128, n % 128] := if_neg h
    rw [e] at hA hl ⊢
    obtain ⟨b, off, rfl, hb, hcell⟩ := hA.at_map (show 0 < ([n / 128 + 128, n % 128] ++ rest).length by simp)
    obtain ⟨b', off', e2, hb', hcell'⟩ := hA.at_map (show 1 < ([n / 128 + 128, n % 128] ++ rest).length by simp)
    injection e2 with e2
    injection e2 with e2 e3 _
    subst e2 e3
    simp only [List.cons_append, List.getElem_cons_zero, List.getElem_cons_succ, Nat.add_zero] at hcell hcell'
    obtain ⟨L, hL⟩ : ∃ L, L = ([n / 128 + 128, n % 128] ++ rest).length := ⟨_, rfl⟩
    rw [← hL] at hl ⊢
    have h2 : 2 ≤ L := by rw [hL]; simp
    obtain ⟨q, hq⟩ : ∃ q, q = n / 128 := ⟨_, rfl⟩
    obtain ⟨r, hr⟩ : ∃ r, r = n % 128 := ⟨_, rfl⟩
    rw [← hq, Int.natCast_add] at hcell
    rw [← hr] at hcell'
    have hn2 : n = q * 128 + r := by omega
    have hq1 : 1 ≤ q := by omega
    have hq2 : q < 128 := by omega
    have hr2 : r < 128 := by omega
    have HN := Lib.hid hn2
    clear hL hA e hq hr hn2 hn h
    have c1 : ((q : Int) + 128 == 128) = false := by rw [beq_eq_false_iff_ne]; omega
    have hm : ((q : Int) + 128) % 128 = (q : Int) := by omega
    have hm2 : (r : Int) % 128 = (r : Int) := by omega
    go_enter Tryz.func80, Tryz.ntmps80
    go_wp2_with fail
    go_step3
    go_wp2_with fail
    go_step3
    go_wp2_with fail
    go_loopg [5, 6, 7, 12] 2 (fun g v k l i wr => w = wr ∧ l = .bool false ∧ ((g = 2 ∧ v = .int .i64 0 ∧ k = .int .i64 0 ∧ i = .int .i64 0) ∨ (g = 1 ∧ v = .int .i64 (q : Int) ∧ k = .int .i64 1 ∧ i = .int .i64 1)))
    case atStart => exact ⟨rfl, rfl, .inl ⟨rfl, rfl, rfl, rfl⟩⟩
    case round =>
      obtain ⟨rfl, rfl, ⟨rfl, rfl, rfl, rfl⟩ | ⟨rfl, rfl, rfl, rfl⟩⟩ := hrel
      · go_wp2_with fail
        go_roundg 1
        case measure => omega
        case rel => exact ⟨rfl, rfl, .inr ⟨rfl, rfl, rfl, rfl⟩⟩
      · go_wp2_with fail
        rw [Exit.noGoto_ret]
        go_ret3
        have e := HN.out
        subst e
        exact ⟨by simp, rfl⟩
end Go.Proofs.YtpjoefekhgmlhaaGreat.Tp

namespace Go.Proofs.YtpjoefekhgmlhaaGreat.Tp
open Go.RowKit Mem

theorem lies_add {w : World} {A : Option Addr} {xs : List Value} (h : Lies w A xs) (l : Nat) : Lies w (A.map (·.add l)) (xs.drop l) := fun hn => by
  obtain ⟨b, off, rfl, hb, hc⟩ := h (by simp at hn; omega)
  refine ⟨b, off + l, by simp [add_plain], hb, fun i u hu => ?_⟩
  rw [List.getElem?_drop] at hu
  rw [Nat.add_assoc]
  exact hc (l + i) u hu
theorem lies_none {w : World} {A : Option Addr} : Lies w A [] := Lies.nil _ _
theorem lies_drop_all {w : World} {A : Option Addr} {xs : List Value} {l : Nat} (h : xs.length ≤ l) : Lies w A (xs.drop l) := by
  rw [List.drop_of_length_le h]; exact lies_none

section
variable {P : Program} {t : TypeId} (ht : P.underlying t = some (.slice (P.elem t))) (hs : ∀ w, (sizeOf (P.elem t)).run P w = .ok 1 w)
include ht hs
theorem cut_l (A : Option Addr) (len cap l : Nat) (li : Int) (e : li = (l : Int)) (h1 : l ≤ len) (h2 : len ≤ cap) :
    ∃ A', (∀ w, (Instr.slice t (.slice A len cap) (some (.int .i64 li)) none none).run P w = .ok (.slice A' (len - l) (cap - l)) w) ∧
      ∀ (W : World) (xs : List Value), Lies W A xs → xs.length = len → Lies W A' (xs.drop l) := by
  subst e
  by_cases hc : cap = l
  · refine ⟨A, fun w => ?_, fun W xs _ hx => lies_drop_all (by omega)⟩
    rw [run_slice_l w t A len cap ht .i64 (l : Int) (by omega) (by omega), hs]
    simp [Result.andThen, sliced, hc]
  · refine ⟨A.map (·.add l), fun w => ?_, fun W xs h _ => lies_add h l⟩
    rw [run_slice_l w t A len cap ht .i64 (l : Int) (by omega) (by omega), hs]
    simp [Result.andThen, sliced, hc]
theorem cut_hm (A : Option Addr) (len cap m : Nat) (hi mi : Int) (e1 : hi = (m : Int)) (e : mi = (m : Int)) (h2 : m ≤ cap) :
    ∃ A', (∀ w, (Instr.slice t (.slice A len cap) none (some (.int .i64 hi)) (some (.int .i64 mi))).run P w = .ok (.slice A' m m) w) ∧
      ∀ (W : World) (xs : List Value), Lies W A xs → Lies W A' (xs.take m) := by
  subst e e1
  by_cases hc : m = 0
  · refine ⟨A, fun w => ?_, fun W xs h => h.take m⟩
    rw [run_slice_hm w t A len cap ht .i64 .i64 (m : Int) (m : Int) (by omega) (by omega) (by omega), hs]
    simp [Result.andThen, sliced, hc]
  · refine ⟨A.map (·.add 0), fun w => ?_, fun W xs h => by have := lies_add h 0; rw [List.drop_zero] at this; exact this.take m⟩
    rw [run_slice_hm w t A len cap ht .i64 .i64 (m : Int) (m : Int) (by omega) (by omega) (by omega), hs]
    simp [Result.andThen, sliced, hc]
theorem cut_lhm (A : Option Addr) (len cap l m : Nat) (li hi mi : Int) (e0 : li = (l : Int)) (e1 : hi = (m : Int)) (e : mi = (m : Int)) (h1 : l ≤ m) (h2 : m ≤ cap) :
    ∃ A', (∀ w, (Instr.slice t (.slice A len cap) (some (.int .i64 li)) (some (.int .i64 hi)) (some (.int .i64 mi))).run P w = .ok (.slice A' (m - l) (m - l)) w) ∧
      ∀ (W : World) (xs : List Value), Lies W A xs → Lies W A' ((xs.take m).drop l) := by
  subst e e1 e0
  by_cases hc : m = l
  · refine ⟨A, fun w => ?_, fun W xs _ => lies_drop_all (by simp; omega)⟩
    rw [run_slice_lhm w t A len cap ht .i64 .i64 .i64 (l : Int) (m : Int) (m : Int) (by omega) (by omega) (by omega) (by omega), hs]
    simp [Result.andThen, sliced, hc]
  · refine ⟨A.map (·.add l), fun w => ?_, fun W xs h => lies_add (h.take m) l⟩
    rw [run_slice_lhm w t A len cap ht .i64 .i64 .i64 (l : Int) (m : Int) (m : Int) (by omega) (by omega) (by omega) (by omega), hs]
    simp [Result.andThen, sliced, hc]
end
theorem bty : Tryz.prog.underlying 45 = some (.slice (Tryz.prog.elem 45)) := by kernel_rfl
theorem bsz : ∀ w, (sizeOf (Tryz.prog.elem 45)).run Tryz.prog w = .ok 1 w := fun _ => by kernel_rfl
end Go.Proofs.YtpjoefekhgmlhaaGreat.Tp

namespace Go.Proofs.YtpjoefekhgmlhaaGreat.Tp
open Go.RowKit Mem

theorem four_any (n : Nat) (hn : n < 4294967296) (w : World) : Calls Tryz.prog 70 #[.int .u32 (n : Int)] w (SPost w (bytes (be 4 n))) := by
  have hp := put4 n hn w
  have HP := Lib.hid hp
  have hn2 : (n : Int) < 4294967296 := by omega
  clear hp hn
  go_enter Tryz.func70, Tryz.ntmps70
  go_wp2_with fail
  refine (HP.out).mono ?_
  rintro e w2 ⟨R, m, rfl, hL, hb, h1, h2⟩
  go_wp2_with fail
  go_ret
  exact ⟨R, m, rfl, hL, hb, h1, h2⟩

set_option maxHeartbeats 400000 in
theorem own_any (A : Option Addr) (c : Nat) (l : List Nat) (w : World) (hA : Lies w A (bytes l)) (hl : l.length ≤ 4294967296) :
    Calls Tryz.prog 78 #[.slice A l.length c] w (SPost w (bytes l)) := by
  obtain ⟨i0, hi, hz0, hz1, hz2⟩ := info_parts byte_info
  go_enter Tryz.func78, Tryz.ntmps78
  have hown := World.ownsRow_nil w w.heap.size 5 1
  go_wp2_with (at_builtin; refine wpList_append_lies _ rfl (.const (.slice none 0 0)) (.tmp 3) _ rfl w.heap.size 5 i0 _ 1 1 Tryz.underlying45 hi hz0 hz1 hz2 rfl (by omega) (.slice none 0 0) 0 _ rfl hown A l.length c (bytes l) rfl (by simp) hA (bytes_one _) (by simp only [maxLen]; omega) (by omega) (Nat.le_refl _) ?_; intro v3 w3 hown3 hg3 hat3)
  simp only [Nat.zero_add, List.nil_append] at hown3
  obtain ⟨A5, m5, rfl, hm1, hm2⟩ := own_form hown3
  go_ret
  exact ⟨A5, m5, ret_slice (by simp), .of_own hown3, (Below.refl _ w).grown hg3 (Nat.le_refl _) (fun g h => by cases h), by simpa using hm1, hm2⟩

theorem strOf (l : List Nat) (h : 0 < l.length) (A : Option Addr) (c : Nat) (w : World) (hA : Lies w A (bytes l)) :
    Sem.run Tryz.prog (convert 45 9 (.slice A l.length c)) w = .ok (.string (strOfNums (l.map fun x : Nat => (x : Int)))) w := by
  obtain ⟨b, off, rfl, hb, hc⟩ := hA (by simpa using h)
  refine run_convert_bytes_arg (P := Tryz.prog) w 45 5 Tryz.underlying45 Tryz.underlying5 b off l.length c (l.map fun x : Nat => (x : Int)) (by simp) (fun i hi => ?_) 9 Tryz.underlying9
  have hu : (bytes l)[i]? = some (.int .u8 ((l[i] : Nat) : Int)) := by rw [List.getElem?_map, List.getElem?_eq_getElem hi]; rfl
  rw [hc i _ hu]
  simp [List.getD, hi]
theorem equal_same (A B : Option Addr) (c d : Nat) (l : List Nat) (w : World) (h : 0 < l.length) (hA : Lies w A (bytes l)) (hB : Lies w B (bytes l)) :
    Calls Tryz.prog 77 #[.slice A l.length c, .slice B l.length d] w fun e w' => e = .returned (.bool true) ∧ w = w' := by
  have h1 := strOf l h A c w hA
  have h2 := strOf l h B d w hB
  generalize strOfNums (l.map fun x : Nat => (x : Int)) = s at *
  go_enter Tryz.func77, Tryz.ntmps77
  go_wp2_with fail
  go_ret
  exact ⟨rfl, rfl⟩

theorem equal_sameN (A B : Option Addr) (c d n : Nat) (l : List Nat) (w : World) (hn : l.length = n) (h : 0 < n) (hA : Lies w A (bytes l)) (hB : Lies w B (bytes l)) :
    Calls Tryz.prog 77 #[.slice A n c, .slice B n d] w fun e w' => e = .returned (.bool true) ∧ w = w' := by
  subst hn; exact equal_same A B c d l w h hA hB

/-! ### what is held together -/
def frameB (m : Nat) (l : List Nat) : List Nat := be 4 m ++ l ++ be 4 (Crc.cmore 0 (be 4 m ++ l))
theorem frameB_len (m : Nat) (l : List Nat) : (frameB m l).length = l.length + 8 := by simp [frameB, be]
theorem crc_bytes {w : World} {A : Option Addr} {l : List Nat} (h : Lies w A (bytes l)) (hb : ∀ x ∈ l, x < 256) : Crc.Bytes w A l :=
  ⟨hb, fun hn => by
    obtain ⟨b, off, e, hlt, hc⟩ := h (by simpa using hn)
    exact ⟨b, off, e, hlt, fun i c hi => hc i _ (by rw [List.getElem?_map, hi]; rfl)⟩⟩
theorem fsum_any (A : Option Addr) (c : Nat) (l : List Nat) (w : World) (hA : Lies w A (bytes l)) (hb : ∀ x ∈ l, x < 256) (hl : l.length ≤ 4294967304) :
    Calls Tryz.prog 71 #[.slice A l.length c] w fun e w' => e = .returned (.int .u32 ((Crc.cmore 0 l : Nat) : Int)) ∧ Below w.heap.size w w' :=
  Crc.sum_any A c l (by omega) w (crc_bytes hA hb)
theorem bytes_app (a b : List Nat) : bytes (a ++ b) = bytes a ++ bytes b := by simp [bytes]
theorem bytes_len (a : List Nat) : (bytes a).length = a.length := by simp [bytes]

set_option maxRecDepth 100000 in
set_option maxHeartbeats 1000000 in
theorem fput_any (A : Option Addr) (c : Nat) (l : List Nat) (m : Nat) (w : World) (hm : m < 4294967296) (hA : Lies w A (bytes l)) (hb : ∀ x ∈ l, x < 256) (hl : l.length ≤ 1000000) :
    Calls Tryz.prog 32 #[.int .u32 (m : Int), .slice A l.length c] w (SPost w (bytes (frameB m l))) := by
  obtain ⟨i0, hi, hz0, hz1, hz2⟩ := info_parts byte_info
  have hmk : ∀ w, Sem.run Tryz.prog (Instr.makeSlice 45 (.int .i64 0) (.int .i64 ((l.length : Int) + 8))) w = .ok (.slice (some ⟨w.heap.size, 0, none⟩) 0 (l.length + 8)) (w.alloc (.cells (madeCells #[.int .u8 0] (l.length + 8)) 5)) :=
    run_make_room (P := Tryz.prog) 45 5 (.int .u8 0) 1 Tryz.underlying45 byte_info rfl .i64 .i64 (l.length + 8) (by omega) (by omega)
  obtain ⟨f4, hf4⟩ : ∃ f4, f4 = be 4 m := ⟨_, rfl⟩
  have hf4l : f4.length = 4 := by rw [hf4]; rfl
  have hf4b : ∀ x ∈ f4, x < 256 := by rw [hf4]; exact be_lt (by omega) (by omega)
  have hfour := fun W => four_any m hm W
  rw [← hf4] at hfour
  have hsum := fun (B : Option Addr) (k : Nat) W (hB : Lies W B (bytes (f4 ++ l))) => fsum_any B k (f4 ++ l) W hB (by intro x hx; rcases List.mem_append.1 hx with h | h; exact hf4b x h; exact hb x h) (by simp; omega)
  obtain ⟨cs, hcs⟩ : ∃ cs, cs = Crc.cmore 0 (f4 ++ l) := ⟨_, rfl⟩
  have hcs2 : cs < 4294967296 := by rw [hcs]; exact Crc.cmore_lt _ _
  rw [← hcs] at hsum
  have hfr : frameB m l = f4 ++ l ++ be 4 cs := by unfold frameB; rw [← hf4, ← hcs]
  have hfour2 := fun W => four_any cs hcs2 W
  have hln : (bytes f4).length = 4 := by rw [bytes_len, hf4l]
  rw [List.length_append, hf4l] at hsum
  have HFOUR := Lib.hid hfour
  have HFOUR2 := Lib.hid hfour2
  have HSUM := Lib.hid hsum
  have HLN := Lib.hid hln
  have HF4L := Lib.hid hf4l
  obtain ⟨fb, hfb⟩ : ∃ fb, fb = frameB m l := ⟨_, rfl⟩
  rw [← hfb] at hfr ⊢
  have HFR := Lib.hid hfr
  have hown0 := World.ownsRow_made w (madeCells #[.int .u8 0] (l.length + 8)) (l.length + 8) (e := 5) (size := 1) (Nat.le_refl w.heap.size) (by simp only [maxLen]; omega) (by simp [madeCells])
  have HOWN0 := Lib.hid hown0
  have hb0 : Below w.heap.size w (w.alloc (.cells (madeCells #[.int .u8 0] (l.length + 8)) 5)) := (Below.refl _ w).alloc (Nat.le_refl _) _
  have HB0 := Lib.hid hb0
  clear hf4 hf4l hf4b hfour hfour2 hsum hcs hfr hfb hb hln hown0 hb0 hm
  go_enter Tryz.func32, Tryz.ntmps32
  go_wp2_with fail
  clear hmk
  refine (HFOUR.out _).mono ?_
  rintro e w2 ⟨R, m2, rfl, hL, hb2, _, _⟩
  have hown := own_below HOWN0.out hb2
  have hb2w : Below w.heap.size w w2 := HB0.out.trans (hb2.mono HB0.out.size)
  rw [HLN.out]
  have HB2 := Lib.hid hb2w
  clear HOWN0 HB0 hb2 hb2w
  go_wp2_with (first
    | (at_builtin; refine wpList_app rfl (.tmp 10) (.tmp 12) _ rfl Tryz.underlying45 byte_info rfl (by omega) (by omega) w w2 HB2.out _ _ _ _ rfl hown R 4 m2 _ rfl HLN.out hL (bytes_one _) (by omega) ?_; intro S3 c3 w3 hown3 hc3 hc3' hb3 _; simp only [Nat.zero_add, List.nil_append] at hown3 hc3 ⊢; have hA3 := hA.below hb3; have HB3 := Lib.hid hb3; clear hown hb3 hL)
    | (at_builtin; refine wpList_app rfl (.tmp 14) (.tmp 15) _ rfl Tryz.underlying45 byte_info rfl (by omega) (by omega) w w3 HB3.out _ _ _ _ rfl hown3 A l.length c _ rfl (by simp) hA3 (bytes_one _) (by omega) ?_; intro S4 c4 w4 hown4 hc4 hc4' hb4 _; have HB4 := Lib.hid hb4; clear hown3 hb4 hA3 HB3))
  have hL4 := Lies.of_own hown4
  rw [← bytes_app] at hL4
  refine (HSUM.out S4 c4 _ hL4).mono ?_
  rintro e w5 ⟨rfl, hb5⟩
  have hown5 := own_below hown4 hb5
  have hb5w := HB4.out.trans (hb5.mono HB4.out.size)
  have HB5 := Lib.hid hb5w
  clear hown4 hL4 hb5 hb5w HB4
  go_wp2_with fail
  refine (HFOUR2.out _).mono ?_
  rintro e w6 ⟨R6, m6, rfl, hL6, hb6, _, _⟩
  have hown6 := own_below hown5 hb6
  have hb6w := HB5.out.trans (hb6.mono HB5.out.size)
  have HB6 := Lib.hid hb6w
  have hln2 : (bytes (be 4 cs)).length = 4 := rfl
  rw [hln2]
  clear hown5 hb6 hb6w HB5 hln2
  go_wp2_with (at_builtin; refine wpList_app rfl (.tmp 17) (.tmp 20) _ rfl Tryz.underlying45 byte_info rfl (by omega) (by omega) w w6 HB6.out _ _ _ _ rfl hown6 R6 4 m6 _ rfl rfl hL6 (bytes_one _) (by omega) ?_; intro S7 c7 w7 hown7 hc7 hc7' hb7 _)
  go_ret
  have hL7 := Lies.of_own hown7
  rw [← bytes_app, ← bytes_app, ← HFR.out] at hL7
  have hfl : (bytes fb).length = 4 + l.length + 4 := by rw [HFR.out, bytes_len, List.length_append, List.length_append, HF4L.out]; rfl
  exact ⟨S7, c7, ret_slice hfl.symm, hL7, hb7, by rw [hfl]; exact hc7, hc7'⟩
end Go.Proofs.YtpjoefekhgmlhaaGreat.Tp

namespace Go.Proofs.YtpjoefekhgmlhaaGreat.Tp
open Go.RowKit Mem

set_option maxRecDepth 100000 in
set_option maxHeartbeats 1000000 in
theorem ftake_any (A : Option Addr) (n c : Nat) (l : List Nat) (m : Nat) (w : World) (hm : m < 4294967296) (hn : n = l.length + 8) (hA : Lies w A (bytes (frameB m l))) (hb : ∀ x ∈ l, x < 256) (hl : l.length ≤ 1000000) (hc : n ≤ c) (hc2 : c ≤ 9223372036854775807) :
    Calls Tryz.prog 35 #[.int .u32 (m : Int), .slice A n c] w (VPost w (bytes l) 0) := by
  obtain ⟨f4, hf4⟩ : ∃ f4, f4 = be 4 m := ⟨_, rfl⟩
  have hf4l : f4.length = 4 := by rw [hf4]; rfl
  have hf4b : ∀ x ∈ f4, x < 256 := by rw [hf4]; exact be_lt (by omega) (by omega)
  have hfour := fun W => four_any m hm W
  rw [← hf4] at hfour
  have hsum := fun (B : Option Addr) (k : Nat) W (hB : Lies W B (bytes (f4 ++ l))) => fsum_any B k (f4 ++ l) W hB (by intro x hx; rcases List.mem_append.1 hx with h | h; exact hf4b x h; exact hb x h) (by simp; omega)
  obtain ⟨cs, hcs⟩ : ∃ cs, cs = Crc.cmore 0 (f4 ++ l) := ⟨_, rfl⟩
  have hcs2 : cs < 4294967296 := by rw [hcs]; exact Crc.cmore_lt _ _
  rw [← hcs] at hsum
  have hfr : frameB m l = f4 ++ l ++ be 4 cs := by unfold frameB; rw [← hf4, ← hcs]
  rw [hfr] at hA
  have hfour2 := fun W => four_any cs hcs2 W
  rw [List.length_append, hf4l] at hsum
  have hel0 : 4 + l.length = n - 4 := by omega
  rw [hel0] at hsum
  obtain ⟨e, he⟩ : ∃ e : Nat, e = n - 4 := ⟨_, rfl⟩
  rw [← he] at hsum
  have hen : e + 4 = n := by omega
  have hel : e = 4 + l.length := by omega
  have f1 : (n : Int) - 4 = (e : Int) := by omega
  have hfull : (bytes (f4 ++ l ++ be 4 cs)).length = n := by rw [bytes_len, List.length_append, List.length_append, hf4l]; have : (be 4 cs).length = 4 := rfl; omega
  obtain ⟨A1, hcut1, hL1⟩ := cut_hm bty bsz A n c e (e : Int) (e : Int) rfl rfl (by omega)
  obtain ⟨A2, hcut2, hL2⟩ := cut_l bty bsz A n c e (e : Int) rfl (by omega) hc
  have q1 := hL1 w _ hA
  have q2 := hL2 w _ hA hfull
  have e1 : (bytes (f4 ++ l ++ be 4 cs)).take e = bytes (f4 ++ l) := by rw [bytes_app, List.take_append_of_le_length (by rw [bytes_len, List.length_append, hf4l]; omega), List.take_of_length_le (by rw [bytes_len, List.length_append, hf4l]; omega)]
  have e2 : (bytes (f4 ++ l ++ be 4 cs)).drop e = bytes (be 4 cs) := by rw [bytes_app, List.drop_append_of_le_length (by rw [bytes_len, List.length_append, hf4l]; omega), List.drop_of_length_le (by rw [bytes_len, List.length_append, hf4l]; omega), List.nil_append]
  rw [e1] at q1
  rw [e2] at q2
  obtain ⟨A3, hcut3, hL3⟩ := cut_hm bty bsz A1 e e 4 4 4 rfl rfl (by omega)
  have q3 := hL3 w _ q1
  have e3 : (bytes (f4 ++ l)).take 4 = bytes f4 := by rw [bytes_app, List.take_append_of_le_length (by rw [bytes_len, hf4l]; omega), List.take_of_length_le (by rw [bytes_len, hf4l]; omega)]
  rw [e3] at q3
  obtain ⟨A4, hcut4, hL4⟩ := cut_lhm bty bsz A1 e e 4 e 4 (e : Int) (e : Int) rfl rfl rfl (by omega) (by omega)
  have q4 := hL4 w _ q1
  have e4 : ((bytes (f4 ++ l)).take e).drop 4 = bytes l := by rw [List.take_of_length_le (by rw [bytes_len, List.length_append, hf4l]; omega), bytes_app, List.drop_append_of_le_length (by rw [bytes_len, hf4l]; omega), List.drop_of_length_le (by rw [bytes_len, hf4l]; omega), List.nil_append]
  rw [e4] at q4
  have hne : n - e = 4 := by omega
  have hce : c - e = c - e := rfl
  have hle : e - 4 = l.length := by omega
  rw [hne] at hcut2
  rw [hle] at hcut4
  have HFOUR := Lib.hid hfour
  have HFOUR2 := Lib.hid hfour2
  have HSUM := Lib.hid hsum
  have HF4L := Lib.hid hf4l
  have he8 : 4 ≤ e := by omega
  have hec : e ≤ c := by omega
  have hn8 : 8 ≤ n := by omega
  have hen2 : e ≤ n := by omega
  have HEL := Lib.hid hel
  clear hel0 hf4 hf4l hf4b hfour hfour2 hsum hcs hfr hm he hen hel hfull hL1 hL2 hL3 hL4 e1 e2 e3 e4 hne hce hle hb hA hn
  go_enter Tryz.func35, Tryz.ntmps35
  go_wp2_with fail
  go_big_quiet (fail)
  go_wp2_with fail
  obtain ⟨w1, hw1⟩ : ∃ w1, w1 = w.drewN nq := ⟨_, rfl⟩
  rw [← hw1]
  have hb1 : Below w.heap.size w w1 := by rw [hw1]; exact below_drawn (Below.refl _ w) nq
  have HB1 := Lib.hid hb1
  have q31 : Lies w1 A3 (bytes f4) := by rw [hw1]; exact q3.drewN nq
  clear hw1 hb1
  go_region_with (first
    | (go_at_call 70; refine (HFOUR.out _).mono ?_; rintro e w2 ⟨R, m2, rfl, hL, hb2, _, _⟩; rw [bytes_len, HF4L.out])
    | (go_at_call 77; refine (equal_sameN _ _ _ _ 4 f4 _ HF4L.out (by omega) (by first | exact q31.below hb2 | exact (q31.drew).below hb2 | exact (q31.drewN 1).below hb2) hL).mono ?_; rintro e w3 ⟨rfl, rfl⟩))
  have hb2w : Below w.heap.size w w2 := HB1.out.trans ((show Below w1.heap.size w1 w2 from ⟨hb2.os, hb2.tape, hb2.output, hb2.size, hb2.block⟩).mono HB1.out.size)
  have HB2 := Lib.hid hb2w
  clear q31 q3 hL hb2 hb2w
  go_wp2_with fail
  refine (HSUM.out A1 e _ (q1.below HB2.out)).mono ?_
  rintro e' w5 ⟨rfl, hb5⟩
  have hb5w := HB2.out.trans (hb5.mono HB2.out.size)
  have HB5 := Lib.hid hb5w
  clear hb5 hb5w HB2
  go_wp2_with fail
  refine (HFOUR2.out _).mono ?_
  rintro e' w6 ⟨R6, m6, rfl, hL6, hb6, _, _⟩
  have hb6w := HB5.out.trans (hb6.mono HB5.out.size)
  have HB6 := Lib.hid hb6w
  have hln2 : (bytes (be 4 cs)).length = 4 := rfl
  rw [hln2]
  clear hb6 hb6w HB5 hln2
  go_wp2_with fail
  refine (equal_sameN _ _ _ _ 4 (be 4 cs) _ rfl (by omega) (q2.below HB6.out) hL6).mono ?_
  rintro e' w7 ⟨rfl, rfl⟩
  go_wp2_with fail
  refine (own_any A4 _ l _ (q4.below HB6.out) (by omega)).mono ?_
  rintro e' w8 ⟨R8, m8, rfl, hL8, hb8, hc8, hc8'⟩
  go_wp2_with fail
  go_ret2
  exact ⟨R8, m8, Gr.tup_ret (bytes_len l).symm, hL8, HB6.out.trans (hb8.mono HB6.out.size), hc8, hc8'⟩
end Go.Proofs.YtpjoefekhgmlhaaGreat.Tp
