/- CONTRACT of the reference's Row: whether two slices of numbers read alike. Condition: both read as rows of numbers. -/
import Derived.Test.YtcjenchkcbnphaaChecked
import Derived.Test.YtcjenchkcbnphaaMem
import Derived.LoopTactic
import Derived.Deep.QuietTactic
import Derived.BigQuiet
import Derived.Outline
namespace Go.Proofs.Ytcjenchkcbnphaa.Mem
open Go.RowKit

theorem below_drawn {B : Nat} {a w : World} (h : Below B a w) (n : Nat) : Below B a (w.drewN n) := ⟨h.os, h.tape, h.output, h.size, h.block⟩
theorem take_eq_next {xs ys : List Int} {j : Nat} (h : xs.take j = ys.take j) (hx : j < xs.length) (hy : j < ys.length) (e : xs[j] = ys[j]) : xs.take (j + 1) = ys.take (j + 1) := by
  rw [List.take_succ_eq_append_getElem hx, List.take_succ_eq_append_getElem hy, h, e]

set_option maxHeartbeats 1000000 in
theorem row_any (A B : Option Addr) (c d : Nat) (xs ys : List Int) (w : World) (hA : Lies w A (xs.map (Value.int .i64))) (hB : Lies w B (ys.map (Value.int .i64)))
    (hx : xs.length ≤ 9223372036854775807) (_hy : ys.length ≤ 9223372036854775807) :
    Calls Try.prog 18 #[.slice A xs.length c, .slice B ys.length d] w fun e w' => e = .returned (.bool (decide (xs = ys))) ∧ ∃ n, w' = w.drewN n := by
  by_cases hl : xs.length = ys.length
  · have hlt : ((xs.length : Int) != (ys.length : Int)) = false := by simp; omega
    go_enter Try.func18, Try.ntmps18
    have HL := Lib.hid hl
    clear hl
    go_wp2
    go_loopw [5] (fun i wr => ∃ j : Nat, j ≤ xs.length ∧ i = .int .i64 j ∧ Hid (xs.take j = ys.take j) ∧ ∃ n, wr = w.drewN n) (fun i _ => xs.length - (intOf i).toNat)
    case atStart => exact ⟨0, by omega, rfl, rfl, 0, rfl⟩
    case round =>
      obtain ⟨j, hj, rfl, hT, n, rfl⟩ := hrel
      by_cases hjx : j < xs.length
      · have hjy : j < ys.length := by have := HL.out; omega
        obtain ⟨b, off, rfl, hb, hcell⟩ := hA.at_map hjx
        obtain ⟨b', off', rfl, hb', hcell'⟩ := hB.at_map hjy
        obtain ⟨x, hxe⟩ : ∃ x, x = xs[j] := ⟨_, rfl⟩
        obtain ⟨y, hye⟩ : ∃ y, y = ys[j] := ⟨_, rfl⟩
        rw [← hxe] at hcell
        rw [← hye] at hcell'
        have HX := Lib.hid hxe
        have HY := Lib.hid hye
        have i0 : (0 : Int) ≤ (j : Int) := by omega
        have i1 : (j : Int) < (xs.length : Int) := by omega
        have i2 : (j : Int) < (ys.length : Int) := by omega
        clear hxe hye
        by_cases hxy : x = y
        · have t1 : (x != y) = false := by simp [hxy]
          have HXY := Lib.hid hxy
          clear hxy
          go_wp2_with fail
          go_quiet (fail)
          go_wp2_with fail
          refine ⟨⟨j + 1, by omega, by go_num, take_eq_next hT.out hjx hjy (by rw [← HX.out, ← HY.out]; exact HXY.out), ?_⟩, by simp [intOf]; omega⟩
          first
            | exact ⟨_, rfl⟩
            | exact ⟨_, (World.drewN_drewN _ _ _)⟩
        · have t1 : (x != y) = true := by simp [hxy]
          have HXY := Lib.hid hxy
          clear hxy
          go_wp2_with fail
          go_quiet (fail)
          go_wp2_with fail
          go_ret
          refine ⟨ret_bool ?_, ?_⟩
          · symm
            rw [decide_eq_false_iff_not]
            intro e
            subst e
            exact HXY.out (HX.out.trans HY.out.symm)
          · first
              | exact ⟨_, rfl⟩
              | exact ⟨_, (World.drewN_drewN _ _ _)⟩
      · go_wp2_with fail
        go_ret
        refine ⟨ret_bool ?_, _, rfl⟩
        symm
        have := hT.out
        rw [List.take_of_length_le (by omega), List.take_of_length_le (by have := HL.out; omega)] at this
        simpa using this
  · have hlt : ((xs.length : Int) != (ys.length : Int)) = true := by simp; omega
    have HL := Lib.hid hl
    clear hl
    go_enter Try.func18, Try.ntmps18
    go_wp2
    go_ret
    refine ⟨ret_bool ?_, 0, rfl⟩
    symm
    rw [decide_eq_false_iff_not]
    intro e
    exact HL.out (by rw [e])
end Go.Proofs.Ytcjenchkcbnphaa.Mem
