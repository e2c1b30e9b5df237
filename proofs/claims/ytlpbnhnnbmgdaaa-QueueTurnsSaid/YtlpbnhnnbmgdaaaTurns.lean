/- WALK of the law that a queue goes on for ever in little room. Conditions: the arguments read as a byte and a slice of numbers. -/
import Derived.Test.YtlpbnhnnbmgdaaaOrder
import Derived.Deep.QuietTactic
import Derived.BigQuiet
import Derived.IntWalk
namespace Go.Proofs.Ytlpbnhnnbmgdaaa.Q
open Go.Conc Go.RowKit Mem

/-- What waits when i numbers were put and all but k of these taken. -/
def win (xs : List Int) (k i : Nat) : List Value := ((xs.take i).drop (i - k)).map vi
theorem win_len (xs : List Int) (k i : Nat) (h : i ≤ xs.length) : (win xs k i).length = min i k := by
  unfold win; rw [List.length_map, List.length_drop, List.length_take]; omega
theorem win_put (xs : List Int) (k i : Nat) (h : i < xs.length) : win xs k i ++ [.int .i64 xs[i]] = ((xs.take (i + 1)).drop (i - k)).map vi := by
  unfold win
  rw [List.take_succ_eq_append_getElem h, List.drop_append_of_le_length (by rw [List.length_take]; omega), List.map_append]; rfl
theorem win_few (xs : List Int) (k i : Nat) (h : i < k) : ((xs.take (i + 1)).drop (i - k)).map vi = win xs k (i + 1) := by
  unfold win; rw [show i + 1 - k = i - k by omega]
theorem win_take (xs : List Int) (k i : Nat) (h : i < xs.length) (hk : k ≤ i) : ((xs.take (i + 1)).drop (i - k)).map vi = .int .i64 (xs[i - k]'(by omega)) :: win xs k (i + 1) := by
  unfold win
  rw [List.drop_eq_getElem_cons (by rw [List.length_take]; omega), List.map_cons, List.getElem_take, show i - k + 1 = i + 1 - k by omega]; rfl

set_option maxHeartbeats 2000000 in
theorem turns_walk (a0 : Int) (a1 : Option Addr) (len1 cap1 : Nat) (z1 : List Int) (w : World) (w0 : (Lit.int .u8 a0).wf = true) (w1 : IsRow .i64 w a1 len1 cap1 z1) :
    Calls Try.prog 5 #[.int .u8 a0, .slice a1 len1 cap1] w fun e w' => e = .returned (.bool true) ∧ Below w.heap.size w w' := by
  obtain ⟨r, hr, rfl⟩ := wf_byte w0
  obtain ⟨xs0, rfl, hlc, hcap, hX0, _⟩ := ints_of_row w1
  clear w0 w1
  obtain ⟨xs, hxs⟩ : ∃ l, l = xs0.take 40 := ⟨_, rfl⟩
  have hX : Lies w a1 (xs.map vi) := by rw [hxs]; exact hX0.take_map 40
  have HL := Lib.hid (show xs.length = min xs0.length 40 by rw [hxs, List.length_take, Nat.min_comm])
  have g1 : xs.length ≤ 40 := by have := HL.out; omega
  have g2 : xs.length ≤ xs0.length := by have := HL.out; omega
  clear hxs hX0
  obtain ⟨n, hn⟩ : ∃ n : Nat, n = r % 8 := ⟨_, rfl⟩
  have hn2 : n ≤ 7 := by omega
  have hni : (r : Int) % 8 = (n : Int) := by omega
  have HN := Lib.hid hni
  clear hn hni
  have cnew : ∀ W, Calls Try.prog 8 #[.int .i64 ((n : Int) + 1)] W fun e w' => ∃ q c, e = .returned (.tuple #[.pointer (some ⟨q, 0, none⟩), .int .i64 0]) ∧ QAt w' q c (n + 1) [] ∧ W.heap.size ≤ q ∧ W.heap.size ≤ c ∧ Below W.heap.size W w' := fun W => new_ok (n + 1) (by omega) (by omega) W
  have CN := Lib.hid cnew
  clear cnew
  go_enter Try.func5, Try.ntmps5
  go_wp2_with fail
  refine (shown_any _).mono ?_
  rintro e w1 ⟨rfl, hb1⟩
  go_wp2_with fail
  rw [HN.out]
  refine (CN.out _).mono ?_
  rintro e w2 ⟨q, c, rfl, hQ2, hq, hc, hb2⟩
  have hb3 := hb1.trans (hb2.mono hb1.size)
  have hq' := Nat.le_trans hb1.size hq
  have hc' := Nat.le_trans hb1.size hc
  clear hb1 hb2 hq hc
  go_wp2_with fail
  refine (few_any _ _ _ xs.length hlc hcap HL.out _).mono ?_
  rintro e w' ⟨rfl, rfl⟩
  go_wp2_with fail
  go_loopw [10] (fun i wr => ∃ k : Nat, k ≤ xs.length ∧ i = .int .i64 k ∧ QAt wr q c (n + 1) (win xs n k) ∧ Below w.heap.size w wr) (fun i _ => xs.length - (intOf i).toNat)
  case atStart => exact ⟨0, by omega, rfl, by simpa [win] using hQ2, hb3⟩
  case round =>
    obtain ⟨k, hk, rfl, hQ, hbr⟩ := hrel
    by_cases hlt : k < xs.length
    · obtain ⟨b, off, rfl, hb, hcell⟩ := hX.at_map hlt
      have hcell' : wr.cell? ⟨b, off + k, none⟩ = some (.int .i64 xs[k]) := (hbr.cell (p := ⟨b, off + k, none⟩) hb).trans hcell
      obtain ⟨y, hy⟩ : ∃ y, y = xs[k] := ⟨_, rfl⟩
      rw [← hy] at hcell'
      have HY := Lib.hid hy
      have HQ := Lib.hid hQ
      clear hcell hy hQ
      by_cases hkn : k < n
      · go_wp2_with fail
        refine (put_ok y wr HQ.out (by rw [win_len xs n k hk]; omega)).mono ?_
        rintro e w4 ⟨rfl, hQ4, ho4⟩
        rw [HY.out, win_put xs n k hlt, win_few xs n k hkn] at hQ4
        have hb4 := hbr.trans (ho4.below hc')
        go_wp2_with fail
        refine ⟨⟨k + 1, by omega, by go_num, hQ4, hb4⟩, by simp [intOf]; omega⟩
      · obtain ⟨b', off', e, hbb, hcell2⟩ := hX.at_map (show k - n < xs.length by omega)
        injection e with e
        injection e with e1 e2
        subst e1 e2
        obtain ⟨z, hz⟩ : ∃ z, z = xs[k - n]'(by omega) := ⟨_, rfl⟩
        have hcz : w.cell? ⟨b, off + (k - n), none⟩ = some (.int .i64 z) := by rw [hz]; exact hcell2
        have HZ := Lib.hid hz
        clear hz hcell2 hbb
        go_wp2_with fail
        refine (put_ok y wr HQ.out (by rw [win_len xs n k hk]; omega)).mono ?_
        rintro e w4 ⟨rfl, hQ4, ho4⟩
        rw [HY.out, win_put xs n k hlt, win_take xs n k hlt (by omega), ← HZ.out] at hQ4
        have hb4 := hbr.trans (ho4.below hc')
        have HQ4 := Lib.hid hQ4
        clear hQ4
        go_wp2_with fail
        refine (take_ok (.int .i64 z) w4 HQ4.out).mono ?_
        rintro e w5 ⟨rfl, hQ5, ho5⟩
        have hb5 := hb4.trans (ho5.below hc')
        have hcz5 : w5.cell? ⟨b, off + (k - n), none⟩ = some (.int .i64 z) := (hb5.cell (p := ⟨b, off + (k - n), none⟩) hb).trans hcz
        have hlw := win_len xs n (k + 1) (by omega)
        rw [show min (k + 1) n = n by omega] at hlw
        have HLW := Lib.hid hlw
        have HQ5 := Lib.hid hQ5
        have hnk : n ≤ k := by omega
        clear hlw hQ5
        go_wp2_with fail
        refine (len_is n w5 HQ5.out HLW.out).mono ?_
        rintro e w' ⟨rfl, rfl⟩
        go_wp2_with fail
        refine ⟨⟨k + 1, by omega, by go_num, HQ5.out, hb5⟩, by simp [intOf]; omega⟩
    · have ek : k = xs.length := by omega
      obtain ⟨ys, hys⟩ : ∃ ys, ys = (xs.take k).drop (k - n) := ⟨_, rfl⟩
      have hQy : QAt wr q c (n + 1) (ys.map vi) := by rw [hys]; exact hQ
      obtain ⟨m, hm⟩ : ∃ m, m = ys.length := ⟨_, rfl⟩
      have hml : m = min n xs.length := by rw [hm, hys, List.length_drop, List.length_take]; omega
      have hyx : ∀ j, j < m → ys[j]? = xs[xs.length - m + j]? := by
        intro j hj
        rw [hys, List.getElem?_drop, List.getElem?_take, if_pos (by omega)]
        congr 1
        omega
      have m1 : m ≤ xs.length := by omega
      have m2 : m ≤ n := by omega
      have call := fun W (hW : QAt W q c (n + 1) (ys.map vi)) => all_any ys W hW (by omega)
      rw [← hm] at call
      have C := Lib.hid call
      have HQ := Lib.hid hQy
      have HY := Lib.hid hyx
      have HM := Lib.hid hml
      have HMY := Lib.hid hm
      obtain ⟨d, hd⟩ : ∃ d, d = xs.length - m := ⟨_, rfl⟩
      have HD := Lib.hid hd
      have e1 : IntKind.i64.wrap ((xs.length : Int) - (m : Int)) = (d : Int) := by rw [IntWalk.i64_in _ (by omega)]; omega
      clear hys hQy hm hml hyx hQ call ek hd
      obtain ⟨wo, rfl⟩ : ∃ wo : World, wo = wr := ⟨_, rfl⟩
      go_wp2_with fail
      refine (C.out wo HQ.out).mono ?_
      rintro e w5 ⟨A, cp, rfl, hL5, hQ5, hg5⟩
      have hb5 := hbr.grown hg5 hbr.size (by intro g hg; injection hg with hg; omega)
      go_wp2_with fail
      go_loopw [14] (fun i wr => ∃ j : Nat, j ≤ m ∧ i = .int .i64 j ∧ Lies wr A (ys.map vi) ∧ QAt wr q c (n + 1) [] ∧ Below w.heap.size w wr) (fun i _ => m - (intOf i).toNat)
      case atStart => exact ⟨0, by omega, rfl, hL5, hQ5, hb5⟩
      case round =>
        obtain ⟨j, hj, rfl, hLj, hQj, hbj⟩ := hrel
        by_cases hlt2 : j < m
        · have hjy : j < ys.length := by rw [← HMY.out]; exact hlt2
          have hdj : d + j < xs.length := by have := HD.out; omega
          obtain ⟨b, off, rfl, hb, hcell⟩ := hLj.at_map hjy
          obtain ⟨b', off', rfl, hb', hcell'⟩ := hX.at_map hdj
          have hcx : wr.cell? ⟨b', off' + (d + j), none⟩ = some (vi xs[d + j]) := (hbj.cell (p := ⟨b', off' + (d + j), none⟩) hb').trans hcell'
          have hxy : ys[j] = xs[d + j] := by
            have := HY.out j hlt2
            rw [← HD.out, List.getElem?_eq_getElem hjy, List.getElem?_eq_getElem hdj] at this
            injection this
          obtain ⟨y, hy⟩ : ∃ y, y = xs[d + j] := ⟨_, rfl⟩
          rw [hxy, ← hy] at hcell
          rw [← hy] at hcx
          have hc1 : wr.cell? ⟨b, off + j, none⟩ = some (.int .i64 y) := hcell
          have hc2 : wr.cell? ⟨b', off' + (d + j), none⟩ = some (.int .i64 y) := hcx
          have i0 : (0 : Int) ≤ (j : Int) := by omega
          have i1 : (j : Int) < (m : Int) := by omega
          have i2 : ((d : Int) + (j : Int)) < (xs.length : Int) := by omega
          have i3 : 0 ≤ ((d : Int) + (j : Int)) := by omega
          have e2 : IntKind.i64.wrap ((d : Int) + (j : Int)) = (d : Int) + (j : Int) := IntWalk.i64_in _ (by omega)
          have e3 : ((d : Int) + (j : Int)).toNat = d + j := by omega
          have gd : decide ((xs.length : Int) < (m : Int)) = false := by simp; omega
          clear hcell hcell' hcx hxy hy
          go_wp2_with fail
          go_quiet (fail)
          clear hc1 hc2 gd e2 e3
          go_wp2_with fail
          refine ⟨⟨j + 1, by omega, by go_num, hLj.drewN _, hQj.keep rfl rfl, hbj.trans ⟨rfl, rfl, rfl, Nat.le_refl _, fun _ _ => rfl⟩⟩, by simp [intOf]; omega⟩
        · have t3 : ¬ j < m := hlt2
          clear e1
          rcases Nat.lt_or_ge xs.length n with hc1 | hc1
          · have b1 : ((m : Int) == (xs.length : Int)) = true := by have := HM.out; simp; omega
            go_wp2_with fail
            refine (len_is 0 wr hQj rfl).mono ?_
            rintro e w' ⟨rfl, rfl⟩
            go_wp2_with fail
            go_ret
            exact ⟨rfl, hbj⟩
          · have b1 : ((m : Int) == (n : Int)) = true := by have := HM.out; simp; omega
            go_wp2_with fail
            refine (len_is 0 wr hQj rfl).mono ?_
            rintro e w' ⟨rfl, rfl⟩
            go_wp2_with fail
            go_ret
            exact ⟨rfl, hbj⟩
end Go.Proofs.Ytlpbnhnnbmgdaaa.Q
