/- WALK of the law on how much room there may be. Conditions: the arguments read as a byte and a bool. -/
import Derived.Test.YtlpbnhnnbmgdaaaOrder
namespace Go.Proofs.Ytlpbnhnnbmgdaaa.Q
open Go.Conc Go.RowKit Mem

/-- The numbers from 0 on. -/
def rg (k : Nat) : List Int := (List.range k).map fun i : Nat => (i : Int)
theorem rg_len (k : Nat) : (rg k).length = k := by simp [rg]
theorem rg_next (k : Nat) : (rg (k + 1)).map vi = (rg k).map vi ++ [.int .i64 (k : Int)] := by
  simp [rg, List.range_succ, vi]
theorem rg_at (k i : Nat) (h : i < (rg k).length) : (rg k)[i] = (i : Int) := by simp [rg]

theorem bel_only {B c : Nat} {a w w' : World} (h : Below B a w) (ho : Only c w w') (hc : B ≤ c) : Below B a w' := h.trans (ho.below hc)

set_option maxHeartbeats 2000000 in
theorem rooms_walk (a0 : Int) (a1 : Bool) (w : World) (w0 : (Lit.int .u8 a0).wf = true) :
    Calls Try.prog 6 #[.int .u8 a0, .bool a1] w fun e w' => e = .returned (.bool true) ∧ Below w.heap.size w w' := by
  obtain ⟨r, hr, rfl⟩ := wf_byte w0
  clear w0
  obtain ⟨n, hn⟩ : ∃ n : Nat, n = if a1 then 4081 + r % 31 else 1 + r % 64 := ⟨_, rfl⟩
  have hn1 : 1 ≤ n := by rw [hn]; split <;> omega
  have hn2 : n ≤ 4111 := by rw [hn]; split <;> omega
  have f1 : a1 = true → 4081 + (r : Int) % 31 = (n : Int) := fun h => by rw [h] at hn; simp at hn; omega
  have f2 : a1 = false → 1 + (r : Int) % 64 = (n : Int) := fun h => by rw [h] at hn; simp at hn; omega
  clear hn
  have F1 := Lib.hid f1
  have F2 := Lib.hid f2
  clear f1 f2
  by_cases hbig : 4096 < n
  · cases a1 with
    | false => exact absurd hbig (by have := F2.out (by simp); omega)
    | true =>
      go_enter Try.func6, Try.ntmps6
      go_wp2_with fail
      refine (shown_any _).mono ?_
      rintro e w1 ⟨rfl, hb1⟩
      go_wp2_with fail
      rw [F1.out (by simp)]
      refine (new_no n (.inr (by omega)) _).mono ?_
      rintro e w' ⟨rfl, rfl⟩
      go_wp2_with fail
      go_ret
      exact ⟨rfl, hb1⟩
  · have hn3 : n ≤ 4096 := by omega
    have ca := fun q c W (hW : QAt W q c n ((rg n).map vi)) => all_any (rg n) W hW hn3
    rw [rg_len] at ca
    have CA := Lib.hid ca
    clear ca
    cases a1
    all_goals
      go_enter Try.func6, Try.ntmps6
      go_wp2_with fail
      refine (shown_any _).mono ?_
      rintro e w1 ⟨rfl, hb1⟩
      go_wp2_with fail
      first | rw [F1.out (by simp)] | rw [F2.out (by simp)]
      refine (new_ok n hn1 hn3 _).mono ?_
      rintro e w2 ⟨q, c, rfl, hQ2, hq, hc, hb2⟩
      have hb3 := hb1.trans (hb2.mono hb1.size)
      have hq' := Nat.le_trans hb1.size hq
      have hc' := Nat.le_trans hb1.size hc
      clear hb1 hb2 hq hc
      go_wp2_with fail
      go_loopw [9] (fun i wr => ∃ k : Nat, k ≤ n ∧ i = .int .i64 k ∧ QAt wr q c n ((rg k).map vi) ∧ Below w.heap.size w wr) (fun i _ => n - (intOf i).toNat)
      case atStart => exact ⟨0, by omega, rfl, by simpa [rg] using hQ2, hb3⟩
      case round =>
        obtain ⟨k, hk, rfl, hQ, hbr⟩ := hrel
        have HQ := Lib.hid hQ
        clear hQ
        by_cases hlt : k < n
        · go_wp2_with fail
          refine (put_ok (k : Int) wr HQ.out (by rw [List.length_map, rg_len]; exact hlt)).mono ?_
          rintro e w4 ⟨rfl, hQ4, ho4⟩
          rw [← rg_next] at hQ4
          go_wp2_with fail
          refine ⟨⟨k + 1, by omega, by go_num, hQ4, bel_only hbr ho4 hc'⟩, by simp [intOf]; omega⟩
        · obtain rfl : k = n := by omega
          obtain ⟨wo, rfl⟩ : ∃ wo : World, wo = wr := ⟨_, rfl⟩
          go_wp2_with fail
          refine (put_full (-1) wo HQ.out (by rw [List.length_map, rg_len])).mono ?_
          rintro e w' ⟨rfl, rfl⟩
          go_wp2_with fail
          refine (CA.out q c wo HQ.out).mono ?_
          rintro e w5 ⟨A, cp, rfl, hL5, hQ5, hg5⟩
          have hb5 := hbr.grown hg5 hbr.size (by intro g hg; injection hg with hg; omega)
          go_wp2_with fail
          go_loop [12] (fun i => ∃ j : Nat, j ≤ k ∧ i = .int .i64 j) (fun i => k - (intOf i).toNat)
          case atStart => exact ⟨0, by omega, rfl⟩
          case round =>
            obtain ⟨j, hj, rfl⟩ := hrel
            by_cases hlt2 : j < k
            · obtain ⟨b, off, rfl, hb, hcell⟩ := hL5.at_map (show j < (rg k).length by rw [rg_len]; exact hlt2)
              rw [rg_at] at hcell
              have hcell' : w5.cell? ⟨b, off + j, none⟩ = some (.int .i64 (j : Int)) := hcell
              clear hcell
              go_wp2_with fail
              refine ⟨⟨j + 1, by omega, by go_num⟩, by simp [intOf]; omega⟩
            · go_wp2_with fail
              refine (len_is 0 w5 hQ5 rfl).mono ?_
              rintro e w' ⟨rfl, rfl⟩
              go_wp2_with fail
              go_ret
              exact ⟨rfl, hb5⟩
end Go.Proofs.Ytlpbnhnnbmgdaaa.Q
