/- PLAIN LAW and WALK: a row of steps has ranks as far as it is long. Condition: the argument reads as a byte. -/
import Derived.Test.YtcjenchkcbnphaaGraphWRow
namespace Go.Proofs.Ytcjenchkcbnphaa.Gr
open Go.RowKit Mem

/-- The numbers from 0 on. -/
def rg (n : Nat) : List Int := (List.range n).map fun i : Nat => (i : Int)
theorem rg_at {n i : Nat} (h : i < (rg n).length) : (rg n)[i] = (i : Int) := by simp [rg]
def longV (n : Nat) : List Int := (List.range n).map fun i : Nat => (i : Int) - 1
theorem long_len (n : Nat) : (longV n).length = n := by simp [longV]
theorem long_at {n i : Nat} (h : i < (longV n).length) : (longV n)[i] = (i : Int) - 1 := by simp [longV]
theorem long_good (n : Nat) : goodB (longV n) = true := by
  rw [good_iff]
  intro x hx
  simp only [longV, List.mem_map, List.mem_range] at hx
  obtain ⟨i, hi, rfl⟩ := hx
  rw [long_len]; omega
theorem long_zero {n : Nat} (h : 0 < n) : nxt (longV n) 0 = none :=
  nxt_of_neg (by rw [long_len]; exact h) (by rw [long_at]; omega)
theorem long_next {n i : Nat} (h : i + 1 < n) : nxt (longV n) (i + 1) = some i := by
  rw [nxt_of_nonneg (by rw [long_len]; exact h) (by rw [long_at]; omega), long_at]
  congr 1; omega
theorem long_rank {n : Nat} : ∀ {i : Nat}, i < n → IsRank (longV n) i i
  | 0, h => ⟨by rw [long_len]; exact h, long_zero h⟩
  | i + 1, h => ⟨i, long_next h, long_rank (by omega)⟩
theorem long_all (n : Nat) : allRanked (longV n) = true := by
  rw [allRanked_iff (long_good n)]
  intro u hu
  exact ⟨u, long_rank (by rw [long_len] at hu; exact hu)⟩
theorem long_ranks (n : Nat) : ranksL (longV n) = rg n := by
  unfold ranksL rg
  rw [long_len]
  apply List.map_congr_left
  intro u hu
  rw [rankOf_eq (long_good n) (long_rank (List.mem_range.1 hu))]
theorem long_loop (n : Nat) : loopL (longV n) = [] := by
  unfold loopL
  rw [loopOf_none (long_good n) ((ranked_iff_no_cyc (long_good n)).1 (long_all n))]; rfl
theorem long_sinks {n : Nat} (h : 0 < n) : sinks (longV n) = [0] := by
  unfold sinks
  obtain ⟨m, rfl⟩ : ∃ m, n = m + 1 := ⟨n - 1, by omega⟩
  rw [long_len, List.range_succ_eq_map, List.filter_cons_of_pos (by rw [long_zero h]; rfl)]
  have : ((List.range m).map Nat.succ).filter (fun u => (nxt (longV (m + 1)) u).isNone) = [] := by
    rw [List.filter_eq_nil_iff]
    intro u hu
    simp only [List.mem_map, List.mem_range] at hu
    obtain ⟨i, hi, rfl⟩ := hu
    rw [Nat.succ_eq_add_one, long_next (by omega)]
    simp
  rw [this]; rfl
theorem long_fill {k : Nat} (xs : List Int) (hp : ∀ i (hi : i < xs.length), i < k → xs[i] = (i : Int) - 1) :
    ∀ i (hi : i < (xs.set k ((k : Int) - 1)).length), i < k + 1 → (xs.set k ((k : Int) - 1))[i] = (i : Int) - 1 := fun i hi hik => by
  rw [List.getElem_set]
  by_cases e : k = i
  · subst e; rw [if_pos rfl]
  · rw [if_neg e]; exact hp i (by rw [List.length_set] at hi; exact hi) (by omega)

set_option maxRecDepth 100000 in
set_option maxHeartbeats 2000000 in
theorem long_walk (a0 : Int) (w : World) (w0 : (Lit.int .u8 a0).wf = true) :
    Calls Try.prog 6 #[.int .u8 a0] w fun e w' => e = .returned (.bool true) ∧ Below w.heap.size w w' := by
  obtain ⟨r, hr, rfl⟩ := wf_byte w0
  clear w0
  obtain ⟨n, hn⟩ : ∃ n : Nat, n = 241 + r % 31 := ⟨_, rfl⟩
  have hn1 : 241 ≤ n := by omega
  have hn2 : n ≤ 271 := by omega
  have f1 : 241 + (r : Int) % 31 = (n : Int) := by omega
  have hmk := run_make_row' (P := Try.prog) 22 3 (.int .i64 0) 8 Try.underlying22 int_info rfl .i64 .i64 n (by omega) (by omega)
  clear hn
  go_enter Try.func6, Try.ntmps6
  go_wp2_with fail
  refine (shown_any _).mono ?_
  rintro e w1 ⟨rfl, hb1⟩
  go_wp2_with fail
  have hs1 := hb1.size
  have hrow := WRow.made w1 n
  have hb2 : Below w.heap.size w (w1.alloc (.cells (madeCells #[.int .i64 0] n) 3)) := hb1.alloc hs1 _
  clear hmk f1
  go_loopw [6] (fun i wr => ∃ (k : Nat) (xs : List Int), k ≤ n ∧ i = .int .i64 k ∧ xs.length = n ∧ WRow wr w1.heap.size xs ∧ (∀ i (hi : i < xs.length), i < k → xs[i] = (i : Int) - 1) ∧ Below w.heap.size w wr) (fun i _ => n - (intOf i).toNat)
  case atStart => exact ⟨0, _, by omega, rfl, by simp, hrow, fun i hi h => absurd h (by omega), hb2⟩
  case round =>
    clear hb2 hrow
    obtain ⟨k, xs, hk, rfl, hxn, hW, hp, hbr⟩ := hrel
    by_cases hlt : k < n
    · have hc := hW.cell k (by omega)
      have hf := hW.free k (by omega)
      have hset := hW.set_ k ((k : Int) - 1)
      have hfill := long_fill xs hp
      have HFILL := Lib.hid hfill
      obtain ⟨y, hy⟩ : ∃ y, y = xs[k] := ⟨_, rfl⟩
      rw [← hy] at hc
      have hbs := hbr.setCell (p := ⟨w1.heap.size, k, none⟩) hs1 (.int .i64 ((k : Int) - 1))
      clear hfill hp hy hW
      go_wp2_with fail
      refine ⟨⟨k + 1, _, by omega, by go_num, by simpa using hxn, hset, HFILL.out, hbs⟩, by simp [intOf]; omega⟩
    · have ek : k = n := by omega
      have ex : xs = longV n := by
        apply List.ext_getElem
        · rw [long_len, hxn]
        · intro i h1 h2
          rw [hp i h1 (by omega), long_at]
      subst ex
      have hA := hW.lies
      have hln := long_len n
      have HLN := Lib.hid hln
      have hns : (rg n).length = n := by simp [rg]
      clear hp hxn ek hW hln
      by_cases hbig : 256 < n
      · have he : errno (longV n) = 12 := by unfold errno; rw [HLN.out, if_pos hbig]
        have h1 := fun W hW => ranks_no (some ⟨w1.heap.size, 0, none⟩) n (longV n) W hW (by rw [HLN.out]; omega) (by rw [he]; decide)
        have h2 := fun W hW => loop_no (some ⟨w1.heap.size, 0, none⟩) n (longV n) W hW (by rw [HLN.out]; omega) (by rw [he]; decide)
        have h3 := fun W hW => sinks_no (some ⟨w1.heap.size, 0, none⟩) n (longV n) W hW (by rw [HLN.out]; omega) (by rw [he]; decide)
        rw [he, HLN.out] at h1 h2 h3
        have H1 := Lib.hid (h1 wr hA)
        have H2 := Lib.hid (h2 wr hA)
        have H3 := Lib.hid (h3 wr hA)
        clear h1 h2 h3 he
        go_wp2_with (first | (go_at_call 12; refine (H1.out).mono ?_; rintro e w' ⟨rfl, rfl⟩) | (go_at_call 14; refine (H2.out).mono ?_; rintro e w' ⟨rfl, rfl⟩) | (go_at_call 16; refine (H3.out).mono ?_; rintro e w' ⟨rfl, rfl⟩))
        go_ret
        exact ⟨rfl, hbr⟩
      · have he : errno (longV n) = 0 := errno_good (by rw [HLN.out]; omega) (long_good n)
        have h1 := fun W hW => ranks_all (A := some ⟨w1.heap.size, 0, none⟩) (c := n) (v := longV n) (w := W) hW he (long_all n)
        have h2 := fun W hW => loop_yes (some ⟨w1.heap.size, 0, none⟩) n (longV n) W hW he
        have h3 := fun W hW => sinks_yes (some ⟨w1.heap.size, 0, none⟩) n (longV n) W hW he
        rw [HLN.out, long_ranks] at h1
        rw [HLN.out, long_loop] at h2
        rw [HLN.out, long_sinks (by omega)] at h3
        have H1 := Lib.hid h1
        have H2 := Lib.hid h2
        have H3 := Lib.hid h3
        have HA := Lib.hid hA
        clear h1 h2 h3 he hA
        obtain ⟨wl, rfl⟩ : ∃ wl : World, wl = wr := ⟨_, rfl⟩
        go_wp2_with fail
        refine (H1.out _ HA.out).mono ?_
        rintro e w2 ⟨R, m1, rfl, hR, hb2⟩
        go_wp2_with fail
        refine (H2.out _ (HA.out.below hb2)).mono ?_
        rintro e w3 ⟨L, m2, rfl, hL, hb3⟩
        have hb23 := hb2.trans (hb3.mono hb2.size)
        go_wp2_with fail
        refine (H3.out _ (HA.out.below hb23)).mono ?_
        rintro e w4 ⟨S, m3, rfl, hS, hb4⟩
        have hR4 : Lies w4 R (ints (rg n)) := (hR.below hb3).below hb4
        have hbw : Below w.heap.size w w4 := hbr.trans ((hb23.trans (hb4.mono hb23.size)).mono hbr.size)
        have t : ((n : Int) != (n : Int)) = false := by simp
        clear hb2 hb3 hb4 hb23 hL hR hbr
        go_wp2_with fail
        go_loopw [13] (fun i wr => ∃ k : Nat, k ≤ n ∧ i = .int .i64 k ∧ w4 = wr) (fun i _ => n - (intOf i).toNat)
        case atStart => exact ⟨0, by omega, rfl, rfl⟩
        case round =>
          obtain ⟨k, hk, rfl, rfl⟩ := hrel
          by_cases hlt : k < n
          · obtain ⟨b, off, rfl, hb, hcell⟩ := hR4.at_map (show k < (rg n).length by rw [hns]; exact hlt)
            rw [rg_at] at hcell
            have t2 : ((k : Int) != (k : Int)) = false := by simp
            go_wp2_with fail
            refine ⟨⟨k + 1, by omega, by go_num, by trivial⟩, by simp [intOf]; omega⟩
          · go_wp2_with fail
            have hr := row_any S (some ⟨w4.heap.size, 0, none⟩) m3 1 [0] [0] _ (hS.alloc _) (Lies.new w4 #[.int .i64 0] 3) (by simp) (by simp)
            refine hr.mono ?_
            rintro e w5 ⟨rfl, n5, rfl⟩
            go_wp2_with fail
            go_ret
            exact ⟨rfl, below_drawn (hbw.alloc hbw.size _) n5⟩
end Go.Proofs.Ytcjenchkcbnphaa.Gr
