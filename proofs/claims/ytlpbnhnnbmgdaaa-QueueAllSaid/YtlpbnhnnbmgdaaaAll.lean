/- WALK of the law that whatever is put and taken, each call tells what the reference tells. Conditions: the arguments read as a number and a slice of numbers. -/
import Derived.Test.YtlpbnhnnbmgdaaaRef
import Derived.Test.YtlpbnhnnbmgdaaaOrder
import Derived.Laws.BitsAllLaws
namespace Go.Proofs.Ytlpbnhnnbmgdaaa.Q
open Go.Conc Go.RowKit Mem

theorem and_seven (a : Int) : bits .and .i64 a 7 = a % 8 := by
  show IntKind.i64.wrap ((BitVec.ofInt 64 a &&& BitVec.ofInt 64 7).toNat : Int) = _
  have e7 : (BitVec.ofInt 64 7).toNat = 7 := by decide
  rw [BitVec.toNat_and, e7, nat_mask3, BitVec.toNat_ofInt, IntKind.wrap_i64]
  omega

theorem Slid.mono {w : World} {B B' : Nat} {v : Value} {l : List Int} (h : Slid w B v l) (hB : B' ≤ B) : Slid w B' v l := by
  rcases h with h | ⟨g, off, cap, cur, h1, h2, h3⟩
  · exact .inl h
  · exact .inr ⟨g, off, cap, cur, h1, Nat.le_trans hB h2, h3⟩
theorem RAt.mono {w : World} {B B' y n : Nat} {l : List Int} (h : RAt w B y n l) (hB : B' ≤ B) : RAt w B' y n l := by
  obtain ⟨v, h1, h2, h3⟩ := h
  exact ⟨v, h1, h2.mono hB, Nat.le_trans hB h3⟩
theorem len_q {q c cap : Nat} {l : List Value} (m : Nat) (w : World) (hQ : QAt w q c cap l) (hm : l.length = m) :
    Calls Try.prog 17 #[.pointer (some ⟨q, 0, none⟩)] w fun e w' => e = .returned (.int .i64 (m : Int)) ∧ w' = w := (len_is m w hQ hm).mono fun _ _ h => ⟨h.1, h.2.symm⟩
/-- Both queues hold the same. -/
def Both (w : World) (B q c y n : Nat) (l : List Int) (wr : World) : Prop := QAt wr q c n (l.map vi) ∧ RAt wr B y n l ∧ Below B w wr
theorem Both.drewN {w wr : World} {B q c y n : Nat} {l : List Int} (h : Both w B q c y n l wr) (k : Nat) : Both w B q c y n l (wr.drewN k) := ⟨h.1.keep rfl rfl, h.2.1.drewN k, below_drawn h.2.2 k⟩
/-- What the last line of a round reads. -/
theorem RAt.len_cell {w : World} {B y n : Nat} {l : List Int} (h : RAt w B y n l) : ∃ A cap, w.cell? ⟨y, 1, none⟩ = some (.slice A l.length cap) ∧ l.length ≤ cap ∧ cap ≤ 9223372036854775807 ∧ Lies w A (l.map vi) ∧ w.frozen? ⟨y, 1, none⟩ = false := by
  obtain ⟨v, h1, h2, h3⟩ := h
  obtain ⟨A, cap, rfl, hc, hm, hL⟩ := h2.form
  exact ⟨A, cap, cell_of_row w y 1 _ _ _ h1, hc, hm, hL, frozen_of_row w y 1 _ _ h1⟩

set_option maxRecDepth 100000 in
set_option maxHeartbeats 4000000 in
theorem all_walk (a0 : Int) (a1 : Option Addr) (len1 cap1 : Nat) (z1 : List Int) (w : World) (w0 : (Lit.int .i64 a0).wf = true) (w1 : IsRow .i64 w a1 len1 cap1 z1) :
    Calls Try.prog 3 #[.int .i64 a0, .slice a1 len1 cap1] w fun e w' => e = .returned (.bool true) ∧ Below w.heap.size w w' := by
  obtain ⟨xs0, rfl, hlc, hcap, hX, hwf⟩ := ints_of_row w1
  have hr := wf_int w0
  clear w0 w1
  obtain ⟨m, hm⟩ : ∃ m, m = min xs0.length 40 := ⟨_, rfl⟩
  have g2 : m ≤ xs0.length := by omega
  have g1 : m ≤ 40 := by omega
  have HM := Lib.hid hm
  clear hm
  obtain ⟨n, hn⟩ : ∃ n : Nat, n = 1 + (a0 % 8).toNat := ⟨_, rfl⟩
  have hn1 : 1 ≤ n := by omega
  have hn2 : n ≤ 8 := by omega
  have hni : 1 + bits .and .i64 a0 7 = (n : Int) := by rw [and_seven]; omega
  have HN := Lib.hid hni
  have hb07 : 0 ≤ bits .and .i64 a0 7 ∧ bits .and .i64 a0 7 ≤ 7 := by rw [and_seven]; omega
  obtain ⟨hb0, hb7⟩ := hb07
  clear hn hni
  have HX := Lib.hid hwf
  clear hwf
  by_cases hroom : 1 ≤ a0 ∧ a0 ≤ 4096
  all_goals
    first
      | (obtain ⟨r, rfl⟩ := Int.eq_ofNat_of_zero_le (show 0 ≤ a0 by omega)
         go_enter Try.func3, Try.ntmps3
         go_wp2_with fail
         refine (shown_any _).mono ?_
         rintro e w1 ⟨rfl, hb1⟩
         go_wp2_with fail
         refine (new_ok r (by omega) (by omega) _).mono ?_
         rintro e w2 ⟨q0, c0, rfl, _, _, _, hb2⟩
         have hb2' := hb1.trans (hb2.mono hb1.size)
         go_wp2_with fail
         refine (refNew_ok r (by omega) (by omega) _).mono ?_
         rintro e w3 ⟨y0, rfl, _, hb3⟩
         have hb3' := hb2'.trans (hb3.mono hb2'.size)
         clear hb1 hb2 hb3 hb2')
      | (have hro : a0 < 1 ∨ 4096 < a0 := by omega
         have HRO := Lib.hid hro
         clear hro hroom
         go_enter Try.func3, Try.ntmps3
         go_wp2_with fail
         refine (shown_any _).mono ?_
         rintro e w3 ⟨rfl, hb3'⟩
         go_wp2_with fail
         refine (new_no _ HRO.out _).mono ?_
         rintro e w' ⟨rfl, rfl⟩
         go_wp2_with fail
         refine (refNew_no _ HRO.out _).mono ?_
         rintro e w' ⟨rfl, rfl⟩)
    go_wp2_with fail
    rw [HN.out]
    refine (new_ok n hn1 (by omega) _).mono ?_
    rintro e w4 ⟨q, c, rfl, hQ4, hq, hc, hb4⟩
    have hb4' := hb3'.trans (hb4.mono hb3'.size)
    have hq' := Nat.le_trans hb3'.size hq
    have hc' := Nat.le_trans hb3'.size hc
    clear hb3' hb4 hq hc
    go_wp2_with fail
    try rw [HN.out]
    refine (refNew_ok n hn1 (by omega) _).mono ?_
    rintro e w5 ⟨y, rfl, hR5, hb5⟩
    have hb5' := hb4'.trans (hb5.mono hb4'.size)
    have hB5 : Both w w.heap.size q c y n [] w5 := ⟨hQ4.below hb5, hR5.mono hb4'.size, hb5'⟩
    clear hQ4 hR5 hb5 hb5' hb4'
    go_wp2_with fail
    go_loopw [14] (fun i wr => ∃ (k : Nat) (l : List Int), k ≤ m ∧ i = .int .i64 k ∧ Both w w.heap.size q c y n l wr) (fun i _ => m - (intOf i).toNat)
    case atStart => exact ⟨0, [], by omega, rfl, hB5⟩
    case round =>
      obtain ⟨k, l, hk, rfl, hQ, hR, hbr⟩ := hrel
      by_cases hlt : k < m
      · obtain ⟨b, off, rfl, hb, hcell⟩ := hX.at_map (show k < xs0.length by omega)
        have hcell' : wr.cell? ⟨b, off + k, none⟩ = some (.int .i64 xs0[k]) := (hbr.cell (p := ⟨b, off + k, none⟩) hb).trans hcell
        have hwx := wf_int (HX.out _ (List.getElem_mem (show k < xs0.length by omega)))
        obtain ⟨x, hx⟩ : ∃ x, x = xs0[k] := ⟨_, rfl⟩
        rw [← hx] at hcell' hwx
        obtain ⟨hwx1, hwx2⟩ := hwx
        clear hcell hx
        have hln : l.length ≤ n := by have := hQ.2.1; simpa using this
        have HQ := Lib.hid hQ
        have HR := Lib.hid hR
        clear hQ hR
        have t0 : k < xs0.length := by omega
        by_cases hneg : x < 0
        · cases l with
          | nil =>
            go_wp2_with fail
            refine (few_any _ _ _ m hlc hcap HM.out _).mono ?_
            rintro e w' ⟨rfl, rfl⟩
            go_wp2_with fail
            refine (take_none wr HQ.out).mono ?_
            rintro e w' ⟨rfl, rfl⟩
            go_wp2_with fail
            refine (refTake_none wr HR.out).mono ?_
            rintro e w' ⟨rfl, rfl⟩
            have HB : Both w w.heap.size q c y n [] wr := ⟨HQ.out, HR.out, hbr⟩
            obtain ⟨hQt, hRt, hbt⟩ := HB
            obtain ⟨At, ct, hct, hlt1, hlt2, _, _⟩ := hRt.len_cell
            have HB := Lib.hid (show Both w w.heap.size q c y n ([] : List Int) wr from ⟨hQt, hRt, hbt⟩)
            obtain ⟨mm, hmm⟩ : ∃ mm, mm = (([] : List Int)).length := ⟨_, rfl⟩
            rw [← hmm] at hct hlt1
            have cl := fun W (hW : QAt W q c n ((([] : List Int)).map vi)) => len_q mm W hW (by rw [List.length_map, hmm])
            have CL := Lib.hid cl
            have HQT := Lib.hid hQt
            clear hQt hRt hbt cl hmm
            go_wp2_with fail
            go_quiet ((go_at_call 17; exact Calls.quiet_of_same (CL.out _ HQT.out)))
            go_wp2_with fail
            refine ⟨⟨k + 1, ([] : List Int), by omega, by go_num, HB.out.drewN _⟩, by simp [intOf]; omega⟩
          | cons z l' =>
            go_wp2_with fail
            refine (few_any _ _ _ m hlc hcap HM.out _).mono ?_
            rintro e w' ⟨rfl, rfl⟩
            go_wp2_with fail
            refine (take_ok (.int .i64 z) wr HQ.out).mono ?_
            rintro e w6 ⟨rfl, hQ6, ho6⟩
            have hR6 := HR.out.only HQ.out ho6
            have hb6 := hbr.trans (ho6.below hc')
            have HR6 := Lib.hid hR6
            have HQ6 := Lib.hid hQ6
            clear hR6 hQ6
            go_wp2_with fail
            refine (refTake_ok z w6 HR6.out).mono ?_
            rintro e w7 ⟨rfl, hR7, hK7, hb7⟩
            have HB : Both w w.heap.size q c y n l' w7 := ⟨hK7.qat HQ6.out, hR7, hb6.trans hb7⟩
            clear hR7 hK7 hb7
            obtain ⟨hQt, hRt, hbt⟩ := HB
            obtain ⟨At, ct, hct, hlt1, hlt2, _, _⟩ := hRt.len_cell
            have HB := Lib.hid (show Both w w.heap.size q c y n l' w7 from ⟨hQt, hRt, hbt⟩)
            obtain ⟨mm, hmm⟩ : ∃ mm, mm = (l').length := ⟨_, rfl⟩
            rw [← hmm] at hct hlt1
            have cl := fun W (hW : QAt W q c n ((l').map vi)) => len_q mm W hW (by rw [List.length_map, hmm])
            have CL := Lib.hid cl
            have HQT := Lib.hid hQt
            clear hQt hRt hbt cl hmm
            go_wp2_with fail
            go_quiet ((go_at_call 17; exact Calls.quiet_of_same (CL.out _ HQT.out)))
            go_wp2_with fail
            refine ⟨⟨k + 1, l', by omega, by go_num, HB.out.drewN _⟩, by simp [intOf]; omega⟩
        · by_cases hfive : x % 5 = 0
          · have hf5 : (x % 5 == 0) = true := by simp; exact hfive
            have HF := Lib.hid hfive
            have cal := fun W (hW : QAt W q c n (l.map vi)) => all_any l W hW (by omega)
            have CAL := Lib.hid cal
            clear hfive cal
            have hx0 : 0 ≤ x := by omega
            go_wp2_with fail
            refine (few_any _ _ _ m hlc hcap HM.out _).mono ?_
            rintro e w' ⟨rfl, rfl⟩
            go_wp2_with fail
            refine (CAL.out wr HQ.out).mono ?_
            rintro e w6 ⟨A6, c6, rfl, hL6, hQ6, hg6⟩
            have hR6 := HR.out.grown HQ.out hg6
            have hb6 := hbr.grown hg6 hbr.size (by intro g hg; injection hg with hg; omega)
            obtain ⟨A7, c7, hc7, hl7, hl7', hL7, hf7⟩ := hR6.len_cell
            have HR6 := Lib.hid hR6
            have HQ6 := Lib.hid hQ6
            clear hR6 hQ6 hg6
            have crow := row_any A6 A7 c6 c7 l l w6 hL6 hL7 (by omega) (by omega)
            rw [decide_eq_true (rfl : l = l)] at crow
            have CR := Lib.hid crow
            clear crow
            go_wp2_with fail
            refine (CR.out).mono ?_
            rintro e w' ⟨rfl, d, rfl⟩
            have HB : Both w w.heap.size q c y n [] ((w6.drewN d).setCell ⟨y, 1, none⟩ (.slice none 0 0)) := by
              obtain ⟨v, h1, h2, h3⟩ := HR6.out
              refine ⟨HQ6.out.keep (heap_setCell_other (w6.drewN d) ⟨y, 1, none⟩ q _ ?_) (heap_setCell_other (w6.drewN d) ⟨y, 1, none⟩ c _ ?_), ⟨_, set_row (w6.drewN d) y _ _ _ 37 h1, .inl ⟨rfl, rfl⟩, h3⟩, (below_drawn hb6 d).setCell h3 _⟩
              · rintro rfl
                obtain ⟨hq1, _⟩ := HQ6.out
                rw [h1] at hq1; injection hq1 with hq1; injection hq1 with _ ht; exact absurd ht (by decide)
              · rintro rfl
                obtain ⟨_, _, s, r, hc1⟩ := HQ6.out
                rw [h1] at hc1; cases hc1
            obtain ⟨hQt, hRt, hbt⟩ := HB
            obtain ⟨At, ct, hct, hlt1, hlt2, _, _⟩ := hRt.len_cell
            have HB := Lib.hid (show Both w w.heap.size q c y n ([] : List Int) _ from ⟨hQt, hRt, hbt⟩)
            obtain ⟨mm, hmm⟩ : ∃ mm, mm = (([] : List Int)).length := ⟨_, rfl⟩
            rw [← hmm] at hct hlt1
            have cl := fun W (hW : QAt W q c n ((([] : List Int)).map vi)) => len_q mm W hW (by rw [List.length_map, hmm])
            have CL := Lib.hid cl
            have HQT := Lib.hid hQt
            clear hQt hRt hbt cl hmm
            go_wp2_with fail
            go_quiet ((go_at_call 17; exact Calls.quiet_of_same (CL.out _ HQT.out)))
            go_wp2_with fail
            refine ⟨⟨k + 1, ([] : List Int), by omega, by go_num, HB.out.drewN _⟩, by simp [intOf]; omega⟩
          · have hf5 : (x % 5 == 0) = false := by simp; exact hfive
            have HF := Lib.hid hfive
            clear hfive
            have hx0 : 0 ≤ x := by omega
            by_cases hfull : l.length = n
            · go_wp2_with fail
              refine (few_any _ _ _ m hlc hcap HM.out _).mono ?_
              rintro e w' ⟨rfl, rfl⟩
              go_wp2_with fail
              refine (put_full x wr HQ.out (by rw [List.length_map]; exact hfull)).mono ?_
              rintro e w' ⟨rfl, rfl⟩
              go_wp2_with fail
              refine (refPut_full x wr HR.out hfull (by omega)).mono ?_
              rintro e wd ⟨rfl, hwd⟩
              have HB : Both w w.heap.size q c y n l wd := by
                obtain ⟨d, rfl⟩ := hwd
                exact Both.drewN ⟨HQ.out, HR.out, hbr⟩ d
              clear hwd
              have HFULL := Lib.hid hfull
              clear hfull
              obtain ⟨hQt, hRt, hbt⟩ := HB
              obtain ⟨At, ct, hct, hlt1, hlt2, _, _⟩ := hRt.len_cell
              have HB := Lib.hid (show Both w w.heap.size q c y n l wd from ⟨hQt, hRt, hbt⟩)
              obtain ⟨mm, hmm⟩ : ∃ mm, mm = (l).length := ⟨_, rfl⟩
              rw [← hmm] at hct hlt1
              have cl := fun W (hW : QAt W q c n ((l).map vi)) => len_q mm W hW (by rw [List.length_map, hmm])
              have CL := Lib.hid cl
              have HQT := Lib.hid hQt
              clear hQt hRt hbt cl hmm
              go_wp2_with fail
              go_quiet ((go_at_call 17; exact Calls.quiet_of_same (CL.out _ HQT.out)))
              go_wp2_with fail
              refine ⟨⟨k + 1, l, by omega, by go_num, HB.out.drewN _⟩, by simp [intOf]; omega⟩
            · have hroom2 : l.length < n := by omega
              go_wp2_with fail
              refine (few_any _ _ _ m hlc hcap HM.out _).mono ?_
              rintro e w' ⟨rfl, rfl⟩
              go_wp2_with fail
              refine (put_ok x wr HQ.out (by rw [List.length_map]; exact hroom2)).mono ?_
              rintro e w6 ⟨rfl, hQ6, ho6⟩
              have hR6 := HR.out.only HQ.out ho6
              have hb6 := hbr.trans (ho6.below hc')
              have HR6 := Lib.hid hR6
              have HQ6 := Lib.hid hQ6
              clear hR6 hQ6
              have hB6 := hb6.size
              go_wp2_with fail
              refine (refPut_ok x w6 HR6.out hroom2 (by omega) hB6).mono ?_
              rintro e w7 ⟨rfl, hR7, hK7, hb7⟩
              have HB : Both w w.heap.size q c y n (l ++ [x]) w7 := ⟨by rw [List.map_append]; exact hK7.qat HQ6.out, hR7, hb6.trans hb7⟩
              clear hR7 hK7 hb7
              obtain ⟨hQt, hRt, hbt⟩ := HB
              obtain ⟨At, ct, hct, hlt1, hlt2, _, _⟩ := hRt.len_cell
              have HB := Lib.hid (show Both w w.heap.size q c y n (l ++ [x]) w7 from ⟨hQt, hRt, hbt⟩)
              obtain ⟨mm, hmm⟩ : ∃ mm, mm = ((l ++ [x])).length := ⟨_, rfl⟩
              rw [← hmm] at hct hlt1
              have cl := fun W (hW : QAt W q c n (((l ++ [x])).map vi)) => len_q mm W hW (by rw [List.length_map, hmm])
              have CL := Lib.hid cl
              have HQT := Lib.hid hQt
              clear hQt hRt hbt cl hmm
              go_wp2_with fail
              go_quiet ((go_at_call 17; exact Calls.quiet_of_same (CL.out _ HQT.out)))
              go_wp2_with fail
              refine ⟨⟨k + 1, (l ++ [x]), by omega, by go_num, HB.out.drewN _⟩, by simp [intOf]; omega⟩
      · go_wp2_with fail
        refine (few_any _ _ _ m hlc hcap HM.out _).mono ?_
        rintro e w' ⟨rfl, rfl⟩
        go_wp2_with fail
        go_ret
        exact ⟨rfl, hbr⟩
end Go.Proofs.Ytlpbnhnnbmgdaaa.Q
