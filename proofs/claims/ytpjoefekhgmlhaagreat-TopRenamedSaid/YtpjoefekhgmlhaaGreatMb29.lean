/- CONTRACT of the reference theseusref08.Fit: a table made such as may be. Conditions: the numbers fit their kinds; one node at least. · WORDS: a region that draws its order, whose last operation is a store to a cell that the region loads: what is held of the world need not hold behind that store. -/
import Derived.Test.YtpjoefekhgmlhaaGreatMb28
import Derived.Test.YtpjoefekhgmlhaaGreatMb16
import Derived.Deep.RegionHeld3
import Derived.Deep.DeepCutAuto
import Derived.Deep.CutBlock
import Derived.Outline
import Derived.Test.YtpjoefekhgmlhaaGreatMb05
namespace Go.Proofs.YtpjoefekhgmlhaaGreat.Tp
open Go.RowKit Mem

set_option linter.unusedSimpArgs false in
set_option maxRecDepth 100000 in
set_option maxHeartbeats 2000000 in
theorem tfit_any (A : Option Addr) (c : Nat) (l : List RuleZ) (nodes : Nat) (w : World) (hA : RulesZAt w A l) (h : ∀ r ∈ l, RuleZOk r) (h0 : 0 < nodes) (hn : nodes ≤ 256) :
    Calls Tryz.prog 16 #[.slice A l.length c, .int .i64 (nodes : Int)] w (TabPost w (fitT nodes l)) := by
  have H := Lib.hid h
  clear h
  have hb0 : Below w.heap.size w (w.alloc (.cells #[] 43)) := bal _ _
  have hL0 : RulesAt (w.alloc (.cells #[] 43)) (some ⟨w.heap.size, 0, none⟩) [] := lies_none
  go_enter Tryz.func16, Tryz.ntmps16
  go_wp2_with fail
  go_loopw [5, 6] (fun s i wr => ∃ (k : Nat) (S : Option Addr) (cS : Nat), k ≤ 20 ∧ k ≤ l.length ∧ i = .int .i64 k ∧ s = .slice S (fitTo nodes l k).length cS ∧ Hid (RulesAt wr S (fitTo nodes l k)) ∧ (fitTo nodes l k).length ≤ cS ∧ cS ≤ 9223372036854775807 ∧ Hid (Below w.heap.size w wr) ∧ Hid (Gr.New w S)) (fun _ i _ => 20 - (intOf i).toNat)
  case atStart => exact ⟨0, some ⟨w.heap.size, 0, none⟩, 0, by omega, by omega, rfl, rfl, Lib.hid hL0, by simp [fitTo], by omega, Lib.hid hb0, Lib.hid fun a ha => by injection ha with ha; rw [← ha]; exact Nat.le_refl _⟩
  case round =>
    clear hb0 hL0
    obtain ⟨k, S, cS, hk20, hkl, rfl, rfl, HL, hc1, hc2, HB, HNW⟩ := hrel
    obtain ⟨wo, rfl⟩ : ∃ wo : World, wo = wr := ⟨_, rfl⟩
    by_cases hlt : k < l.length
    · by_cases h20 : k < 20
      · obtain ⟨out, hout⟩ : ∃ out, out = fitTo nodes l k := ⟨_, rfl⟩
        have hnx := fitTo_next (nodes := nodes) hlt
        have hol : out.length ≤ 20 := by
          have := (fitTo_tab h0 H.out k (by omega)).2
          rw [hout]; omega
        rw [← hout] at hnx HL hc1
        obtain ⟨b, off, hAe, hb, hc_0, hc_1, hc_2, hc_3⟩ := RulesZAt.at_ hA hlt
        have hd0 := (HB.out.cell (p := ⟨b, off + k * 4, none⟩) hb).trans hc_0
        have hd1 := (HB.out.cell (p := ⟨b, off + k * 4 + 1, none⟩) hb).trans hc_1
        have hd2 := (HB.out.cell (p := ⟨b, off + k * 4 + 2, none⟩) hb).trans hc_2
        have hd3 := (HB.out.cell (p := ⟨b, off + k * 4 + 3, none⟩) hb).trans hc_3
        obtain ⟨r, hr⟩ : ∃ r, r = l[k] := ⟨_, rfl⟩
        have hok : RuleZOk r := by rw [hr]; exact H.out _ (List.getElem_mem hlt)
        rw [← hr] at hd0 hd1 hd2 hd3 hnx
        have hfit := fun W => rfit_any r nodes hok h0 hn W
        obtain ⟨R, hR⟩ : ∃ R, R = fitR nodes r := ⟨_, rfl⟩
        rw [← hR] at hfit hnx
        obtain ⟨Ra, Rlen, Ract, Rnext⟩ := R
        simp only [rv] at hfit
        have HF := Lib.hid hfit
        have HA := Lib.hid hA
        have HNX := Lib.hid hnx
        have HO := Lib.hid hout
        obtain ⟨ra, rlen, ract, rnext⟩ := r
        simp only at hd0 hd1 hd2 hd3
        rw [← hout]
        obtain ⟨no, hno⟩ : ∃ no, no = out.length := ⟨_, rfl⟩
        rw [← hno] at hol hc1 ⊢
        have HNO := Lib.hid hno
        clear hc_0 hc_1 hc_2 hc_3 hr hA hok hfit hnx hR hno hout
        subst hAe
        go_upto_region 6 with (go_at_call 43; refine (HF.out _).mono ?_; rintro e w2 ⟨rfl, hb2⟩)
        obtain ⟨w3, hw3⟩ : ∃ w3, w3 = w2.alloc (.cells #[.int .u32 (Ra : Int), .int .i64 (Rlen : Int), .int .i64 (Ract : Int), .int .i64 (Rnext : Int)] 43) := ⟨_, rfl⟩
        rw [← hw3]
        have hb3 : Below wo.heap.size wo w3 := by rw [hw3]; exact hb2.alloc hb2.size _
        have hR3 := VRow.new w2 #[.int .u32 (Ra : Int), .int .i64 (Rlen : Int), .int .i64 (Ract : Int), .int .i64 (Rnext : Int)] 43
        rw [← hw3] at hR3
        have HB3 := Lib.hid hb3
        have HR3 := Lib.hid hR3
        have hlt3 : w2.heap.size < w3.heap.size := hR3.lt
        clear hd0 hd1 hd2 hd3 hw3 hb3 hR3 hb2
        go_upto_block 2 with fail
        go_cut [8] (fun s8 wc => s8 = .int .i64 ((aheadR ⟨Ra, Rlen, Ract, Rnext⟩ out : Nat) : Int) ∧ Hid (Below w3.heap.size w3 wc))
        case first =>
          go_wp2_with fail
          go_loopw [8] (fun s8 wx => ∃ j : Nat, j ≤ no ∧ s8 = .int .i64 j ∧ Hid (∀ i (hi : i < out.length), i < j → pcmp out[i].a out[i].len Ra Rlen < 0) ∧ Hid (Below w3.heap.size w3 wx)) (fun s8 _ => no - (intOf s8).toNat)
          case atStart => exact ⟨0, by omega, rfl, Lib.hid fun i hi hij => absurd hij (by omega), Lib.hid (Below.refl _ _)⟩
          case round =>
            obtain ⟨j, hj, rfl, HJ, HX⟩ := hrel
            by_cases hjl : j < no
            · have hjl' : j < out.length := by have := HNO.out; omega
              obtain ⟨b2, off2, hSe, hb2, hc_0, hc_1, hc_2, hc_3⟩ := RulesAt.at_ HL.out hjl'
              have hbx := HB3.out.trans (HX.out.mono HB3.out.size)
              obtain ⟨q, hq⟩ : ∃ q, q = out[j] := ⟨_, rfl⟩
              rw [← hq] at hc_0 hc_1 hc_2 hc_3
              have hd0 := (hbx.cell (p := ⟨b2, off2 + j * 4, none⟩) hb2).trans hc_0
              have hd1 := (hbx.cell (p := ⟨b2, off2 + j * 4 + 1, none⟩) hb2).trans hc_1
              have hd2 := (hbx.cell (p := ⟨b2, off2 + j * 4 + 2, none⟩) hb2).trans hc_2
              have hd3 := (hbx.cell (p := ⟨b2, off2 + j * 4 + 3, none⟩) hb2).trans hc_3
              have hR := HR3.out.below HX.out hlt3
              have he0 := hR.cell 0 (by simp)
              have he1 := hR.cell 1 (by simp)
              have he2 := hR.cell 2 (by simp)
              have he3 := hR.cell 3 (by simp)
              simp only [List.getElem_cons_zero, List.getElem_cons_succ] at he0 he1 he2 he3
              have hcmp := fun W => rrcmp_any q ⟨Ra, Rlen, Ract, Rnext⟩ W
              obtain ⟨p, hp⟩ : ∃ p, p = pcmp q.a q.len Ra Rlen := ⟨_, rfl⟩
              simp only at hcmp
              rw [← hp] at hcmp
              have HC := Lib.hid hcmp
              have HP := Lib.hid hp
              have HQ := Lib.hid hq
              have g1 : decide ((j : Int) < (no : Int)) = true := decide_eq_true (by omega)
              have hbl : b2 < wr.heap.size := Nat.lt_of_lt_of_le hb2 hbx.size
              have hwl : w2.heap.size < wr.heap.size := hR.lt
              obtain ⟨qa, ql, qc, qn⟩ := q
              simp only at hd0 hd1 hd2 hd3
              subst hSe
              clear hc_0 hc_1 hc_2 hc_3 hcmp hp hq hR hbx hb2
              have KS : Hid (∀ W, Below wr.heap.size wr W → W.cell? ⟨b2, off2 + j * 4, none⟩ = some (.int .u32 (qa : Int)) ∧ W.cell? ⟨b2, off2 + j * 4 + 1, none⟩ = some (.int .i64 (ql : Int)) ∧ W.cell? ⟨b2, off2 + j * 4 + 2, none⟩ = some (.int .i64 (qc : Int)) ∧ W.cell? ⟨b2, off2 + j * 4 + 3, none⟩ = some (.int .i64 (qn : Int)) ∧
                  W.cell? ⟨w2.heap.size, 0, none⟩ = some (.int .u32 (Ra : Int)) ∧ W.cell? ⟨w2.heap.size, 1, none⟩ = some (.int .i64 (Rlen : Int)) ∧ W.cell? ⟨w2.heap.size, 2, none⟩ = some (.int .i64 (Ract : Int)) ∧ W.cell? ⟨w2.heap.size, 3, none⟩ = some (.int .i64 (Rnext : Int))) :=
                Lib.hid fun W hW => ⟨(hW.cell (p := ⟨b2, off2 + j * 4, none⟩) hbl).trans hd0, (hW.cell (p := ⟨b2, off2 + j * 4 + 1, none⟩) hbl).trans hd1, (hW.cell (p := ⟨b2, off2 + j * 4 + 2, none⟩) hbl).trans hd2, (hW.cell (p := ⟨b2, off2 + j * 4 + 3, none⟩) hbl).trans hd3,
                  (hW.cell (p := ⟨w2.heap.size, 0, none⟩) hwl).trans he0, (hW.cell (p := ⟨w2.heap.size, 1, none⟩) hwl).trans he1, (hW.cell (p := ⟨w2.heap.size, 2, none⟩) hwl).trans he2, (hW.cell (p := ⟨w2.heap.size, 3, none⟩) hwl).trans he3⟩
              go_wp2_with fail
              go_region_held3 (fun W => W.cell? ⟨b2, off2 + j * 4, none⟩ = some (.int .u32 (qa : Int)) ∧ W.cell? ⟨b2, off2 + j * 4 + 1, none⟩ = some (.int .i64 (ql : Int)) ∧ W.cell? ⟨b2, off2 + j * 4 + 2, none⟩ = some (.int .i64 (qc : Int)) ∧ W.cell? ⟨b2, off2 + j * 4 + 3, none⟩ = some (.int .i64 (qn : Int)) ∧
                  W.cell? ⟨w2.heap.size, 0, none⟩ = some (.int .u32 (Ra : Int)) ∧ W.cell? ⟨w2.heap.size, 1, none⟩ = some (.int .i64 (Rlen : Int)) ∧ W.cell? ⟨w2.heap.size, 2, none⟩ = some (.int .i64 (Ract : Int)) ∧ W.cell? ⟨w2.heap.size, 3, none⟩ = some (.int .i64 (Rnext : Int)))
                (first | exact KS.out _ (Below.refl _ _) | exact KS.out _ (below_drew (Below.refl _ _)) | exact KS.out _ ((below_drew (Below.refl _ _)).trans hb4) | exact KS.out _ hb4)
                (first | (go_at_call 44; refine (HC.out _).mono ?_; rintro e w4 ⟨rfl, hb4⟩))
              have hbq : Below w3.heap.size w3 w4 := (below_drew HX.out).trans (hb4.mono (below_drew HX.out).size)
              have HBQ := Lib.hid hbq
              clear hb4 hbq hd0 hd1 hd2 hd3 he0 he1 he2 he3 KS
              by_cases hp : p < 0
              · go_wp2_with fail
                refine ⟨⟨j + 1, by omega, by go_num, Lib.hid fun i hi hij => ?_, HBQ⟩, by simp [intOf]; omega⟩
                rcases Nat.lt_or_ge i j with h1 | h1
                · exact HJ.out i hi h1
                · obtain rfl : i = j := by omega
                  rw [← HQ.out, ← HP.out]
                  exact hp
              · have g2 : decide (p < 0) = false := decide_eq_false hp
                go_wp2_with fail
                go_meet
                refine ⟨?_, HBQ⟩
                rw [ahead_of (k := j) (by omega) (fun i hi hij => HJ.out i hi hij) (fun h => by rw [← HQ.out, ← HP.out]; omega)]
            · obtain rfl : j = no := by omega
              have g1 : decide ((j : Int) < (j : Int)) = false := decide_eq_false (by omega)
              go_wp2_with fail
              go_quiet (fail)
              go_wp2_with fail
              go_meet
              refine ⟨?_, Lib.hid (below_drawn HX.out _)⟩
              rw [ahead_of (k := j) (by have := HNO.out; omega) (fun i hi hij => HJ.out i hi hij) (fun h => by have := HNO.out; omega)]
        case rest =>
          obtain ⟨rfl, HX⟩ := hcut
          obtain ⟨J, hJ⟩ : ∃ J, J = aheadR ⟨Ra, Rlen, Ract, Rnext⟩ out := ⟨_, rfl⟩
          obtain ⟨B, hB⟩ : ∃ B, B = isR ⟨Ra, Rlen, Ract, Rnext⟩ out := ⟨_, rfl⟩
          have hJn : J ≤ no := by rw [hJ, HNO.out]; exact ahead_le _ _
          rw [← hJ]
          have HJ := Lib.hid hJ
          have HBB := Lib.hid hB
          clear hJ hB
          go_upto_region 9 with fail
          go_cut [54] (fun s54 wx => s54 = .bool B ∧ Hid (Below w3.heap.size w3 wx))
          case first =>
            by_cases hjl : J < no
            · have hjl' : J < out.length := by have := HNO.out; omega
              obtain ⟨b2, off2, hSe, hb2, hc_0, hc_1, hc_2, hc_3⟩ := RulesAt.at_ HL.out hjl'
              have hbx := HB3.out.trans (HX.out.mono HB3.out.size)
              obtain ⟨q, hq⟩ : ∃ q, q = out[J] := ⟨_, rfl⟩
              rw [← hq] at hc_0 hc_1 hc_2 hc_3
              have hd0 := (hbx.cell (p := ⟨b2, off2 + J * 4, none⟩) hb2).trans hc_0
              have hd1 := (hbx.cell (p := ⟨b2, off2 + J * 4 + 1, none⟩) hb2).trans hc_1
              have hd2 := (hbx.cell (p := ⟨b2, off2 + J * 4 + 2, none⟩) hb2).trans hc_2
              have hd3 := (hbx.cell (p := ⟨b2, off2 + J * 4 + 3, none⟩) hb2).trans hc_3
              have hR := HR3.out.below HX.out hlt3
              have he0 := hR.cell 0 (by simp)
              have he1 := hR.cell 1 (by simp)
              have he2 := hR.cell 2 (by simp)
              have he3 := hR.cell 3 (by simp)
              simp only [List.getElem_cons_zero, List.getElem_cons_succ] at he0 he1 he2 he3
              have hcmp := fun W => rrcmp_any q ⟨Ra, Rlen, Ract, Rnext⟩ W
              obtain ⟨p, hp⟩ : ∃ p, p = pcmp q.a q.len Ra Rlen := ⟨_, rfl⟩
              have hBp : B = decide (p = 0) := by
                have h1 := HJ.out
                subst h1
                rw [HBB.out, isR_at hjl', hp, hq]
              simp only at hcmp
              rw [← hp] at hcmp
              have HC := Lib.hid hcmp
              have HBP := Lib.hid hBp
              have g1 : decide ((J : Int) < (no : Int)) = true := decide_eq_true (by omega)
              have hbl : b2 < wc.heap.size := Nat.lt_of_lt_of_le hb2 hbx.size
              have hwl : w2.heap.size < wc.heap.size := hR.lt
              clear hp hq hBp
              obtain ⟨qa, ql, qc, qn⟩ := q
              simp only at hd0 hd1 hd2 hd3
              subst hSe
              clear hc_0 hc_1 hc_2 hc_3 hcmp hR hbx hb2
              have KS : Hid (∀ W, Below wc.heap.size wc W → W.cell? ⟨b2, off2 + J * 4, none⟩ = some (.int .u32 (qa : Int)) ∧ W.cell? ⟨b2, off2 + J * 4 + 1, none⟩ = some (.int .i64 (ql : Int)) ∧ W.cell? ⟨b2, off2 + J * 4 + 2, none⟩ = some (.int .i64 (qc : Int)) ∧ W.cell? ⟨b2, off2 + J * 4 + 3, none⟩ = some (.int .i64 (qn : Int)) ∧
                  W.cell? ⟨w2.heap.size, 0, none⟩ = some (.int .u32 (Ra : Int)) ∧ W.cell? ⟨w2.heap.size, 1, none⟩ = some (.int .i64 (Rlen : Int)) ∧ W.cell? ⟨w2.heap.size, 2, none⟩ = some (.int .i64 (Ract : Int)) ∧ W.cell? ⟨w2.heap.size, 3, none⟩ = some (.int .i64 (Rnext : Int))) :=
                Lib.hid fun W hW => ⟨(hW.cell (p := ⟨b2, off2 + J * 4, none⟩) hbl).trans hd0, (hW.cell (p := ⟨b2, off2 + J * 4 + 1, none⟩) hbl).trans hd1, (hW.cell (p := ⟨b2, off2 + J * 4 + 2, none⟩) hbl).trans hd2, (hW.cell (p := ⟨b2, off2 + J * 4 + 3, none⟩) hbl).trans hd3,
                  (hW.cell (p := ⟨w2.heap.size, 0, none⟩) hwl).trans he0, (hW.cell (p := ⟨w2.heap.size, 1, none⟩) hwl).trans he1, (hW.cell (p := ⟨w2.heap.size, 2, none⟩) hwl).trans he2, (hW.cell (p := ⟨w2.heap.size, 3, none⟩) hwl).trans he3⟩
              go_region_held3 (fun W => W.cell? ⟨b2, off2 + J * 4, none⟩ = some (.int .u32 (qa : Int)) ∧ W.cell? ⟨b2, off2 + J * 4 + 1, none⟩ = some (.int .i64 (ql : Int)) ∧ W.cell? ⟨b2, off2 + J * 4 + 2, none⟩ = some (.int .i64 (qc : Int)) ∧ W.cell? ⟨b2, off2 + J * 4 + 3, none⟩ = some (.int .i64 (qn : Int)) ∧
                  W.cell? ⟨w2.heap.size, 0, none⟩ = some (.int .u32 (Ra : Int)) ∧ W.cell? ⟨w2.heap.size, 1, none⟩ = some (.int .i64 (Rlen : Int)) ∧ W.cell? ⟨w2.heap.size, 2, none⟩ = some (.int .i64 (Ract : Int)) ∧ W.cell? ⟨w2.heap.size, 3, none⟩ = some (.int .i64 (Rnext : Int)))
                (first | exact KS.out _ (Below.refl _ _) | exact KS.out _ (below_drew (Below.refl _ _)) | exact KS.out _ ((below_drew (Below.refl _ _)).trans hb4) | exact KS.out _ hb4)
                (first | (go_at_call 44; refine (HC.out _).mono ?_; rintro e w4 ⟨rfl, hb4⟩))
              have hbq : Below w3.heap.size w3 w4 := (below_drew HX.out).trans (hb4.mono (below_drew HX.out).size)
              have HBQ := Lib.hid hbq
              clear hb4 hbq hd0 hd1 hd2 hd3 he0 he1 he2 he3 KS
              go_wp2_with fail
              go_meet
              exact ⟨by rw [HBP.out]; congr 1, HBQ⟩
            · have g1 : decide ((J : Int) < (no : Int)) = false := decide_eq_false (by omega)
              have hB0 : B = false := by
                rw [HBB.out]
                exact isR_end (by have h1 := HNO.out; have h2 := HJ.out; omega)
              have HB0 := Lib.hid hB0
              clear hB0
              go_quiet (fail)
              go_wp2_with fail
              go_meet
              exact ⟨by rw [HB0.out], Lib.hid (below_drawn HX.out _)⟩
          case rest =>
            obtain ⟨rfl, HX⟩ := hcut
            cases hBv : B with
            | true =>
              have hn1 : fitTo nodes l (k + 1) = out := by rw [HNX.out, isR_yes (by rw [← HBB.out, hBv])]
              have HN1 := Lib.hid hn1
              clear hn1
              subst hBv
              go_wp2_with fail
              refine ⟨⟨k + 1, S, cS, by omega, by omega, by go_num, by rw [HN1.out, ← HNO.out], Lib.hid ?_, by rw [HN1.out, ← HNO.out]; exact hc1, hc2, Lib.hid ?_, HNW⟩, by simp [intOf]; omega⟩
              · rw [HN1.out]; exact HL.out.below (HB3.out.trans (HX.out.mono HB3.out.size))
              · exact HB.out.trans ((HB3.out.trans (HX.out.mono HB3.out.size)).mono HB.out.size)
            | false =>
              obtain ⟨wd, rfl⟩ : ∃ wd : World, wd = wc := ⟨_, rfl⟩
              have hn1 : fitTo nodes l (k + 1) = out.take J ++ ⟨Ra, Rlen, Ract, Rnext⟩ :: out.drop J := by rw [HNX.out, isR_no (by rw [← HBB.out, hBv]), HJ.out]
              have HN1 := Lib.hid hn1
              have hx := HR3.out.below HX.out hlt3
              have he0 := hx.cell 0 (by simp)
              have he1 := hx.cell 1 (by simp)
              have he2 := hx.cell 2 (by simp)
              have he3 := hx.cell 3 (by simp)
              simp only [List.getElem_cons_zero, List.getElem_cons_succ] at he0 he1 he2 he3
              have hwl : w2.heap.size < wd.heap.size := hx.lt
              have hbc := HB3.out.trans (HX.out.mono HB3.out.size)
              have hLc : RulesAt wd S out := HL.out.below hbc
              have hBc := HB.out.trans (hbc.mono HB.out.size)
              obtain ⟨A1, hcut1, hl1⟩ := cut_lz (P := Tryz.prog) rty rsz S no cS J hJn hc1
              obtain ⟨A2, hcut2, hl2⟩ := cut_hz (P := Tryz.prog) rty rsz S no cS J (by omega)
              have hL1 : Lies wd A1 (rcs (out.drop J)) := by have := hl1 wd _ hLc (by rw [rcs_len, HNO.out]); rwa [rcs_drop] at this
              have hL2 : Lies wd A2 (rcs (out.take J)) := by have := hl2 wd _ hLc; rwa [rcs_take] at this
              have hld : (out.drop J).length = no - J := by rw [List.length_drop, HNO.out]
              have hlt2 : (out.take J).length = J := by rw [List.length_take, ← HNO.out]; omega
              have HL1 := Lib.hid hL1
              have HL2 := Lib.hid hL2
              have HLD := Lib.hid hld
              have HLT := Lib.hid hlt2
              have HBC := Lib.hid hBc
              clear hn1 hx hbc hLc hBc hl1 hl2 hL1 hL2 hld hlt2
              subst hBv
              go_upto_region 10 with fail
              go_cut [9] (fun s9 wx => ∃ (S9 : Option Addr) (c9 : Nat), s9 = .slice S9 (1 + (no - J)) c9 ∧ Hid (Lies wx S9 (rcs (⟨Ra, Rlen, Ract, Rnext⟩ :: out.drop J))) ∧ Hid (Below wd.heap.size wd wx))
              case first =>
                refine wp_region_held_drew (S := (fun W => W.cell? ⟨w2.heap.size, 0, none⟩ = some (.int .u32 (Ra : Int)) ∧ W.cell? ⟨w2.heap.size, 1, none⟩ = some (.int .i64 (Rlen : Int)) ∧ W.cell? ⟨w2.heap.size, 2, none⟩ = some (.int .i64 (Ract : Int)) ∧ W.cell? ⟨w2.heap.size, 3, none⟩ = some (.int .i64 (Rnext : Int)))) (by kernel_rfl) ⟨he0, he1, he2, he3⟩ (fun hHeld => ?_)
                refine wpAnyH_take (i := 0) (v := (.agg #[.int .u32 (Ra : Int), .int .i64 (Rlen : Int), .int .i64 (Ract : Int), .int .i64 (Rnext : Int)])) rfl (by kernel_rfl) (by kernel_rfl) (by kernel_rfl) (fun _ _ _ h => h) (Or.inl ⟨by rfl, fun w hSw => by (try dsimp only at hSw); go_simp⟩) (by assumption) ?_
                try simp only [Act.put, List.setIfInBounds_toArray, List.set_cons_zero, List.set_cons_succ]
                refine wpAnyH_take (i := 2) (v := (.slice S no cS)) rfl (by kernel_rfl) (by kernel_rfl) (by kernel_rfl) (fun _ _ _ h => h) (Or.inl ⟨by rfl, fun w hSw => by (try dsimp only at hSw); go_simp⟩) (by assumption) ?_
                try simp only [Act.put, List.setIfInBounds_toArray, List.set_cons_zero, List.set_cons_succ]
                refine wpAnyH_take (i := 3) (v := (.int .i64 (J : Int))) rfl (by kernel_rfl) (by kernel_rfl) (by kernel_rfl) (fun _ _ _ h => h) (Or.inl ⟨by rfl, fun w hSw => by (try dsimp only at hSw); go_simp⟩) (by assumption) ?_
                try simp only [Act.put, List.setIfInBounds_toArray, List.set_cons_zero, List.set_cons_succ]
                refine wpAnyH_take (i := 4) (v := (.slice A1 (no - J) (cS - J))) rfl (by kernel_rfl) (by kernel_rfl) (by kernel_rfl) (fun _ _ _ h => h) (Or.inl ⟨by rfl, fun w hSw => by (try dsimp only at hSw); go_simp⟩) (by assumption) ?_
                try simp only [Act.put, List.setIfInBounds_toArray, List.set_cons_zero, List.set_cons_succ]
                refine wpAnyH_ready (rs := [1]) (by kernel_rfl) (by simp) ?_
                refine AllReadyH.cons rfl (fun K hK => ?_) AllReadyH.nil
                go_simp
                have hbb : Below wd.heap.size wd (wd.alloc (.cells #[.int .u32 (Ra : Int), .int .i64 (Rlen : Int), .int .i64 (Ract : Int), .int .i64 (Rnext : Int)] 43)).drew := below_drew (bal _ _)
                have hown1 := own_below (own_rule wd ⟨Ra, Rlen, Ract, Rnext⟩) (below_drew (Below.refl _ _))
                have hL1 := HL1.out.below hbb
                have HBB1 := Lib.hid hbb
                have HOWN1 := Lib.hid hown1
                have HL1b := Lib.hid hL1
                refine hK.out _ _ ⟨(hbb.cell (p := ⟨w2.heap.size, 0, none⟩) hwl).trans he0, (hbb.cell (p := ⟨w2.heap.size, 1, none⟩) hwl).trans he1, (hbb.cell (p := ⟨w2.heap.size, 2, none⟩) hwl).trans he2, (hbb.cell (p := ⟨w2.heap.size, 3, none⟩) hwl).trans he3⟩ (fun hHeld => ?_)
                clear hK K hbb hown1 hL1
                try simp only [Act.put, List.setIfInBounds_toArray, List.set_cons_zero, List.set_cons_succ]
                refine wpAnyH_ready (rs := [5]) (by kernel_rfl) (by simp) ?_
                refine AllReadyH.cons rfl (fun K hK => ?_) AllReadyH.nil
                refine step_app rfl (.tmp 56) (.tmp 59) 44 rfl Tryz.underlying44 rule_info rfl (by omega) (by omega) wd _ HBB1.out (some ⟨wd.heap.size, 0, none⟩) 1 1 (rcs [⟨Ra, Rlen, Ract, Rnext⟩]) (by simp [Act.eval]) HOWN1.out A1 (no - J) (cS - J) (rcs (out.drop J)) (by simp [Act.eval]) (by rw [rcs_len, HLD.out]) HL1b.out (rcs_one _) (by omega) ?_
                intro S9 c9 W9 hown9 hc9 hc9' hb9 hg9 hat9
                refine hK.out _ _ ⟨(hb9.cell (p := ⟨w2.heap.size, 0, none⟩) hwl).trans he0, (hb9.cell (p := ⟨w2.heap.size, 1, none⟩) hwl).trans he1, (hb9.cell (p := ⟨w2.heap.size, 2, none⟩) hwl).trans he2, (hb9.cell (p := ⟨w2.heap.size, 3, none⟩) hwl).trans he3⟩ (fun hHeld => ?_)
                have HB9 := Lib.hid hb9
                have HO9 := Lib.hid hown9
                clear hK K hown9 hc9 hc9' hb9 hg9 hat9
                try simp only [Act.put, List.setIfInBounds_toArray, List.set_cons_zero, List.set_cons_succ]
                refine wpAnyH_ready (rs := [6]) (by kernel_rfl) (by simp) ?_
                refine AllReadyH.cons rfl (fun K hK => ?_) AllReadyH.nil
                go_simp
                refine hK.out _ _ hHeld (fun hHeld => ?_)
                clear hK K
                try simp only [Act.put, List.setIfInBounds_toArray, List.set_cons_zero, List.set_cons_succ]
                refine wpAnyH_done (by kernel_rfl) ?_ _
                go_wp2_with fail
                go_meet
                refine ⟨_, _, rfl, Lib.hid ?_, HB9⟩
                have h := Lies.of_own HO9.out
                rw [← rcs_append] at h
                exact h
              case rest =>
                obtain ⟨S9, c9, rfl, HL9, HX9⟩ := hcut
                have hbe := bal wc (.cells #[] 43)
                have hL2 := HL2.out.below (HX9.out.trans (hbe.mono HX9.out.size))
                have HBE := Lib.hid hbe
                have HL2b := Lib.hid hL2
                have hx9 : wd.heap.size ≤ wc.heap.size := HX9.out.size
                clear hbe hL2 he0 he1 he2 he3
                go_wp2_with (first
                  | (at_builtin; refine wpList_app rfl (.tmp 61) (.tmp 64) _ rfl Tryz.underlying44 rule_info rfl (by omega) (by omega) wc _ HBE.out _ 0 0 (rcs []) rfl (own_rule0 wc) A2 J cS (rcs (out.take J)) rfl (by rw [rcs_len, HLT.out]) HL2b.out (rcs_one _) (by omega) ?_; intro S5 c5 W5 hown5 hc5 hc5' hb5 hg5; simp only [Nat.zero_add] at hown5; have HB5 := Lib.hid hb5; have HO5 := Lib.hid hown5; have HL9b := Lib.hid (HL9.out.below hb5); clear hown5 hc5 hc5' hb5 hg5)
                  | (at_builtin; refine wpList_app rfl (.tmp 65) (.tmp 66) _ rfl Tryz.underlying44 rule_info rfl (by omega) (by omega) wc _ HB5.out _ _ _ _ rfl HO5.out S9 (1 + (no - J)) c9 _ rfl (by rw [rcs_len, List.length_cons, HLD.out]; omega) HL9b.out (rcs_one _) (by omega) ?_; intro S6 c6 W6 hown6 hc6 hc6' hb6 hg6; have HB6 := Lib.hid hb6; have HO6 := Lib.hid hown6; clear hown6 hb6 hg6))
                have hln : (fitTo nodes l (k + 1)).length = J + (1 + (no - J)) := by rw [HN1.out, List.length_append, List.length_cons, HLT.out, HLD.out]; omega
                refine ⟨⟨k + 1, S6, c6, by omega, by omega, by go_num, by rw [hln], Lib.hid ?_, by rw [hln]; exact hc6, hc6', Lib.hid ?_, Lib.hid ?_⟩, by simp [intOf]; omega⟩
                · have h := Lies.of_own HO6.out
                  rw [← rcs_append, ← rcs_append, List.nil_append] at h
                  rw [HN1.out]
                  exact h
                · exact HBC.out.trans ((HX9.out.trans (HB6.out.mono HX9.out.size)).mono HBC.out.size)
                · exact new_mono (new_of HO6.out) (Nat.le_trans HBC.out.size HX9.out.size)
      · obtain rfl : k = 20 := by omega
        have HFT := Lib.hid (show fitT nodes l = fitTo nodes l 20 from rfl)
        go_wp2_with fail
        go_ret
        exact ⟨S, cS, by rw [HFT.out]; rfl, by rw [HFT.out]; exact HL.out, HB.out, by rw [HFT.out]; exact hc1, hc2, HNW.out⟩
    · obtain rfl : k = l.length := by omega
      have HFT := Lib.hid (show fitT nodes l = fitTo nodes l l.length from fitTo_end hk20)
      go_wp2_with fail
      go_ret
      exact ⟨S, cS, by rw [HFT.out]; rfl, by rw [HFT.out]; exact HL.out, HB.out, by rw [HFT.out]; exact hc1, hc2, HNW.out⟩
end Go.Proofs.YtpjoefekhgmlhaaGreat.Tp

namespace Go.Proofs.YtpjoefekhgmlhaaGreat.Odr

section
variable {P : Program} {ops : Array Oper} {Q : Exit → Act → World → Prop} {md : Region.Mode} {S : World → Prop} {f : Nat}

/-- Whatever order is picked: S holds behind every operation but number f. -/
def wpAnyL (P : Program) (md : Region.Mode) (ops : Array Oper) (Q : Exit → Act → World → Prop) (S : World → Prop) (f : Nat) : Nat → Array Bool → Act → World → Prop
  | 0, listed, a, w => Region.ready md ops listed = [] ∧ Q .normal a w
  | fuel + 1, listed, a, w =>
    (Region.ready md ops listed = [] → Q .normal a w) ∧
    ∀ i ∈ Region.ready md ops listed, wpOp P ops Q i (fun a' w' => (i ≠ f → S w') ∧ wpAnyL P md ops Q S f fuel (listed.setIfInBounds i true) a' w') a w
theorem wpAny_of_L : ∀ (fuel : Nat) (listed : Array Bool) (a : Act) (w : World), wpAnyL P md ops Q S f fuel listed a w → wpAny P md ops Q fuel listed a w
  | 0, _, _, _, h => h
  | fuel + 1, _, _, _, h => ⟨h.1, fun i hi => wpOp_mono (fun a' w' h' => wpAny_of_L fuel _ a' w' h'.2) (h.2 i hi)⟩
theorem wpAnyL_first {i : Nat} {oi : Oper} {v : Value} (hi : ops[i]? = some oi) (hsel : ∀ (j : Nat) (o : Oper) cs b, ops[j]? = some o → o.op ≠ .select cs b)
    (hQ : ∀ c a w, Q (.panic c) (a.put oi.dst v) w → Q (.panic c) a w) (hif : i ≠ f) (hw : ∀ o, ops[f]? = some o → ∃ e ∈ o.after, Region.binds md e = true ∧ e.on = i) :
    ∀ (fuel : Nat) (listed : Array Bool) (a : Act) (w : World),
      (∀ j oj, ops[j]? = some oj → j ≠ i → listed.getD j true = false → (∀ e ∈ oj.after, Region.binds md e = true → e.on ≠ i) → oi.apart ops oj = true) →
      i ∈ Region.ready md ops listed → YieldsIf P ops S oi v a → S w →
      wpAnyL P md ops Q S f fuel (listed.setIfInBounds i true) (a.put oi.dst v) w → wpAnyL P md ops Q S f (fuel + 1) listed a w := by
  intro fuel
  induction fuel with
  | zero =>
    intro listed a w _ hr hy hS H
    refine ⟨fun h => (by rw [h] at hr; cases hr), fun j hj => ?_⟩
    by_cases hji : j = i
    · subst hji; exact hy.wpOp hi hS ⟨fun _ => hS, H⟩
    · have := ready_mono hj hji
      rw [H.1] at this
      cases this
  | succ fuel ih =>
    intro listed a w hfree hr hy hS H
    refine ⟨fun h => (by rw [h] at hr; cases hr), fun j hj => ?_⟩
    by_cases hji : j = i
    · subst hji; exact hy.wpOp hi hS ⟨fun _ => hS, H⟩
    · have h1 := H.2 j (ready_mono hj hji)
      obtain ⟨hjun, oj, hoj, hall⟩ := mem_ready.1 hj
      have hun : ∀ e ∈ oj.after, Region.binds md e = true → e.on ≠ i := fun e he hb heq => by
        have h1 := hall e he hb
        have h0 := (mem_ready.1 hr).1
        rw [heq] at h1
        rcases Nat.lt_or_ge i listed.size with h' | h'
        · simp [h'] at h0 h1; rw [h0] at h1; cases h1
        · simp [Array.getElem?_eq_none h'] at h1
      have hjf : j ≠ f := fun e => by
        subst e
        obtain ⟨x, hx, hb, ho⟩ := hw oj hoj
        exact hun x hx hb ho
      have h2 := wpOp_putIf hoj (hfree j oj hoj hji hjun hun) (fun cs b => hsel i oi cs b hi) (fun cs b => hsel j oj cs b hoj) hQ hy h1
      have hfree' : ∀ k ok, ops[k]? = some ok → k ≠ i → (listed.setIfInBounds j true).getD k true = false →
          (∀ e ∈ ok.after, Region.binds md e = true → e.on ≠ i) → oi.apart ops ok = true := fun k ok hk hki hun hno => by
        refine hfree k ok hk hki ?_ hno
        by_cases hjk : j = k
        · subst hjk; exact hjun
        · rw [getD_set_ne true hjk] at hun; exact hun
      refine wpOp_mono (fun a' w' h3 => ⟨fun _ => h3.2.1 hjf, ih (listed.setIfInBounds j true) a' w' hfree' (ready_mono hr (Ne.symm hji)) h3.1 (h3.2.1 hjf) ?_⟩) h2
      rw [Array.setIfInBounds_comm _ _ hji]
      exact h3.2.2
/-- Does number f wait for number i? -/
def waits (md : Region.Mode) (ops : Array Oper) (f i : Nat) : Bool := match ops[f]? with
  | some o => o.after.any fun e => Region.binds md e && e.on == i
  | none => true
theorem waits_spec {i : Nat} (h : waits md ops f i = true) : ∀ o, ops[f]? = some o → ∃ e ∈ o.after, Region.binds md e = true ∧ e.on = i := fun o ho => by
  unfold waits at h
  rw [ho] at h
  simp only [Array.any_eq_true, Bool.and_eq_true, beq_iff_eq] at h
  obtain ⟨k, hk, h1, h2⟩ := h
  exact ⟨o.after[k], Array.getElem_mem hk, h1, h2⟩
theorem wpAnyL_take {i : Nat} {oi : Oper} {v : Value} {fuel : Nat} {listed : Array Bool} {a : Act} {w : World} (hi : ops[i]? = some oi)
    (hs : Region.noSelect ops = true) (hf : Region.free md ops listed i = true) (hr : (Region.ready md ops listed).contains i = true) (hif : i ≠ f) (hw : waits md ops f i = true)
    (hQ : ∀ c a w, Q (.panic c) (a.put oi.dst v) w → Q (.panic c) a w) (hy : YieldsIf P ops S oi v a) (hS : S w)
    (h : wpAnyL P md ops Q S f fuel (listed.setIfInBounds i true) (a.put oi.dst v) w) : wpAnyL P md ops Q S f (fuel + 1) listed a w :=
  wpAnyL_first hi (Region.noSelect_spec hs) hQ hif (waits_spec hw) fuel listed a w (Region.free_spec hi hf) (by simpa using hr) hy hS h
theorem wpAnyL_done {listed : Array Bool} {a : Act} {w : World} (hr : Region.ready md ops listed = []) (h : Q .normal a w) :
    ∀ fuel, wpAnyL P md ops Q S f fuel listed a w
  | 0 => ⟨hr, h⟩
  | _ + 1 => ⟨fun _ => h, by rw [hr]; simp⟩
/-- Just one operation may come up: it is carried out, S holds behind it. -/
theorem wpAnyL_one {i : Nat} {o : Oper} {fuel : Nat} {listed : Array Bool} {a : Act} {w : World} (hr : Region.ready md ops listed = [i]) (ho : ops[i]? = some o)
    (h : ∀ K' : Act → World → Prop, Shut (∀ a w, (i ≠ f → S w) → (wpAnyL P md ops Q S f fuel (listed.setIfInBounds i true) a w) → K' a w) → if Region.wanted o (yielded ops a.tmps) = true then Oper.wp P o a w K' Q else K' (a.put o.dst undef) w) :
    wpAnyL P md ops Q S f (fuel + 1) listed a w :=
  ⟨fun h0 => (by rw [hr] at h0; cases h0), fun j hj => by
    rw [hr] at hj
    obtain rfl : j = i := by simpa using hj
    exact wpOp_step ho (fun K' hK => h K' (fun a w hS hW => hK a w ⟨hS, hW⟩))⟩
theorem wp_region_L {id : Nat} {a : Act} {w : World} (hm : P.follows .mixedOrders = true)
    (h : wpAnyL P .any ops Q S f ops.size (Array.replicate ops.size false) a w.drew) : (Code.region id ops true).wp P Q a w :=
  wp_region_any hm (wpAny_of_L _ _ _ _ h)
end
end Go.Proofs.YtpjoefekhgmlhaaGreat.Odr
