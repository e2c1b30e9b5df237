/- CONTRACT of theseustop.TopRenamed: it answers true. Conditions: the numbers fit their kinds. -/
import Derived.Test.YtpjoefekhgmlhaaGreatMb43
import Derived.Deep.DeepCutAuto
namespace Go.Proofs.YtpjoefekhgmlhaaGreat.Tp
open Go.RowKit Mem Odr

set_option linter.unusedSimpArgs false in
set_option maxRecDepth 100000 in
set_option maxHeartbeats 8000000 in
theorem toprenamed_any (A : Option Addr) (cA : Nat) (n : List (List RuleZ)) (a : Nat) (w : World) (hA : NetZAt w A n) (hn : ∀ l ∈ n, ∀ r ∈ l, RuleZOk r) (ha : a < 4294967296) :
    Calls Tryz.prog 5 #[.agg #[.slice A n.length cA], .int .u32 (a : Int)] w fun e w' => e = .returned (.bool true) ∧ Below w.heap.size w w' := by
  obtain ⟨W, hW⟩ : ∃ W, W = fitN n := ⟨_, rfl⟩
  have sW : Small W := by rw [hW]; exact small_fit hn
  have sU : Small (renN W) := ren_small sW
  obtain ⟨nA, hnA⟩ : ∃ nA, nA = n.length := ⟨_, rfl⟩
  obtain ⟨nW, hnW⟩ : ∃ nW, nW = W.length := ⟨_, rfl⟩
  obtain ⟨c1v, hc1v⟩ : ∃ c, c = certOf W := ⟨_, rfl⟩
  obtain ⟨c2v, hc2v⟩ : ∃ c, c = certOf (renN W) := ⟨_, rfl⟩
  have hcr := cert_ren sW
  rw [← hc1v, ← hc2v] at hcr
  obtain ⟨hcr1, hcr2, hcr3⟩ := hcr
  have hok1 : CertOk W.length c1v := by rw [hc1v]; exact sW.cert
  have hok2 : CertOk (renN W).length c2v := by rw [hc2v]; exact sU.cert
  obtain ⟨cv, hcv⟩ : ∃ cv, cv = c1v.verdict := ⟨_, rfl⟩
  obtain ⟨cd, hcd⟩ : ∃ cd, cd = c1v.dest := ⟨_, rfl⟩
  have hcv2 : cv = c2v.verdict := hcv.trans hcr1.symm
  have hcd2 : cd = c2v.dest := hcd.trans hcr2.symm
  obtain ⟨np1, hnp1⟩ : ∃ k, k = c1v.parts.length := ⟨_, rfl⟩
  obtain ⟨nt1, hnt1⟩ : ∃ k, k = c1v.trace.length := ⟨_, rfl⟩
  obtain ⟨np2, hnp2⟩ : ∃ k, k = c2v.parts.length := ⟨_, rfl⟩
  obtain ⟨nt2, hnt2⟩ : ∃ k, k = c2v.trace.length := ⟨_, rfl⟩
  have hfW : ∀ w, NetZAt w A n → Calls Tryz.prog 7 #[.agg #[.slice A nA cA]] w (NetZPost w W) := fun w hA => by rw [hnA, hW]; exact nfit_any A cA n w hA hn
  have han1 : ∀ N cN w, NetAt w N W → Calls Tryz.prog 8 #[.agg #[.slice N nW cN]] w (AnPost w c1v) := fun N cN w hN => by rw [hnW, hc1v]; exact sW.anet N cN w hN
  have han2 : ∀ N cN w, NetAt w N (renN W) → Calls Tryz.prog 8 #[.agg #[.slice N nW cN]] w (AnPost w c2v) := fun N cN w hN => by rw [hnW, hc2v, ← renN_len W]; exact sU.anet N cN w hN
  obtain ⟨rb, hrb⟩ : ∃ rb, rb = roundB W a := ⟨_, rfl⟩
  have hrd1 : ∀ (N : Option Addr) (c : Nat) (w : World), NetAt w N W → Calls Tryz.prog 10 #[.agg #[.slice N nW c], .int .u32 (a : Int)] w fun e w' => e = .returned (.bool rb) ∧ Below w.heap.size w w' := fun N c w hN => by rw [hnW, hrb]; exact round_any N c W a w hN sW.ok ha
  have hrd2 : ∀ (N : Option Addr) (c : Nat) (w : World), NetAt w N (renN W) → Calls Tryz.prog 10 #[.agg #[.slice N nW c], .int .u32 (a : Int)] w fun e w' => e = .returned (.bool rb) ∧ Below w.heap.size w w' := fun N c w hN => by rw [hnW, hrb, ← round_ren sW a, ← renN_len W]; exact round_any N c (renN W) a w hN sU.ok ha
  have hvd : (cv = 1 ∧ c1v.dest = 0 ∧ c1v.trace = [] ∧ ∀ N cN v w, NetAt w N W → CertAt w v c1v → Calls Tryz.prog 9 #[.agg #[.slice N nW cN], v] w (NetPost w (1, 0))) ∨ cv = 2 := by
    cases e : loopy W with
    | none =>
      have hc := cert_free e
      refine .inl ⟨by rw [hcv, hc1v, hc], by rw [hc1v, hc], by rw [hc1v, hc], fun N cN v w hN hv => ?_⟩
      have h := sW.check hok1 (by have := sW.few; omega) N cN v w hN hv
      rw [hc1v, free_ans sW e] at h
      rw [hnW]; exact h
    | some i => exact .inr (by rw [hcv, hc1v, cert_loop e])
  have hrk : ∀ p ∈ c2v.parts, p.ranks.length = nW := fun p hp => by
    rw [hnW, ← renN_len W]
    rcases hok2 with ⟨_, h1, _⟩ | ⟨_, h1, _⟩
    · exact h1.len p hp
    · rw [h1] at hp; cases hp
  have hnp2s : np2 ≤ 8193 := by
    rw [hnp2]
    rcases hok2 with ⟨_, h1, _⟩ | ⟨_, h1, _⟩
    · exact h1.meets.few
    · rw [h1]; simp
  have hro : ∀ l ∈ W, ∀ r ∈ l, r.act = 1 → r.next < nW := fun l hl r hr h1 => by
    have := ((sW.ok.table l hl).rule r hr).act
    omega
  have hro2 : ∀ l ∈ W, ∀ r ∈ l, r.act = 1 ∨ r.next = 0 := fun l hl r hr => by
    have := ((sW.ok.table l hl).rule r hr).act
    omega
  have hfew : ∀ l ∈ W, l.length ≤ 4096 := fun l hl => sW.ok.few hl
  have hw8 : nW ≤ 8 := by rw [hnW]; exact sW.few
  have hw0 : 0 < nW := by rw [hnW]; exact sW.some_
  have HFW := Lib.hid hfW
  have HAN1 := Lib.hid han1
  have HAN2 := Lib.hid han2
  have HRD1 := Lib.hid hrd1
  have HRD2 := Lib.hid hrd2
  have HVD := Lib.hid hvd
  have HRK := Lib.hid hrk
  have HRO := Lib.hid hro
  have HFEW := Lib.hid hfew
  have HNA := Lib.hid hA
  have HNW := Lib.hid hnW
  have HCV := Lib.hid hcv
  have HCD := Lib.hid hcd
  have HCV2 := Lib.hid hcv2
  have HCD2 := Lib.hid hcd2
  have HNP1 := Lib.hid hnp1
  have HNT1 := Lib.hid hnt1
  have HNP2 := Lib.hid hnp2
  have HNT2 := Lib.hid hnt2
  have HCR3 := Lib.hid hcr3
  have HSH := Lib.hid shown_true
  rw [← hnA]
  obtain ⟨w1, hw1⟩ : ∃ w1, w1 = w.alloc (.cells #[.slice A nA cA] 24) := ⟨_, rfl⟩
  have b1 : Below w.heap.size w w1 := by rw [hw1]; exact bal _ _
  have r1 : VRow w1 w.heap.size [.slice A nA cA] := by rw [hw1]; exact VRow.new w #[.slice A nA cA] 24
  have HW1 := Lib.hid hw1
  have HR1 := Lib.hid r1
  have HB1 := Lib.hid b1
  clear hw1 b1 r1 hW sW sU hnA hnW hc1v hc2v hcr1 hcr2 hcr3 hok1 hok2 hcv hcd hcv2 hcd2 hnp1 hnt1 hnp2 hnt2 hfW han1 han2 hrb hrd1 hrd2 hvd hrk hro hro2 hfew hA hn
  go_enter Tryz.func5, Tryz.ntmps5
  go_upto_region 1 with fail
  rw [← HW1.out]
  clear HW1
  go_wp2_with fail
  refine (HSH.out w1).mono ?_
  rintro e w3 ⟨rfl, hb3⟩
  have hB3 := HB1.out.trans (hb3.mono HB1.out.size)
  have q1 := ((HR1.out.below hb3 HR1.out.lt).get (i := 0) rfl).1
  have hc1 := HFW.out w3 (HNA.out.below hB3)
  have HC1 := Lib.hid hc1
  have HB3 := Lib.hid hB3
  clear hb3 hB3 hc1 HFW HNA HSH HB1 HR1
  go_wp2_with fail
  refine (HC1.out).mono ?_
  rintro e w4 ⟨N1, c1, rfl, hN1, hb4, hc1a, hc1b⟩
  rw [← HNW.out] at hc1a ⊢
  obtain ⟨w5, hw5⟩ : ∃ w5, w5 = w4.alloc (.cells #[.slice N1 nW c1] 24) := ⟨_, rfl⟩
  have b5 : Below w4.heap.size w4 w5 := by rw [hw5]; exact bal _ _
  have s5 : w5.heap.size = w4.heap.size + 1 := by rw [hw5]; simp
  have hr6 : VRow w5 w4.heap.size [.slice N1 nW c1] := by rw [hw5]; exact VRow.new w4 #[.slice N1 nW c1] _
  have hmk := run_make_row' (P := Tryz.prog) 22 44 (.slice none 0 0) 24 Tryz.underlying22 rrows_info rfl .i64 .i64 nW (by omega) (by omega)
  obtain ⟨mk, hmkd⟩ : ∃ mk, mk = Obj.cells (madeCells #[.slice none 0 0] nW) 44 := ⟨_, rfl⟩
  have hrow := VRow.made w5 (.slice none 0 0) nW 44
  rw [← hmkd] at hmk hrow
  obtain ⟨w6, hw6⟩ : ∃ w6, w6 = w5.alloc mk := ⟨_, rfl⟩
  have b6 : Below w5.heap.size w5 w6 := by rw [hw6]; exact bal _ _
  have s6 : w6.heap.size = w5.heap.size + 1 := by rw [hw6]; simp
  rw [← hw6] at hrow
  obtain ⟨w7, hw7⟩ : ∃ w7, w7 = w6.alloc (.cells #[.slice (some ⟨w5.heap.size, 0, none⟩) nW nW] 24) := ⟨_, rfl⟩
  have b7 : Below w6.heap.size w6 w7 := by rw [hw7]; exact bal _ _
  have s7 : w7.heap.size = w6.heap.size + 1 := by rw [hw7]; simp
  have hr8 : VRow w7 (w5.heap.size + 1) [.slice (some ⟨w5.heap.size, 0, none⟩) nW nW] := by rw [hw7, ← s6]; exact VRow.new w6 #[.slice (some ⟨w5.heap.size, 0, none⟩) nW nW] _
  have b57 := b6.trans (b7.mono b6.size)
  have b47 := b5.trans (b57.mono b5.size)
  have hr6' := hr6.below b57 hr6.lt
  have hot : OutSt w4.heap.size w7 w7 w5.heap.size nW W 0 (List.replicate nW (.slice none 0 0)) := ⟨by simp, hrow.below b7 hrow.lt, fun u hu => absurd hu (by omega), fun u _ hu => by rw [List.getElem?_replicate, if_pos (by omega)], fun _ _ _ => rfl, Below.refl _ _, by omega, by omega⟩
  have q6 := (hr6.get (i := 0) rfl).1
  rw [hw5] at q6 hw6
  rw [s5] at hw7
  rw [hw6] at hw7
  have hz5 : w4.heap.size < w5.heap.size := by omega
  have hz7 : w5.heap.size + 1 < w7.heap.size := by omega
  obtain ⟨g0, hg0⟩ : ∃ g0, g0 = w5.heap.size := ⟨_, rfl⟩
  rw [← hg0] at hr8 hot hz5 hz7
  have HG0 := Lib.hid (hg0.trans s5)
  have HW7 := Lib.hid hw7
  have HR6 := Lib.hid hr6'
  have HR8 := Lib.hid hr8
  have HOT := Lib.hid hot
  have HN1 := Lib.hid hN1
  have HB47 := Lib.hid b47
  have HB4 := Lib.hid (HB3.out.trans (hb4.mono HB3.out.size))
  have hsz4 : w.heap.size ≤ w4.heap.size := Nat.le_trans HB3.out.size hb4.size
  clear hg0 hb4 hN1 hw5 b5 hr6 hrow hw6 b6 hw7 b7 hr8 b57 b47 hr6' hot hmkd q1 HB3 HC1 s6 s7
  go_wp2_with fail
  rw [← HW7.out]
  rw [← HG0.out]
  clear hmk HW7 s5 q6
  go_loopw [9] (fun s9 wr => ∃ (v : Nat) (vs : List Value), v ≤ nW ∧ s9 = .int .i64 (v : Int) ∧ Hid (OutSt w4.heap.size w7 wr g0 nW W v vs)) (fun s9 _ => nW - (intOf s9).toNat)
  case atStart => exact ⟨0, _, by omega, rfl, HOT⟩
  case round =>
    clear HOT
    obtain ⟨wo, rfl⟩ : ∃ wo : World, wo = wr := ⟨_, rfl⟩
    obtain ⟨v, vs, hv, rfl, HO⟩ := hrel
    by_cases hlt : v < nW
    · have hv' : v < W.length := by have := HNW.out; omega
      have hge : W.getD v [] = W[v] := getD_lt hv'
      have hmem : W[v] ∈ W := List.getElem_mem hv'
      obtain ⟨b, off, B, cB, hAe, hbb, hc0, hl0, hcb1, hcb2⟩ := NetAt.at_ HN1.out hv'
      rw [← hge] at hc0 hl0 hmem
      obtain ⟨L, hL⟩ : ∃ L, L = W.getD v [] := ⟨_, rfl⟩
      rw [← hL] at hc0 hl0 hmem
      obtain ⟨nL, hnL⟩ : ∃ nL, nL = L.length := ⟨_, rfl⟩
      rw [← hnL] at hc0
      have hnl := HFEW.out L hmem
      have hros := HRO.out L hmem
      rw [← hnL] at hnl
      have hpz : (nW : Int) - 1 - (v : Int) = ((nW - 1 - v : Nat) : Int) := by omega
      obtain ⟨pv, hpv⟩ : ∃ pv, pv = nW - 1 - v := ⟨_, rfl⟩
      rw [← hpv] at hpz
      have hpl : pv < nW := by omega
      have hwr1 : IntKind.i64.wrap ((nW : Int) - 1) = (nW : Int) - 1 := IntWalk.i64_in _ (by omega)
      have hwr2 : IntKind.i64.wrap (pv : Int) = (pv : Int) := IntWalk.i64_in _ (by omega)
      have HPV := Lib.hid hpv
      have HL := Lib.hid hL
      have HNL := Lib.hid hnL
      have HROS := Lib.hid hros
      have HLR := Lib.hid hl0
      have HC0 := Lib.hid hc0
      have q6 := ((HR6.out.keep HO.out.bel.size (HO.out.far _ HR6.out.lt (by omega))).get (i := 0) rfl).1
      have HBG := Lib.hid (HO.out.begin hlt)
      subst hAe
      clear hge hmem hc0 hl0 hL hnL hros hpv
      go_wp2_with fail
      go_loopw [10] (fun s10 wr => ∃ (i : Nat) (S : Option Addr) (cS : Nat) (vs : List Value), i ≤ nL ∧ s10 = .int .i64 (i : Int) ∧ Hid (RenSt w4.heap.size w7 wr g0 nW W v i S cS vs)) (fun s10 _ => nL - (intOf s10).toNat)
      case atStart => exact ⟨0, none, 0, vs, by omega, rfl, HBG⟩
      case round =>
        clear HBG HO q6
        obtain ⟨wi, rfl⟩ : ∃ wi : World, wi = wr := ⟨_, rfl⟩
        obtain ⟨i, S, cS, vs, hi, rfl, HX⟩ := hrel
        have q6 := ((HR6.out.keep HX.out.bel.size (HX.out.far _ HR6.out.lt (by omega))).get (i := 0) rfl).1
        have hbel : Below w4.heap.size w4 wi := HB47.out.trans HX.out.bel
        have hd := (hbel.cell (p := ⟨b, off + v, none⟩) hbb).trans HC0.out
        by_cases hil : i < nL
        · have hil' : i < L.length := by have := HNL.out; omega
          obtain ⟨b2, off2, hBe, hb2, hc_0, hc_1, hc_2, hc_3⟩ := RulesAt.at_ HLR.out hil'
          have hd0 := (hbel.cell (p := ⟨b2, off2 + i * 4, none⟩) hb2).trans hc_0
          have hd1 := (hbel.cell (p := ⟨b2, off2 + i * 4 + 1, none⟩) hb2).trans hc_1
          have hd2 := (hbel.cell (p := ⟨b2, off2 + i * 4 + 2, none⟩) hb2).trans hc_2
          have hd3 := (hbel.cell (p := ⟨b2, off2 + i * 4 + 3, none⟩) hb2).trans hc_3
          have hros := HROS.out _ (List.getElem_mem hil')
          obtain ⟨r, hr⟩ : ∃ r, r = L[i] := ⟨_, rfl⟩
          rw [← hr] at hd0 hd1 hd2 hd3 hros
          obtain ⟨ra, rl, rt, rn⟩ := r
          simp only at hd0 hd1 hd2 hd3 hros
          have HRI := Lib.hid hr
          subst hBe
          clear hc_0 hc_1 hc_2 hc_3 hr
          by_cases hact : rt = 1
          · have hrn := hros hact
            subst hact
            have hREN : renR nW ((W.getD v [])[i]'(by rw [← HL.out, ← HNL.out]; exact hil)) = ⟨ra, rl, 1, nW - 1 - rn⟩ := by
              have h1 := HRI.out
              have h2 := HL.out
              subst h2
              rw [← h1]
              unfold renR
              rw [if_pos rfl]
            have HREN := Lib.hid hREN
            have hsub : (nW : Int) - 1 - (rn : Int) = ((nW - 1 - rn : Nat) : Int) := by omega
            obtain ⟨rx, hrx⟩ : ∃ rx, rx = nW - 1 - rn := ⟨_, rfl⟩
            rw [← hrx] at hsub hREN
            have HREN := Lib.hid hREN
            obtain ⟨wz, hwz⟩ : ∃ wz, wz = wi.alloc (.cells #[.int .u32 (ra : Int), .int .i64 (rl : Int), .int .i64 1, .int .i64 (rx : Int)] 43) := ⟨_, rfl⟩
            have hbz : Below wi.heap.size wi wz := by rw [hwz]; exact bal _ _
            have hyz : VRow wz wi.heap.size [.int .u32 (ra : Int), .int .i64 (rl : Int), .int .i64 1, .int .i64 (rx : Int)] := by
              rw [hwz]
              exact VRow.new wi #[.int .u32 (ra : Int), .int .i64 (rl : Int), .int .i64 1, .int .i64 (rx : Int)] 43
            have hnS : ob S ≠ some wi.heap.size := fun e => by have := (HX.out.own.lt _ (by rw [ob_eq]; exact e)).2; omega
            have HWZ := Lib.hid hwz
            have HY := Lib.hid hyz
            have HZ := Lib.hid (HX.out.below hbz)
            clear hREN hwz hbz hyz hrx hrn hros
            go_upto_region 14 with fail
            rw [← HWZ.out]
            refine wp_region_L (S := fun W => W.cell? ⟨g0 + 1, 0, none⟩ = some (.slice (some ⟨g0, 0, none⟩) nW nW) ∧ W.cell? ⟨g0, pv, none⟩ = some (.slice S i cS) ∧ W.cell? ⟨wi.heap.size, 0, none⟩ = some (.int .u32 (ra : Int)) ∧ W.cell? ⟨wi.heap.size, 1, none⟩ = some (.int .i64 (rl : Int)) ∧ W.cell? ⟨wi.heap.size, 2, none⟩ = some (.int .i64 1) ∧ W.cell? ⟨wi.heap.size, 3, none⟩ = some (.int .i64 (rx : Int))) (f := 18) (by kernel_rfl) ?_
            have hk8 : wz.cell? ⟨g0 + 1, 0, none⟩ = some (.slice (some ⟨g0, 0, none⟩) nW nW) := ((HR8.out.keep HZ.out.bel.size (HZ.out.far _ HR8.out.lt (by omega))).get (i := 0) rfl).1
            have hcg : ∀ W vs', VRow W g0 vs' → vs'[nW - 1 - v]? = some (.slice S i cS) → W.cell? ⟨g0, pv, none⟩ = some (.slice S i cS) := fun W vs' h1 h2 => by rw [HPV.out]; exact (h1.get h2).1
            have hSq : (fun W : World => W.cell? ⟨g0 + 1, 0, none⟩ = some (.slice (some ⟨g0, 0, none⟩) nW nW) ∧ W.cell? ⟨g0, pv, none⟩ = some (.slice S i cS) ∧ W.cell? ⟨wi.heap.size, 0, none⟩ = some (.int .u32 (ra : Int)) ∧ W.cell? ⟨wi.heap.size, 1, none⟩ = some (.int .i64 (rl : Int)) ∧ W.cell? ⟨wi.heap.size, 2, none⟩ = some (.int .i64 1) ∧ W.cell? ⟨wi.heap.size, 3, none⟩ = some (.int .i64 (rx : Int))) wz.drew := ⟨hk8, hcg _ _ (VRow.drew HZ.out.row) HZ.out.cur, (HY.out.get (i := 0) rfl).1, (HY.out.get (i := 1) rfl).1, (HY.out.get (i := 2) rfl).1, (HY.out.get (i := 3) rfl).1⟩
            clear hk8
            refine wpAnyL_take (i := 0) (v := (.pointer (some ⟨g0 + 1, 0, none⟩))) rfl (by kernel_rfl) (by kernel_rfl) (by kernel_rfl) (by omega) (by kernel_rfl) (fun _ _ _ h => h) (Or.inl ⟨by rfl, fun w hSw => by (try dsimp only at hSw); go_simp⟩) (by assumption) ?_
            try simp only [Act.put, List.setIfInBounds_toArray, List.set_cons_zero, List.set_cons_succ]
            refine wpAnyL_take (i := 1) (v := (.slice (some ⟨g0, 0, none⟩) nW nW)) rfl (by kernel_rfl) (by kernel_rfl) (by kernel_rfl) (by omega) (by kernel_rfl) (fun _ _ _ h => h) (Or.inl ⟨by rfl, fun w hSw => by (try dsimp only at hSw); go_simp⟩) (by assumption) ?_
            try simp only [Act.put, List.setIfInBounds_toArray, List.set_cons_zero, List.set_cons_succ]
            refine wpAnyL_take (i := 2) (v := (.int .i64 (nW : Int))) rfl (by kernel_rfl) (by kernel_rfl) (by kernel_rfl) (by omega) (by kernel_rfl) (fun _ _ _ h => h) (Or.inl ⟨by rfl, fun w hSw => by (try dsimp only at hSw); go_simp⟩) (by assumption) ?_
            try simp only [Act.put, List.setIfInBounds_toArray, List.set_cons_zero, List.set_cons_succ]
            refine wpAnyL_take (i := 3) (v := (.int .i64 ((nW : Int) - 1))) rfl (by kernel_rfl) (by kernel_rfl) (by kernel_rfl) (by omega) (by kernel_rfl) (fun _ _ _ h => h) (Or.inl ⟨by rfl, fun w hSw => by (try dsimp only at hSw); go_simp⟩) (by assumption) ?_
            try simp only [Act.put, List.setIfInBounds_toArray, List.set_cons_zero, List.set_cons_succ]
            refine wpAnyL_take (i := 4) (v := (.int .i64 (v : Int))) rfl (by kernel_rfl) (by kernel_rfl) (by kernel_rfl) (by omega) (by kernel_rfl) (fun _ _ _ h => h) (Or.inl ⟨by rfl, fun w hSw => by (try dsimp only at hSw); go_simp⟩) (by assumption) ?_
            try simp only [Act.put, List.setIfInBounds_toArray, List.set_cons_zero, List.set_cons_succ]
            refine wpAnyL_take (i := 5) (v := (.int .i64 (pv : Int))) rfl (by kernel_rfl) (by kernel_rfl) (by kernel_rfl) (by omega) (by kernel_rfl) (fun _ _ _ h => h) (Or.inl ⟨by rfl, fun w hSw => by (try dsimp only at hSw); go_simp⟩) (by assumption) ?_
            try simp only [Act.put, List.setIfInBounds_toArray, List.set_cons_zero, List.set_cons_succ]
            refine wpAnyL_take (i := 6) (v := (.pointer (some ⟨g0 + 1, 0, none⟩))) rfl (by kernel_rfl) (by kernel_rfl) (by kernel_rfl) (by omega) (by kernel_rfl) (fun _ _ _ h => h) (Or.inl ⟨by rfl, fun w hSw => by (try dsimp only at hSw); go_simp⟩) (by assumption) ?_
            try simp only [Act.put, List.setIfInBounds_toArray, List.set_cons_zero, List.set_cons_succ]
            refine wpAnyL_take (i := 7) (v := (.slice (some ⟨g0, 0, none⟩) nW nW)) rfl (by kernel_rfl) (by kernel_rfl) (by kernel_rfl) (by omega) (by kernel_rfl) (fun _ _ _ h => h) (Or.inl ⟨by rfl, fun w hSw => by (try dsimp only at hSw); go_simp⟩) (by assumption) ?_
            try simp only [Act.put, List.setIfInBounds_toArray, List.set_cons_zero, List.set_cons_succ]
            refine wpAnyL_take (i := 8) (v := (.int .i64 (nW : Int))) rfl (by kernel_rfl) (by kernel_rfl) (by kernel_rfl) (by omega) (by kernel_rfl) (fun _ _ _ h => h) (Or.inl ⟨by rfl, fun w hSw => by (try dsimp only at hSw); go_simp⟩) (by assumption) ?_
            try simp only [Act.put, List.setIfInBounds_toArray, List.set_cons_zero, List.set_cons_succ]
            refine wpAnyL_take (i := 9) (v := (.int .i64 ((nW : Int) - 1))) rfl (by kernel_rfl) (by kernel_rfl) (by kernel_rfl) (by omega) (by kernel_rfl) (fun _ _ _ h => h) (Or.inl ⟨by rfl, fun w hSw => by (try dsimp only at hSw); go_simp⟩) (by assumption) ?_
            try simp only [Act.put, List.setIfInBounds_toArray, List.set_cons_zero, List.set_cons_succ]
            refine wpAnyL_take (i := 10) (v := (.int .i64 (v : Int))) rfl (by kernel_rfl) (by kernel_rfl) (by kernel_rfl) (by omega) (by kernel_rfl) (fun _ _ _ h => h) (Or.inl ⟨by rfl, fun w hSw => by (try dsimp only at hSw); go_simp⟩) (by assumption) ?_
            try simp only [Act.put, List.setIfInBounds_toArray, List.set_cons_zero, List.set_cons_succ]
            refine wpAnyL_take (i := 11) (v := (.int .i64 (pv : Int))) rfl (by kernel_rfl) (by kernel_rfl) (by kernel_rfl) (by omega) (by kernel_rfl) (fun _ _ _ h => h) (Or.inl ⟨by rfl, fun w hSw => by (try dsimp only at hSw); go_simp⟩) (by assumption) ?_
            try simp only [Act.put, List.setIfInBounds_toArray, List.set_cons_zero, List.set_cons_succ]
            refine wpAnyL_take (i := 12) (v := (.pointer (some ⟨g0, pv, none⟩))) rfl (by kernel_rfl) (by kernel_rfl) (by kernel_rfl) (by omega) (by kernel_rfl) (fun _ _ _ h => h) (Or.inl ⟨by rfl, fun w hSw => by (try dsimp only at hSw); go_simp⟩) (by assumption) ?_
            try simp only [Act.put, List.setIfInBounds_toArray, List.set_cons_zero, List.set_cons_succ]
            refine wpAnyL_take (i := 13) (v := (.slice S i cS)) rfl (by kernel_rfl) (by kernel_rfl) (by kernel_rfl) (by omega) (by kernel_rfl) (fun _ _ _ h => h) (Or.inl ⟨by rfl, fun w hSw => by (try dsimp only at hSw); go_simp⟩) (by assumption) ?_
            try simp only [Act.put, List.setIfInBounds_toArray, List.set_cons_zero, List.set_cons_succ]
            refine wpAnyL_take (i := 14) (v := (.agg #[.int .u32 (ra : Int), .int .i64 (rl : Int), .int .i64 1, .int .i64 (rx : Int)])) rfl (by kernel_rfl) (by kernel_rfl) (by kernel_rfl) (by omega) (by kernel_rfl) (fun _ _ _ h => h) (Or.inl ⟨by rfl, fun w hSw => by (try dsimp only at hSw); go_simp⟩) (by assumption) ?_
            try simp only [Act.put, List.setIfInBounds_toArray, List.set_cons_zero, List.set_cons_succ]
            refine wpAnyL_one (i := 15) (by kernel_rfl) rfl fun K hK => ?_
            go_simp
            have hal := bal wz.drew (.cells #[.int .u32 (ra : Int), .int .i64 (rl : Int), .int .i64 1, .int .i64 (rx : Int)] 43)
            have hza := HZ.out.below (below_drew' hal)
            have hya := HY.out.below (below_drew' hal) HY.out.lt
            have hxa := VRow.new wz.drew #[.int .u32 (ra : Int), .int .i64 (rl : Int), .int .i64 1, .int .i64 (rx : Int)] 43
            have hka := (HR8.out.keep hza.bel.size (hza.far _ HR8.out.lt (by omega)))
            have HZA := Lib.hid hza
            have HXA := Lib.hid hxa.lies
            refine hK.out _ _ (fun _ => ⟨(hka.get (i := 0) rfl).1, hcg _ _ hza.row hza.cur, (hya.get (i := 0) rfl).1, (hya.get (i := 1) rfl).1, (hya.get (i := 2) rfl).1, (hya.get (i := 3) rfl).1⟩) ?_
            clear hK K hal hza hya hxa hka
            try simp only [Act.put, List.setIfInBounds_toArray, List.set_cons_zero, List.set_cons_succ]
            refine wpAnyL_one (i := 16) (by kernel_rfl) rfl fun K hK => ?_
            refine step_appB rfl (.tmp 74) (.tmp 76) 44 rfl Tryz.underlying44 rule_info rfl (by omega) (by omega) w7.heap.size _ HZA.out.bel.size S i cS _ (by simp [Act.eval]) HZA.out.own (some ⟨wz.heap.size, 0, none⟩) 1 1 (rcs [⟨ra, rl, 1, rx⟩]) (by simp [Act.eval]) rfl HXA.out (rcs_one _) (by omega) ?_
            intro S6 c6 w6' hO6 hc6 hc6' hg6 hat6
            rw [ob_eq, ob_eq] at hat6
            rw [ob_eq] at hg6
            have hst := HZA.out.step (S6 := S6) (c6 := c6) (w6 := w6') hlt (by rw [← HL.out, ← HNL.out]; exact hil) (by rw [HREN.out]; exact hO6) hg6 hat6
            rw [← HPV.out] at hst
            have ho5 : ∀ q, ob S = some q → w7.heap.size ≤ q := fun q e => (HZA.out.own.lt q (by rw [ob_eq]; exact e)).1
            have hrg6 := HZA.out.row.keep hg6.size (hg6.block _ HZA.out.row.lt (fun e => by have := ho5 _ e.symm; omega))
            have hcc6 := hcg _ _ hrg6 HZA.out.cur
            have hff6 : w6'.frozen? ⟨g0, pv, none⟩ = false := by rw [HPV.out]; exact (hrg6.get HZA.out.cur).2
            have hya := HY.out.below (below_drew' (bal wz.drew (.cells #[.int .u32 (ra : Int), .int .i64 (rl : Int), .int .i64 1, .int .i64 (rx : Int)] 43))) HY.out.lt
            have hna : ob S ≠ some wi.heap.size := fun e => hnS (by rw [e])
            have hy6 := hya.keep hg6.size (hg6.block _ hya.lt (fun e => hna e.symm))
            have hka := (HR8.out.keep HZA.out.bel.size (HZA.out.far _ HR8.out.lt (by omega)))
            have hk6 := hka.keep hg6.size (hg6.block _ hka.lt (fun e => by have := ho5 _ e.symm; omega))
            have HST := Lib.hid hst
            have hS6 : (fun W : World => W.cell? ⟨g0 + 1, 0, none⟩ = some (.slice (some ⟨g0, 0, none⟩) nW nW) ∧ W.cell? ⟨g0, pv, none⟩ = some (.slice S i cS) ∧ W.cell? ⟨wi.heap.size, 0, none⟩ = some (.int .u32 (ra : Int)) ∧ W.cell? ⟨wi.heap.size, 1, none⟩ = some (.int .i64 (rl : Int)) ∧ W.cell? ⟨wi.heap.size, 2, none⟩ = some (.int .i64 1) ∧ W.cell? ⟨wi.heap.size, 3, none⟩ = some (.int .i64 (rx : Int))) w6' := ⟨(hk6.get (i := 0) rfl).1, hcc6, (hy6.get (i := 0) rfl).1, (hy6.get (i := 1) rfl).1, (hy6.get (i := 2) rfl).1, (hy6.get (i := 3) rfl).1⟩
            have HS6 := Lib.hid hS6
            refine hK.out _ _ (fun _ => HS6.out) ?_
            clear hK K hst hO6 hg6 hat6 ho5 hrg6 hya hna hy6 hka hk6 hS6 hcg
            try simp only [Act.put, List.setIfInBounds_toArray, List.set_cons_zero, List.set_cons_succ]
            refine wpAnyL_one (i := 17) (by kernel_rfl) rfl fun K hK => ?_
            go_simp
            refine hK.out _ _ (fun _ => HS6.out) ?_
            clear hK K
            try simp only [Act.put, List.setIfInBounds_toArray, List.set_cons_zero, List.set_cons_succ]
            refine wpAnyL_one (i := 18) (by kernel_rfl) rfl fun K hK => ?_
            go_simp
            refine hK.out _ _ (fun h9 => absurd rfl h9) ?_
            clear hK K
            try simp only [Act.put, List.setIfInBounds_toArray, List.set_cons_zero, List.set_cons_succ]
            refine wpAnyL_done (by kernel_rfl) ?_ _
            go_wp2_with fail
            exact ⟨⟨i + 1, S6, c6, _, by omega, by go_num, HST⟩, by simp [intOf]; omega⟩
          · have hrt : ¬ (rt : Int) = 1 := by omega
            have hREN : renR nW ((W.getD v [])[i]'(by rw [← HL.out, ← HNL.out]; exact hil)) = ⟨ra, rl, rt, rn⟩ := by
              have h1 := HRI.out
              have h2 := HL.out
              subst h2
              rw [← h1]
              unfold renR
              simp [hact]
            have HREN := Lib.hid hREN
            obtain ⟨wz, hwz⟩ : ∃ wz, wz = wi.alloc (.cells #[.int .u32 (ra : Int), .int .i64 (rl : Int), .int .i64 (rt : Int), .int .i64 (rn : Int)] 43) := ⟨_, rfl⟩
            have hbz : Below wi.heap.size wi wz := by rw [hwz]; exact bal _ _
            have hyz : VRow wz wi.heap.size [.int .u32 (ra : Int), .int .i64 (rl : Int), .int .i64 (rt : Int), .int .i64 (rn : Int)] := by
              rw [hwz]
              exact VRow.new wi #[.int .u32 (ra : Int), .int .i64 (rl : Int), .int .i64 (rt : Int), .int .i64 (rn : Int)] 43
            have hnS : ob S ≠ some wi.heap.size := fun e => by have := (HX.out.own.lt _ (by rw [ob_eq]; exact e)).2; omega
            have HWZ := Lib.hid hwz
            have HY := Lib.hid hyz
            have HZ := Lib.hid (HX.out.below hbz)
            clear hREN hwz hbz hyz hact hros
            go_upto_region 14 with fail
            rw [← HWZ.out]
            refine wp_region_L (S := fun W => W.cell? ⟨g0 + 1, 0, none⟩ = some (.slice (some ⟨g0, 0, none⟩) nW nW) ∧ W.cell? ⟨g0, pv, none⟩ = some (.slice S i cS) ∧ W.cell? ⟨wi.heap.size, 0, none⟩ = some (.int .u32 (ra : Int)) ∧ W.cell? ⟨wi.heap.size, 1, none⟩ = some (.int .i64 (rl : Int)) ∧ W.cell? ⟨wi.heap.size, 2, none⟩ = some (.int .i64 (rt : Int)) ∧ W.cell? ⟨wi.heap.size, 3, none⟩ = some (.int .i64 (rn : Int))) (f := 18) (by kernel_rfl) ?_
            have hk8 : wz.cell? ⟨g0 + 1, 0, none⟩ = some (.slice (some ⟨g0, 0, none⟩) nW nW) := ((HR8.out.keep HZ.out.bel.size (HZ.out.far _ HR8.out.lt (by omega))).get (i := 0) rfl).1
            have hcg : ∀ W vs', VRow W g0 vs' → vs'[nW - 1 - v]? = some (.slice S i cS) → W.cell? ⟨g0, pv, none⟩ = some (.slice S i cS) := fun W vs' h1 h2 => by rw [HPV.out]; exact (h1.get h2).1
            have hSq : (fun W : World => W.cell? ⟨g0 + 1, 0, none⟩ = some (.slice (some ⟨g0, 0, none⟩) nW nW) ∧ W.cell? ⟨g0, pv, none⟩ = some (.slice S i cS) ∧ W.cell? ⟨wi.heap.size, 0, none⟩ = some (.int .u32 (ra : Int)) ∧ W.cell? ⟨wi.heap.size, 1, none⟩ = some (.int .i64 (rl : Int)) ∧ W.cell? ⟨wi.heap.size, 2, none⟩ = some (.int .i64 (rt : Int)) ∧ W.cell? ⟨wi.heap.size, 3, none⟩ = some (.int .i64 (rn : Int))) wz.drew := ⟨hk8, hcg _ _ (VRow.drew HZ.out.row) HZ.out.cur, (HY.out.get (i := 0) rfl).1, (HY.out.get (i := 1) rfl).1, (HY.out.get (i := 2) rfl).1, (HY.out.get (i := 3) rfl).1⟩
            clear hk8
            refine wpAnyL_take (i := 0) (v := (.pointer (some ⟨g0 + 1, 0, none⟩))) rfl (by kernel_rfl) (by kernel_rfl) (by kernel_rfl) (by omega) (by kernel_rfl) (fun _ _ _ h => h) (Or.inl ⟨by rfl, fun w hSw => by (try dsimp only at hSw); go_simp⟩) (by assumption) ?_
            try simp only [Act.put, List.setIfInBounds_toArray, List.set_cons_zero, List.set_cons_succ]
            refine wpAnyL_take (i := 1) (v := (.slice (some ⟨g0, 0, none⟩) nW nW)) rfl (by kernel_rfl) (by kernel_rfl) (by kernel_rfl) (by omega) (by kernel_rfl) (fun _ _ _ h => h) (Or.inl ⟨by rfl, fun w hSw => by (try dsimp only at hSw); go_simp⟩) (by assumption) ?_
            try simp only [Act.put, List.setIfInBounds_toArray, List.set_cons_zero, List.set_cons_succ]
            refine wpAnyL_take (i := 2) (v := (.int .i64 (nW : Int))) rfl (by kernel_rfl) (by kernel_rfl) (by kernel_rfl) (by omega) (by kernel_rfl) (fun _ _ _ h => h) (Or.inl ⟨by rfl, fun w hSw => by (try dsimp only at hSw); go_simp⟩) (by assumption) ?_
            try simp only [Act.put, List.setIfInBounds_toArray, List.set_cons_zero, List.set_cons_succ]
            refine wpAnyL_take (i := 3) (v := (.int .i64 ((nW : Int) - 1))) rfl (by kernel_rfl) (by kernel_rfl) (by kernel_rfl) (by omega) (by kernel_rfl) (fun _ _ _ h => h) (Or.inl ⟨by rfl, fun w hSw => by (try dsimp only at hSw); go_simp⟩) (by assumption) ?_
            try simp only [Act.put, List.setIfInBounds_toArray, List.set_cons_zero, List.set_cons_succ]
            refine wpAnyL_take (i := 4) (v := (.int .i64 (v : Int))) rfl (by kernel_rfl) (by kernel_rfl) (by kernel_rfl) (by omega) (by kernel_rfl) (fun _ _ _ h => h) (Or.inl ⟨by rfl, fun w hSw => by (try dsimp only at hSw); go_simp⟩) (by assumption) ?_
            try simp only [Act.put, List.setIfInBounds_toArray, List.set_cons_zero, List.set_cons_succ]
            refine wpAnyL_take (i := 5) (v := (.int .i64 (pv : Int))) rfl (by kernel_rfl) (by kernel_rfl) (by kernel_rfl) (by omega) (by kernel_rfl) (fun _ _ _ h => h) (Or.inl ⟨by rfl, fun w hSw => by (try dsimp only at hSw); go_simp⟩) (by assumption) ?_
            try simp only [Act.put, List.setIfInBounds_toArray, List.set_cons_zero, List.set_cons_succ]
            refine wpAnyL_take (i := 6) (v := (.pointer (some ⟨g0 + 1, 0, none⟩))) rfl (by kernel_rfl) (by kernel_rfl) (by kernel_rfl) (by omega) (by kernel_rfl) (fun _ _ _ h => h) (Or.inl ⟨by rfl, fun w hSw => by (try dsimp only at hSw); go_simp⟩) (by assumption) ?_
            try simp only [Act.put, List.setIfInBounds_toArray, List.set_cons_zero, List.set_cons_succ]
            refine wpAnyL_take (i := 7) (v := (.slice (some ⟨g0, 0, none⟩) nW nW)) rfl (by kernel_rfl) (by kernel_rfl) (by kernel_rfl) (by omega) (by kernel_rfl) (fun _ _ _ h => h) (Or.inl ⟨by rfl, fun w hSw => by (try dsimp only at hSw); go_simp⟩) (by assumption) ?_
            try simp only [Act.put, List.setIfInBounds_toArray, List.set_cons_zero, List.set_cons_succ]
            refine wpAnyL_take (i := 8) (v := (.int .i64 (nW : Int))) rfl (by kernel_rfl) (by kernel_rfl) (by kernel_rfl) (by omega) (by kernel_rfl) (fun _ _ _ h => h) (Or.inl ⟨by rfl, fun w hSw => by (try dsimp only at hSw); go_simp⟩) (by assumption) ?_
            try simp only [Act.put, List.setIfInBounds_toArray, List.set_cons_zero, List.set_cons_succ]
            refine wpAnyL_take (i := 9) (v := (.int .i64 ((nW : Int) - 1))) rfl (by kernel_rfl) (by kernel_rfl) (by kernel_rfl) (by omega) (by kernel_rfl) (fun _ _ _ h => h) (Or.inl ⟨by rfl, fun w hSw => by (try dsimp only at hSw); go_simp⟩) (by assumption) ?_
            try simp only [Act.put, List.setIfInBounds_toArray, List.set_cons_zero, List.set_cons_succ]
            refine wpAnyL_take (i := 10) (v := (.int .i64 (v : Int))) rfl (by kernel_rfl) (by kernel_rfl) (by kernel_rfl) (by omega) (by kernel_rfl) (fun _ _ _ h => h) (Or.inl ⟨by rfl, fun w hSw => by (try dsimp only at hSw); go_simp⟩) (by assumption) ?_
            try simp only [Act.put, List.setIfInBounds_toArray, List.set_cons_zero, List.set_cons_succ]
            refine wpAnyL_take (i := 11) (v := (.int .i64 (pv : Int))) rfl (by kernel_rfl) (by kernel_rfl) (by kernel_rfl) (by omega) (by kernel_rfl) (fun _ _ _ h => h) (Or.inl ⟨by rfl, fun w hSw => by (try dsimp only at hSw); go_simp⟩) (by assumption) ?_
            try simp only [Act.put, List.setIfInBounds_toArray, List.set_cons_zero, List.set_cons_succ]
            refine wpAnyL_take (i := 12) (v := (.pointer (some ⟨g0, pv, none⟩))) rfl (by kernel_rfl) (by kernel_rfl) (by kernel_rfl) (by omega) (by kernel_rfl) (fun _ _ _ h => h) (Or.inl ⟨by rfl, fun w hSw => by (try dsimp only at hSw); go_simp⟩) (by assumption) ?_
            try simp only [Act.put, List.setIfInBounds_toArray, List.set_cons_zero, List.set_cons_succ]
            refine wpAnyL_take (i := 13) (v := (.slice S i cS)) rfl (by kernel_rfl) (by kernel_rfl) (by kernel_rfl) (by omega) (by kernel_rfl) (fun _ _ _ h => h) (Or.inl ⟨by rfl, fun w hSw => by (try dsimp only at hSw); go_simp⟩) (by assumption) ?_
            try simp only [Act.put, List.setIfInBounds_toArray, List.set_cons_zero, List.set_cons_succ]
            refine wpAnyL_take (i := 14) (v := (.agg #[.int .u32 (ra : Int), .int .i64 (rl : Int), .int .i64 (rt : Int), .int .i64 (rn : Int)])) rfl (by kernel_rfl) (by kernel_rfl) (by kernel_rfl) (by omega) (by kernel_rfl) (fun _ _ _ h => h) (Or.inl ⟨by rfl, fun w hSw => by (try dsimp only at hSw); go_simp⟩) (by assumption) ?_
            try simp only [Act.put, List.setIfInBounds_toArray, List.set_cons_zero, List.set_cons_succ]
            refine wpAnyL_one (i := 15) (by kernel_rfl) rfl fun K hK => ?_
            go_simp
            have hal := bal wz.drew (.cells #[.int .u32 (ra : Int), .int .i64 (rl : Int), .int .i64 (rt : Int), .int .i64 (rn : Int)] 43)
            have hza := HZ.out.below (below_drew' hal)
            have hya := HY.out.below (below_drew' hal) HY.out.lt
            have hxa := VRow.new wz.drew #[.int .u32 (ra : Int), .int .i64 (rl : Int), .int .i64 (rt : Int), .int .i64 (rn : Int)] 43
            have hka := (HR8.out.keep hza.bel.size (hza.far _ HR8.out.lt (by omega)))
            have HZA := Lib.hid hza
            have HXA := Lib.hid hxa.lies
            refine hK.out _ _ (fun _ => ⟨(hka.get (i := 0) rfl).1, hcg _ _ hza.row hza.cur, (hya.get (i := 0) rfl).1, (hya.get (i := 1) rfl).1, (hya.get (i := 2) rfl).1, (hya.get (i := 3) rfl).1⟩) ?_
            clear hK K hal hza hya hxa hka
            try simp only [Act.put, List.setIfInBounds_toArray, List.set_cons_zero, List.set_cons_succ]
            refine wpAnyL_one (i := 16) (by kernel_rfl) rfl fun K hK => ?_
            refine step_appB rfl (.tmp 74) (.tmp 76) 44 rfl Tryz.underlying44 rule_info rfl (by omega) (by omega) w7.heap.size _ HZA.out.bel.size S i cS _ (by simp [Act.eval]) HZA.out.own (some ⟨wz.heap.size, 0, none⟩) 1 1 (rcs [⟨ra, rl, rt, rn⟩]) (by simp [Act.eval]) rfl HXA.out (rcs_one _) (by omega) ?_
            intro S6 c6 w6' hO6 hc6 hc6' hg6 hat6
            rw [ob_eq, ob_eq] at hat6
            rw [ob_eq] at hg6
            have hst := HZA.out.step (S6 := S6) (c6 := c6) (w6 := w6') hlt (by rw [← HL.out, ← HNL.out]; exact hil) (by rw [HREN.out]; exact hO6) hg6 hat6
            rw [← HPV.out] at hst
            have ho5 : ∀ q, ob S = some q → w7.heap.size ≤ q := fun q e => (HZA.out.own.lt q (by rw [ob_eq]; exact e)).1
            have hrg6 := HZA.out.row.keep hg6.size (hg6.block _ HZA.out.row.lt (fun e => by have := ho5 _ e.symm; omega))
            have hcc6 := hcg _ _ hrg6 HZA.out.cur
            have hff6 : w6'.frozen? ⟨g0, pv, none⟩ = false := by rw [HPV.out]; exact (hrg6.get HZA.out.cur).2
            have hya := HY.out.below (below_drew' (bal wz.drew (.cells #[.int .u32 (ra : Int), .int .i64 (rl : Int), .int .i64 (rt : Int), .int .i64 (rn : Int)] 43))) HY.out.lt
            have hna : ob S ≠ some wi.heap.size := fun e => hnS (by rw [e])
            have hy6 := hya.keep hg6.size (hg6.block _ hya.lt (fun e => hna e.symm))
            have hka := (HR8.out.keep HZA.out.bel.size (HZA.out.far _ HR8.out.lt (by omega)))
            have hk6 := hka.keep hg6.size (hg6.block _ hka.lt (fun e => by have := ho5 _ e.symm; omega))
            have HST := Lib.hid hst
            have hS6 : (fun W : World => W.cell? ⟨g0 + 1, 0, none⟩ = some (.slice (some ⟨g0, 0, none⟩) nW nW) ∧ W.cell? ⟨g0, pv, none⟩ = some (.slice S i cS) ∧ W.cell? ⟨wi.heap.size, 0, none⟩ = some (.int .u32 (ra : Int)) ∧ W.cell? ⟨wi.heap.size, 1, none⟩ = some (.int .i64 (rl : Int)) ∧ W.cell? ⟨wi.heap.size, 2, none⟩ = some (.int .i64 (rt : Int)) ∧ W.cell? ⟨wi.heap.size, 3, none⟩ = some (.int .i64 (rn : Int))) w6' := ⟨(hk6.get (i := 0) rfl).1, hcc6, (hy6.get (i := 0) rfl).1, (hy6.get (i := 1) rfl).1, (hy6.get (i := 2) rfl).1, (hy6.get (i := 3) rfl).1⟩
            have HS6 := Lib.hid hS6
            refine hK.out _ _ (fun _ => HS6.out) ?_
            clear hK K hst hO6 hg6 hat6 ho5 hrg6 hya hna hy6 hka hk6 hS6 hcg
            try simp only [Act.put, List.setIfInBounds_toArray, List.set_cons_zero, List.set_cons_succ]
            refine wpAnyL_one (i := 17) (by kernel_rfl) rfl fun K hK => ?_
            go_simp
            refine hK.out _ _ (fun _ => HS6.out) ?_
            clear hK K
            try simp only [Act.put, List.setIfInBounds_toArray, List.set_cons_zero, List.set_cons_succ]
            refine wpAnyL_one (i := 18) (by kernel_rfl) rfl fun K hK => ?_
            go_simp
            refine hK.out _ _ (fun h9 => absurd rfl h9) ?_
            clear hK K
            try simp only [Act.put, List.setIfInBounds_toArray, List.set_cons_zero, List.set_cons_succ]
            refine wpAnyL_done (by kernel_rfl) ?_ _
            go_wp2_with fail
            exact ⟨⟨i + 1, S6, c6, _, by omega, by go_num, HST⟩, by simp [intOf]; omega⟩
        · obtain rfl : i = nL := by omega
          have HF := Lib.hid (HX.out.finish (by rw [← HL.out]; exact HNL.out))
          go_wp2_with fail
          exact ⟨⟨v + 1, vs, by omega, by go_num, HF⟩, by simp [intOf]; omega⟩
    · have hvn : v = nW := by omega
      rw [hvn] at HO
      have hbo : Below w4.heap.size w4 wo := HB47.out.trans HO.out.bel
      have hn2 : NetAt wo (some ⟨g0, 0, none⟩) (renN W) := HO.out.net HNW.out
      have hr6 := HR6.out.keep HO.out.bel.size (HO.out.far _ HR6.out.lt (by omega))
      have hr8 := HR8.out.keep HO.out.bel.size (HO.out.far _ HR8.out.lt (by omega))
      have q6 := (hr6.get (i := 0) rfl).1
      have hc1 := HAN1.out N1 c1 wo (HN1.out.below hbo)
      have HC1 := Lib.hid hc1
      have HBO := Lib.hid (HB4.out.trans (hbo.mono hsz4))
      have HN1 := Lib.hid (HN1.out.below hbo)
      have HN2 := Lib.hid hn2
      have HR6 := Lib.hid hr6
      have HR8 := Lib.hid hr8
      have hz8 : g0 + 1 < wo.heap.size := hr8.lt
      have hz6 : w4.heap.size < wo.heap.size := hr6.lt
      have hsz : w.heap.size ≤ wo.heap.size := HBO.out.size
      have hgt : decide ((v : Int) < (nW : Int)) = false := decide_eq_false (by omega)
      clear hbo hn2 hr6 hr8 hc1 HO HB4 HB47 hz5 hz7 HAN1 HRO HFEW HG0 hsz4
      go_wp2_with fail
      refine (HC1.out).mono ?_
      rintro e w8 ⟨PA, TA, cPA, cTA, rfl, hPA, hTA, -, hb8⟩
      rw [← HCV.out, ← HCD.out, ← HNP1.out, ← HNT1.out]
      obtain ⟨w9, hw9⟩ : ∃ w9, w9 = w8.alloc (.cells #[.int .i64 (cv : Int), .slice PA np1 cPA, .int .u32 (cd : Int), .slice TA nt1 cTA] 31) := ⟨_, rfl⟩
      have b9 : Below w8.heap.size w8 w9 := by rw [hw9]; exact bal _ _
      have hr12 : VRow w9 w8.heap.size [.int .i64 (cv : Int), .slice PA np1 cPA, .int .u32 (cd : Int), .slice TA nt1 cTA] := by rw [hw9]; exact VRow.new w8 #[.int .i64 (cv : Int), .slice PA np1 cPA, .int .u32 (cd : Int), .slice TA nt1 cTA] _
      have hbo9 := hb8.trans (b9.mono hb8.size)
      have hr8 := HR8.out.below hbo9 HR8.out.lt
      have q8 := (hr8.get (i := 0) rfl).1
      rw [hw9] at q8
      have hc2 := HAN2.out (some ⟨g0, 0, none⟩) nW w9 (HN2.out.below hbo9)
      have HC2 := Lib.hid hc2
      have HR8 := Lib.hid hr8
      have HR6 := Lib.hid (HR6.out.below hbo9 HR6.out.lt)
      have HN1 := Lib.hid (HN1.out.below hbo9)
      have HN2 := Lib.hid (HN2.out.below hbo9)
      have HR12 := Lib.hid hr12
      have HB9 := Lib.hid (HBO.out.trans (hbo9.mono hsz))
      have HW9 := Lib.hid hw9
      have hz12 : w8.heap.size < w9.heap.size := hr12.lt
      have hlt8 : wo.heap.size ≤ w8.heap.size := hb8.size
      clear hb8 hPA hTA hw9 b9 hr12 hbo9 hr8 hc2 HC1 HBO HAN2 q6
      go_wp2_with fail
      rw [← HW9.out]
      refine (HC2.out).mono ?_
      rintro e w10 ⟨PB, TB, cPB, cTB, rfl, hPB, hTB, -, hb10⟩
      rw [← HCV2.out, ← HCD2.out, ← HNP2.out, ← HNT2.out]
      obtain ⟨w11, hw11⟩ : ∃ w11, w11 = w10.alloc (.cells #[.int .i64 (cv : Int), .slice PB np2 cPB, .int .u32 (cd : Int), .slice TB nt2 cTB] 31) := ⟨_, rfl⟩
      have b11 : Below w10.heap.size w10 w11 := by rw [hw11]; exact bal _ _
      have hr14 : VRow w11 w10.heap.size [.int .i64 (cv : Int), .slice PB np2 cPB, .int .u32 (cd : Int), .slice TB nt2 cTB] := by rw [hw11]; exact VRow.new w10 #[.int .i64 (cv : Int), .slice PB np2 cPB, .int .u32 (cd : Int), .slice TB nt2 cTB] _
      have hb911 := hb10.trans (b11.mono hb10.size)
      have hsz9 : w.heap.size ≤ w9.heap.size := HB9.out.size
      obtain ⟨w12, hw12⟩ : ∃ w12, w12 = w11.alloc (.cells #[.int .i64 (cv : Int), .slice none 0 0, .int .u32 0, .slice none 0 0] 31) := ⟨_, rfl⟩
      have b12 : Below w11.heap.size w11 w12 := by rw [hw12]; exact bal _ _
      have s12 : w12.heap.size = w11.heap.size + 1 := by rw [hw12]; simp
      have hr16 : VRow w12 w11.heap.size [.int .i64 (cv : Int), .slice none 0 0, .int .u32 0, .slice none 0 0] := by rw [hw12]; exact VRow.new w11 #[.int .i64 (cv : Int), .slice none 0 0, .int .u32 0, .slice none 0 0] _
      have q0 := (hr14.get (i := 0) rfl).1
      rw [hw11] at q0
      have HR6 := Lib.hid (HR6.out.below hb911 HR6.out.lt)
      have HR8 := Lib.hid (HR8.out.below hb911 HR8.out.lt)
      have HN1 := Lib.hid (HN1.out.below hb911)
      have HN2 := Lib.hid (HN2.out.below hb911)
      have HR12 := Lib.hid (HR12.out.below hb911 HR12.out.lt)
      have HR14 := Lib.hid hr14
      have HR16 := Lib.hid hr16
      have HPB := Lib.hid (hPB.below b11)
      have HB11 := Lib.hid (HB9.out.trans (hb911.mono hsz9))
      have HB12 := Lib.hid b12
      have HS12 := Lib.hid s12
      have hz14 : w10.heap.size < w11.heap.size := hr14.lt
      have hlt10 : w9.heap.size ≤ w10.heap.size := hb10.size
      have hsz11 : w.heap.size ≤ w11.heap.size := HB11.out.size
      have HW12 := Lib.hid hw12
      have hs11 : w11.heap.size = w10.heap.size + 1 := by rw [hw11]; simp
      have HS11 := Lib.hid hs11
      clear hb10 hPB hTB b11 hr14 hb911 hw12 b12 s12 hr16 HC2 HB9 HW9 q8
      go_wp2_with fail
      rw [← hw11]
      rw [← HW12.out]
      rw [← HS11.out]
      clear hw11 hs11
      go_loopw [17] (fun s17 wr => ∃ (j : Nat) (S : Option Addr) (cp : Nat) (vs : List Value), j ≤ np2 ∧ s17 = .int .i64 (j : Int) ∧ Hid (BSt w12 w11.heap.size cv (c2v.parts.map backP) j S cp vs wr)) (fun s17 _ => np2 - (intOf s17).toNat)
      case atStart => exact ⟨0, none, 0, [], by omega, rfl, Lib.hid ⟨HR16.out, World.ownsRow_nil _ _ _ _, ⟨rfl, fun i hi => absurd hi (by simp)⟩, .refl _ _ _, by have := HS12.out; omega⟩⟩
      case round =>
        clear HR16 HW12
        obtain ⟨wj, rfl⟩ : ∃ wj : World, wj = wr := ⟨_, rfl⟩
        obtain ⟨j, S, cp, vs, hj, rfl, HP⟩ := hrel
        have HBQ : Hid (Below w11.heap.size w11 wj) := Lib.hid (HB12.out.trans (HP.out.far.below (Nat.le_refl _) (Nat.le_refl _) (by have := HS12.out; omega)))
        have q1 := ((HR14.out.below HBQ.out HR14.out.lt).get (i := 1) rfl).1
        by_cases hlj : j < np2
        · have hlj' : j < c2v.parts.length := by have := HNP2.out; omega
          obtain ⟨b, off, R, cR, hPe, hbb, hp0, hp1, hp2, hRl, hRc1, -⟩ := HPB.out.at_ hlj'
          have hrl := HRK.out _ (List.getElem_mem hlj')
          have htk := back_take hlj'
          obtain ⟨p, hp⟩ : ∃ p, p = c2v.parts[j] := ⟨_, rfl⟩
          rw [← hp] at hp0 hp1 hp2 hRl hRc1 hrl htk
          obtain ⟨pf, pt, rn⟩ := p
          simp only [backP] at hp0 hp1 hp2 hRl hRc1 hrl htk
          rw [hrl] at hp2 hRc1
          subst hPe
          have hxj : w11.heap.size < wj.heap.size := HP.out.row.lt
          have KQ : Hid (∀ W, Below wj.heap.size wj W → Below w11.heap.size w11 W) := Lib.hid fun W hW => HBQ.out.trans (hW.mono HBQ.out.size)
          have KS : Hid (∀ W, Below wj.heap.size wj W → W.cell? ⟨w10.heap.size, 1, none⟩ = some (.slice (some ⟨b, off, none⟩) np2 cPB) ∧ W.cell? ⟨b, off + j * 3, none⟩ = some (.int .u32 (pf : Int)) ∧ W.cell? ⟨b, off + j * 3 + 1, none⟩ = some (.int .u32 (pt : Int))) := Lib.hid fun W hW => by
            have hq := KQ.out W hW
            exact ⟨((HR14.out.below hq HR14.out.lt).get (i := 1) rfl).1, (hq.cell (p := ⟨b, off + j * 3, none⟩) hbb).trans hp0, (hq.cell (p := ⟨b, off + j * 3 + 1, none⟩) hbb).trans hp1⟩
          have hd2 : ∀ W, Below w11.heap.size w11 W → W.cell? ⟨b, off + j * 3 + 2, none⟩ = some (.slice R nW cR) := fun W hq => (hq.cell (p := ⟨b, off + j * 3 + 2, none⟩) hbb).trans hp2
          have HD2 := Lib.hid hd2
          have HRL := Lib.hid hRl
          have HRN := Lib.hid hrl
          have HTK := Lib.hid htk
          clear hp0 hp1 hp2 hRl hRc1 hrl htk hp hd2 hlj'
          go_upto_region 21 with fail
          go_cut [18] (fun s18 wx => s18 = .pointer (some ⟨wj.heap.size, 0, none⟩) ∧ VRow wx wj.heap.size [.int .u32 (pf : Int), .int .u32 (pt : Int), .slice none 0 0] ∧ Below wj.heap.size wj wx)
          case first =>
            obtain ⟨h1, h2, h3⟩ := KS.out wj (Below.refl _ _)
            go_region_held3 (fun W => W.cell? ⟨w10.heap.size, 1, none⟩ = some (.slice (some ⟨b, off, none⟩) np2 cPB) ∧ W.cell? ⟨b, off + j * 3, none⟩ = some (.int .u32 (pf : Int)) ∧ W.cell? ⟨b, off + j * 3 + 1, none⟩ = some (.int .u32 (pt : Int)))
              (first | exact KS.out _ (below_drew (Below.refl _ _)) | exact KS.out _ (below_drew' (bal _ _)))
              (fail)
            all_goals
              have hv := (VRow.new wj #[.int .u32 (pf : Int), .int .u32 (pt : Int), .slice none 0 0] 51).drew
              go_wp2_with fail
              go_meet
              exact ⟨rfl, hv, below_drew (bal _ _)⟩
          case rest =>
            obtain ⟨rfl, hyx, hbx⟩ := hcut
            have hI : ISt wc wj.heap.size pf pt rn.reverse 0 none 0 wc := ⟨hyx, by simpa using World.ownsRow_nil wc wc.heap.size 3 1, .refl _ _ _, hyx.lt⟩
            have HI := Lib.hid hI
            have HX := Lib.hid hbx
            have hyl := hyx.lt
            clear hI hbx hyx q1 KS
            go_wp2_with fail
            go_loopw [19] (fun s19 wr => ∃ (k : Nat) (Q : Option Addr) (cQ : Nat), k ≤ nW ∧ s19 = .int .i64 (k : Int) ∧ Hid (ISt wc wj.heap.size pf pt rn.reverse k Q cQ wr)) (fun s19 _ => nW - (intOf s19).toNat)
            case atStart => exact ⟨0, none, 0, by omega, rfl, HI⟩
            case round =>
              clear HI
              obtain ⟨wq, rfl⟩ : ∃ wq : World, wq = wr := ⟨_, rfl⟩
              obtain ⟨k, Q, cQ, hk, rfl, HJ⟩ := hrel
              have hbq : Below wj.heap.size wj wq := HX.out.trans (HJ.out.far.below (Nat.le_refl _) (Nat.le_refl _) (Nat.le_of_lt hyl))
              have hq11 := KQ.out wq hbq
              have x1 := ((HR14.out.below hq11 HR14.out.lt).get (i := 1) rfl).1
              have d2 := HD2.out wq hq11
              have HBQ := Lib.hid hbq
              clear hbq hq11
              by_cases hlk : k < nW
              · obtain ⟨pv, hpv⟩ : ∃ pv, pv = nW - 1 - k := ⟨_, rfl⟩
                have hpl : pv < rn.length := by have := HRN.out; omega
                obtain ⟨bR, oR, hRe, hbR, hcR⟩ := Lies.at_map HRL.out hpl
                have htkr := rev_take HRN.out hlk hpv
                rw [← getD_lt (d := 0) hpl] at hcR
                obtain ⟨rk, hrk'⟩ : ∃ rk, rk = rn.getD pv 0 := ⟨_, rfl⟩
                rw [← hrk'] at hcR htkr
                have hpz : (nW : Int) - 1 - (k : Int) = (pv : Int) := by omega
                have hplw : pv < nW := by omega
                have hwr1 : IntKind.i64.wrap ((nW : Int) - 1) = (nW : Int) - 1 := IntWalk.i64_in _ (by omega)
                have hwr2 : IntKind.i64.wrap (pv : Int) = (pv : Int) := IntWalk.i64_in _ (by omega)
                subst hRe
                have hku : ∀ W, Below wj.heap.size wj W → W.cell? ⟨w10.heap.size, 1, none⟩ = some (.slice (some ⟨b, off, none⟩) np2 cPB) ∧ W.cell? ⟨b, off + j * 3 + 2, none⟩ = some (.slice (some ⟨bR, oR, none⟩) nW cR) ∧ W.cell? ⟨bR, oR + pv, none⟩ = some (.int .i64 (rk : Int)) := fun W hW => by
                  have hq := KQ.out W hW
                  exact ⟨((HR14.out.below hq HR14.out.lt).get (i := 1) rfl).1, HD2.out W hq, (hq.cell (p := ⟨bR, oR + pv, none⟩) hbR).trans hcR⟩
                have KU := Lib.hid hku
                have HTKR := Lib.hid htkr
                clear htkr hcR hku hrk' hpv hpl
                go_upto_region 25 with fail
                refine wp_region_L (S := fun W => W.cell? ⟨wj.heap.size, 2, none⟩ = some (.slice Q k cQ) ∧ W.cell? ⟨w10.heap.size, 1, none⟩ = some (.slice (some ⟨b, off, none⟩) np2 cPB) ∧ W.cell? ⟨b, off + j * 3 + 2, none⟩ = some (.slice (some ⟨bR, oR, none⟩) nW cR) ∧ W.cell? ⟨bR, oR + pv, none⟩ = some (.int .i64 (rk : Int))) (f := 17) (by kernel_rfl) ?_
                have hSq : (fun W : World => W.cell? ⟨wj.heap.size, 2, none⟩ = some (.slice Q k cQ) ∧ W.cell? ⟨w10.heap.size, 1, none⟩ = some (.slice (some ⟨b, off, none⟩) np2 cPB) ∧ W.cell? ⟨b, off + j * 3 + 2, none⟩ = some (.slice (some ⟨bR, oR, none⟩) nW cR) ∧ W.cell? ⟨bR, oR + pv, none⟩ = some (.int .i64 (rk : Int))) wq.drew := ⟨(VRow.get (VRow.drew HJ.out.row) (i := 2) rfl).1, KU.out _ (below_drew HBQ.out)⟩
                clear x1 d2
                refine wpAnyL_take (i := 0) (v := (.pointer (some ⟨wj.heap.size, 2, none⟩))) rfl (by kernel_rfl) (by kernel_rfl) (by kernel_rfl) (by omega) (by kernel_rfl) (fun _ _ _ h => h) (Or.inl ⟨by rfl, fun w hSw => by (try dsimp only at hSw); go_simp⟩) (by assumption) ?_
                try simp only [Act.put, List.setIfInBounds_toArray, List.set_cons_zero, List.set_cons_succ]
                refine wpAnyL_take (i := 1) (v := (.slice Q k cQ)) rfl (by kernel_rfl) (by kernel_rfl) (by kernel_rfl) (by omega) (by kernel_rfl) (fun _ _ _ h => h) (Or.inl ⟨by rfl, fun w hSw => by (try dsimp only at hSw); go_simp⟩) (by assumption) ?_
                try simp only [Act.put, List.setIfInBounds_toArray, List.set_cons_zero, List.set_cons_succ]
                refine wpAnyL_take (i := 2) (v := (.pointer (some ⟨w10.heap.size, 1, none⟩))) rfl (by kernel_rfl) (by kernel_rfl) (by kernel_rfl) (by omega) (by kernel_rfl) (fun _ _ _ h => h) (Or.inl ⟨by rfl, fun w hSw => by (try dsimp only at hSw); go_simp⟩) (by assumption) ?_
                try simp only [Act.put, List.setIfInBounds_toArray, List.set_cons_zero, List.set_cons_succ]
                refine wpAnyL_take (i := 3) (v := (.slice (some ⟨b, off, none⟩) np2 cPB)) rfl (by kernel_rfl) (by kernel_rfl) (by kernel_rfl) (by omega) (by kernel_rfl) (fun _ _ _ h => h) (Or.inl ⟨by rfl, fun w hSw => by (try dsimp only at hSw); go_simp⟩) (by assumption) ?_
                try simp only [Act.put, List.setIfInBounds_toArray, List.set_cons_zero, List.set_cons_succ]
                refine wpAnyL_take (i := 4) (v := (.int .i64 (j : Int))) rfl (by kernel_rfl) (by kernel_rfl) (by kernel_rfl) (by omega) (by kernel_rfl) (fun _ _ _ h => h) (Or.inl ⟨by rfl, fun w hSw => by (try dsimp only at hSw); go_simp⟩) (by assumption) ?_
                try simp only [Act.put, List.setIfInBounds_toArray, List.set_cons_zero, List.set_cons_succ]
                refine wpAnyL_take (i := 5) (v := (.pointer (some ⟨b, off + j * 3, none⟩))) rfl (by kernel_rfl) (by kernel_rfl) (by kernel_rfl) (by omega) (by kernel_rfl) (fun _ _ _ h => h) (Or.inl ⟨by rfl, fun w hSw => by (try dsimp only at hSw); go_simp⟩) (by assumption) ?_
                try simp only [Act.put, List.setIfInBounds_toArray, List.set_cons_zero, List.set_cons_succ]
                refine wpAnyL_take (i := 6) (v := (.pointer (some ⟨b, off + j * 3 + 2, none⟩))) rfl (by kernel_rfl) (by kernel_rfl) (by kernel_rfl) (by omega) (by kernel_rfl) (fun _ _ _ h => h) (Or.inl ⟨by rfl, fun w hSw => by (try dsimp only at hSw); go_simp⟩) (by assumption) ?_
                try simp only [Act.put, List.setIfInBounds_toArray, List.set_cons_zero, List.set_cons_succ]
                refine wpAnyL_take (i := 7) (v := (.slice (some ⟨bR, oR, none⟩) nW cR)) rfl (by kernel_rfl) (by kernel_rfl) (by kernel_rfl) (by omega) (by kernel_rfl) (fun _ _ _ h => h) (Or.inl ⟨by rfl, fun w hSw => by (try dsimp only at hSw); go_simp⟩) (by assumption) ?_
                try simp only [Act.put, List.setIfInBounds_toArray, List.set_cons_zero, List.set_cons_succ]
                refine wpAnyL_take (i := 8) (v := (.int .i64 (nW : Int))) rfl (by kernel_rfl) (by kernel_rfl) (by kernel_rfl) (by omega) (by kernel_rfl) (fun _ _ _ h => h) (Or.inl ⟨by rfl, fun w hSw => by (try dsimp only at hSw); go_simp⟩) (by assumption) ?_
                try simp only [Act.put, List.setIfInBounds_toArray, List.set_cons_zero, List.set_cons_succ]
                refine wpAnyL_take (i := 9) (v := (.int .i64 ((nW : Int) - 1))) rfl (by kernel_rfl) (by kernel_rfl) (by kernel_rfl) (by omega) (by kernel_rfl) (fun _ _ _ h => h) (Or.inl ⟨by rfl, fun w hSw => by (try dsimp only at hSw); go_simp⟩) (by assumption) ?_
                try simp only [Act.put, List.setIfInBounds_toArray, List.set_cons_zero, List.set_cons_succ]
                refine wpAnyL_take (i := 10) (v := (.int .i64 (k : Int))) rfl (by kernel_rfl) (by kernel_rfl) (by kernel_rfl) (by omega) (by kernel_rfl) (fun _ _ _ h => h) (Or.inl ⟨by rfl, fun w hSw => by (try dsimp only at hSw); go_simp⟩) (by assumption) ?_
                try simp only [Act.put, List.setIfInBounds_toArray, List.set_cons_zero, List.set_cons_succ]
                refine wpAnyL_take (i := 11) (v := (.int .i64 (pv : Int))) rfl (by kernel_rfl) (by kernel_rfl) (by kernel_rfl) (by omega) (by kernel_rfl) (fun _ _ _ h => h) (Or.inl ⟨by rfl, fun w hSw => by (try dsimp only at hSw); go_simp⟩) (by assumption) ?_
                try simp only [Act.put, List.setIfInBounds_toArray, List.set_cons_zero, List.set_cons_succ]
                refine wpAnyL_take (i := 12) (v := (.pointer (some ⟨bR, oR + pv, none⟩))) rfl (by kernel_rfl) (by kernel_rfl) (by kernel_rfl) (by omega) (by kernel_rfl) (fun _ _ _ h => h) (Or.inl ⟨by rfl, fun w hSw => by (try dsimp only at hSw); go_simp⟩) (by assumption) ?_
                try simp only [Act.put, List.setIfInBounds_toArray, List.set_cons_zero, List.set_cons_succ]
                refine wpAnyL_take (i := 13) (v := (.int .i64 (rk : Int))) rfl (by kernel_rfl) (by kernel_rfl) (by kernel_rfl) (by omega) (by kernel_rfl) (fun _ _ _ h => h) (Or.inl ⟨by rfl, fun w hSw => by (try dsimp only at hSw); go_simp⟩) (by assumption) ?_
                try simp only [Act.put, List.setIfInBounds_toArray, List.set_cons_zero, List.set_cons_succ]
                refine wpAnyL_one (i := 14) (by kernel_rfl) rfl fun K hK => ?_
                go_simp
                have hal := bal wq.drew (.cells #[.int .i64 (rk : Int)] 3)
                have hia := HJ.out.below (below_drew' hal)
                have hba : Below wj.heap.size wj (wq.drew.alloc (.cells #[.int .i64 (rk : Int)] 3)) := HBQ.out.trans ((below_drew' hal).mono HBQ.out.size)
                have hxa := (VRow.new wq.drew #[.int .i64 (rk : Int)] 3).lies
                have HIA := Lib.hid hia
                have HBA := Lib.hid hba
                have HXA := Lib.hid hxa
                refine hK.out _ _ (fun _ => ⟨(HIA.out.row.get (i := 2) rfl).1, KU.out _ HBA.out⟩) ?_
                clear hK K hal hia hba hxa
                try simp only [Act.put, List.setIfInBounds_toArray, List.set_cons_zero, List.set_cons_succ]
                refine wpAnyL_one (i := 15) (by kernel_rfl) rfl fun K hK => ?_
                have hIa := HIA.out
                have hBa := HBA.out
                refine step_appB rfl (.tmp 129) (.tmp 142) 29 rfl Tryz.underlying29 int_info rfl (by omega) (by omega) wc.heap.size _ HIA.out.far.size Q k cQ _ (by simp [Act.eval]) HIA.out.own (some ⟨wq.heap.size, 0, none⟩) 1 1 [.int .i64 (rk : Int)] (by simp [Act.eval]) rfl HXA.out (num_one _) (by omega) ?_
                intro S6 c6 w6' hO6 hc6 hc6' hg6 hat6
                rw [ob_eq] at hg6
                have hst := hIa.step HTKR.out hO6 hg6
                have ho5 : ∀ q, ob Q = some q → wc.heap.size ≤ q := fun q e => (hIa.own.lt q (by rw [ob_eq]; exact e)).1
                have hr6 := hIa.row.keep hg6.size (hg6.block _ hIa.row.lt (fun e => by have := ho5 _ e.symm; omega))
                have hb6 : Below wj.heap.size wj w6' := hBa.grown hg6 hBa.size (fun q e => by have := ho5 q e; omega)
                have hff6 := (hr6.get (i := 2) rfl).2
                have hcc6 := (hr6.get (i := 2) rfl).1
                have HST := Lib.hid hst
                have hS6 : (fun W : World => W.cell? ⟨wj.heap.size, 2, none⟩ = some (.slice Q k cQ) ∧ W.cell? ⟨w10.heap.size, 1, none⟩ = some (.slice (some ⟨b, off, none⟩) np2 cPB) ∧ W.cell? ⟨b, off + j * 3 + 2, none⟩ = some (.slice (some ⟨bR, oR, none⟩) nW cR) ∧ W.cell? ⟨bR, oR + pv, none⟩ = some (.int .i64 (rk : Int))) w6' := ⟨(hr6.get (i := 2) rfl).1, KU.out _ hb6⟩
                have HS6 := Lib.hid hS6
                refine hK.out _ _ (fun _ => HS6.out) ?_
                clear hK K hst hO6 hg6 hat6 ho5 hr6 hb6 hS6 hIa hBa
                try simp only [Act.put, List.setIfInBounds_toArray, List.set_cons_zero, List.set_cons_succ]
                refine wpAnyL_one (i := 16) (by kernel_rfl) rfl fun K hK => ?_
                go_simp
                refine hK.out _ _ (fun _ => HS6.out) ?_
                clear hK K
                try simp only [Act.put, List.setIfInBounds_toArray, List.set_cons_zero, List.set_cons_succ]
                refine wpAnyL_one (i := 17) (by kernel_rfl) rfl fun K hK => ?_
                go_simp
                refine hK.out _ _ (fun h9 => absurd rfl h9) ?_
                clear hK K
                try simp only [Act.put, List.setIfInBounds_toArray, List.set_cons_zero, List.set_cons_succ]
                refine wpAnyL_done (by kernel_rfl) ?_ _
                go_wp2_with fail
                exact ⟨⟨k + 1, S6, c6, by omega, by go_num, HST⟩, by simp [intOf]; omega⟩
              · have hkn : k = nW := by omega
                rw [hkn] at HJ
                have hgk : decide ((k : Int) < (nW : Int)) = false := decide_eq_false (by omega)
                have hP9 := HP.out.below HBQ.out
                have hrq := HJ.out.row
                have e0 := (hrq.get (i := 0) rfl).1
                have e1 := (hrq.get (i := 1) rfl).1
                have e2 := (hrq.get (i := 2) rfl).1
                have p1 := (hP9.row.get (i := 1) rfl).1
                obtain ⟨Q0, cq0, eq0, hcq1, hcq2⟩ := own_form HJ.out.own
                injection eq0 with eq0 _ eq2
                subst eq0 eq2
                have hlq : Lies wq Q (nums rn.reverse) := by
                  have h := Lies.of_own HJ.out.own
                  rwa [List.take_of_length_le (by rw [List.length_reverse, HRN.out]; exact Nat.le_refl _)] at h
                have hnq : Gr.New wj Q := new_mono (new_of HJ.out.own) (Nat.le_of_lt hyl)
                have hal := bal wq (.cells #[.int .u32 (pf : Int), .int .u32 (pt : Int), .slice Q nW cQ] 51)
                have hPa := hP9.below hal
                have hone := Lies.new wq #[.int .u32 (pf : Int), .int .u32 (pt : Int), .slice Q nW cQ] 51
                have hPs : w12.heap.size ≤ (wq.alloc (.cells #[.int .u32 (pf : Int), .int .u32 (pt : Int), .slice Q nW cQ] 51)).heap.size := hPa.far.size
                have hns : (Value.slice S j cp).ownBlock ≠ some w11.heap.size := fun e => by
                  have h1 := (HP.out.own.lt _ e).1
                  have h2 := HP.out.lt
                  omega
                have HPA := Lib.hid hPa
                have HONE := Lib.hid hone
                have HPS := Lib.hid hPs
                have HLQ := Lib.hid hlq
                have HNQ := Lib.hid hnq
                have HNS := Lib.hid hns
                obtain ⟨iP, hiP, hP0, hP1, hP2⟩ := info_parts part_info
                clear hP9 hrq hlq hnq hal hPa hone hPs hns hkn
                go_wp2_with (at_builtin; refine Mem.wpList_append_lies _ rfl (.tmp 146) (.tmp 148) _ rfl w12.heap.size 51 iP _ 3 32 Tryz.underlying28 hiP hP0 hP1 hP2 rfl (by omega) (.slice S j cp) j _ rfl HPA.out.own _ 1 1 _ rfl rfl HONE.out (by intro u hu; simp at hu; rcases hu with rfl | rfl | rfl <;> rfl) (by simp only [maxLen]; omega) (by omega) HPS.out ?_; intro v7 w7 hown7 hg7 hat7; obtain ⟨S7, c7, rfl, _, _⟩ := own_form hown7; have hx7 := HPA.out.row.keep hg7.size (hg7.block _ HPA.out.row.lt (fun e => HNS.out e.symm)); obtain ⟨x7, f7⟩ := hx7.get (i := 1) rfl; rw [ob_eq, ob_eq] at hat7; rw [ob_eq] at hg7; have HST := Lib.hid (HP.out.step HTK.out (by rw [List.length_reverse]; exact HRN.out) HBQ.out HLQ.out HNQ.out hcq1 hcq2 hown7 hg7 hat7); clear hown7 hg7 hat7 hx7)
                exact ⟨⟨j + 1, S7, c7, _, by omega, by go_num, HST⟩, by simp [intOf]; omega⟩
        · have hjn : j = np2 := by omega
          rw [hjn] at HP
          have hgj : decide ((j : Int) < (np2 : Int)) = false := decide_eq_false (by omega)
          have KQ : Hid (∀ W, Below wj.heap.size wj W → Below w11.heap.size w11 W) := Lib.hid fun W hW => HBQ.out.trans (hW.mono HBQ.out.size)
          have KB : Hid (∀ W, Below wj.heap.size wj W → Below w.heap.size w W) := Lib.hid fun W hW => HB11.out.trans ((KQ.out W hW).mono hsz11)
          have KS : Hid (∀ W, Below wj.heap.size wj W → W.cell? ⟨w8.heap.size, 0, none⟩ = some (.int .i64 (cv : Int)) ∧ W.cell? ⟨w8.heap.size, 2, none⟩ = some (.int .u32 (cd : Int)) ∧ W.cell? ⟨w10.heap.size, 0, none⟩ = some (.int .i64 (cv : Int)) ∧ W.cell? ⟨w10.heap.size, 2, none⟩ = some (.int .u32 (cd : Int)) ∧ W.cell? ⟨w4.heap.size, 0, none⟩ = some (.slice N1 nW c1) ∧ W.cell? ⟨g0 + 1, 0, none⟩ = some (.slice (some ⟨g0, 0, none⟩) nW nW) ∧ W.cell? ⟨w11.heap.size, 0, none⟩ = some (.int .i64 (cv : Int)) ∧ W.cell? ⟨w11.heap.size, 1, none⟩ = some (.slice S np2 cp) ∧ W.cell? ⟨w11.heap.size, 2, none⟩ = some (.int .u32 0) ∧ W.cell? ⟨w11.heap.size, 3, none⟩ = some (.slice none 0 0)) := Lib.hid fun W hW => by
            have hq := KQ.out W hW
            have h12 := HR12.out.below hq HR12.out.lt
            have h14 := HR14.out.below hq HR14.out.lt
            have h16 := HP.out.row.below hW HP.out.row.lt
            exact ⟨(h12.get (i := 0) rfl).1, (h12.get (i := 2) rfl).1, (h14.get (i := 0) rfl).1, (h14.get (i := 2) rfl).1, ((HR6.out.below hq HR6.out.lt).get (i := 0) rfl).1, ((HR8.out.below hq HR8.out.lt).get (i := 0) rfl).1, (h16.get (i := 0) rfl).1, (h16.get (i := 1) rfl).1, (h16.get (i := 2) rfl).1, (h16.get (i := 3) rfl).1⟩
          have HC1 := Lib.hid fun W (hW : Below wj.heap.size wj W) => HRD1.out N1 c1 W (HN1.out.below (KQ.out W hW))
          have HC2 := Lib.hid fun W (hW : Below wj.heap.size wj W) => HRD2.out (some ⟨g0, 0, none⟩) nW W (HN2.out.below (KQ.out W hW))
          rcases HVD.out with ⟨rfl, hd0, ht0, hck⟩ | rfl
          · have e1 : c1v.verdict = 1 := HCV.out.symm
            have e2 : c1v.parts.length = np2 := by rw [← HCR3.out, List.length_map]; exact HNP2.out.symm
            have hpp : PartsAt wj S c1v.parts := by
              have h := HP.out.parts
              rw [List.take_of_length_le (by rw [List.length_map, HNP2.out]; exact Nat.le_refl _), HCR3.out] at h
              exact h.parts (Lies.of_own HP.out.own)
            have hcat : CertAt wj (.agg #[.int .i64 ((1 : Nat) : Int), .slice S np2 cp, .int .u32 0, .slice none 0 0]) c1v := ⟨S, none, cp, 0, by rw [e1, e2, hd0, ht0]; rfl, hpp, by rw [ht0]; exact Lies.nil _ _⟩
            have hck2 : ∀ W, Below wj.heap.size wj W → Calls Tryz.prog 9 #[.agg #[.slice N1 nW c1], .agg #[.int .i64 1, .slice S np2 cp, .int .u32 0, .slice none 0 0]] W fun e W' => e = .returned (.agg #[.int .i64 1, .int .i64 0]) ∧ Below W.heap.size W W' := fun W hW => hck N1 c1 _ W (HN1.out.below (KQ.out W hW)) (hcat.below hW)
            have HCK := Lib.hid hck2
            clear hd0 ht0 hck e1 e2 hpp hcat hck2 HBQ HP
            go_wp2_with fail
            refine wp_region_L (S := fun W => W.cell? ⟨w8.heap.size, 0, none⟩ = some (.int .i64 1) ∧ W.cell? ⟨w8.heap.size, 2, none⟩ = some (.int .u32 (cd : Int)) ∧ W.cell? ⟨w10.heap.size, 0, none⟩ = some (.int .i64 1) ∧ W.cell? ⟨w10.heap.size, 2, none⟩ = some (.int .u32 (cd : Int)) ∧ W.cell? ⟨w4.heap.size, 0, none⟩ = some (.slice N1 nW c1) ∧ W.cell? ⟨g0 + 1, 0, none⟩ = some (.slice (some ⟨g0, 0, none⟩) nW nW) ∧ W.cell? ⟨w11.heap.size, 0, none⟩ = some (.int .i64 1) ∧ W.cell? ⟨w11.heap.size, 1, none⟩ = some (.slice S np2 cp) ∧ W.cell? ⟨w11.heap.size, 2, none⟩ = some (.int .u32 0) ∧ W.cell? ⟨w11.heap.size, 3, none⟩ = some (.slice none 0 0)) (f := 45) (by kernel_rfl) ?_
            have hS0 : (fun W : World => W.cell? ⟨w8.heap.size, 0, none⟩ = some (.int .i64 1) ∧ W.cell? ⟨w8.heap.size, 2, none⟩ = some (.int .u32 (cd : Int)) ∧ W.cell? ⟨w10.heap.size, 0, none⟩ = some (.int .i64 1) ∧ W.cell? ⟨w10.heap.size, 2, none⟩ = some (.int .u32 (cd : Int)) ∧ W.cell? ⟨w4.heap.size, 0, none⟩ = some (.slice N1 nW c1) ∧ W.cell? ⟨g0 + 1, 0, none⟩ = some (.slice (some ⟨g0, 0, none⟩) nW nW) ∧ W.cell? ⟨w11.heap.size, 0, none⟩ = some (.int .i64 1) ∧ W.cell? ⟨w11.heap.size, 1, none⟩ = some (.slice S np2 cp) ∧ W.cell? ⟨w11.heap.size, 2, none⟩ = some (.int .u32 0) ∧ W.cell? ⟨w11.heap.size, 3, none⟩ = some (.slice none 0 0)) wj.drew := KS.out _ (below_drew (Below.refl _ _))
            clear q1
            refine wpAnyL_takeD (i := 0) (v := (.bool true)) 151 rfl (by rfl) (by kernel_rfl) (by kernel_rfl) (by kernel_rfl) (by omega) (by kernel_rfl) (fun _ _ _ h => h) (Or.inl ⟨by rfl, fun w hSw => by (try dsimp only at hSw); go_simp⟩) (by assumption) ?_
            try simp only [Act.put, List.setIfInBounds_toArray, List.set_cons_zero, List.set_cons_succ]
            refine wpAnyL_takeD (i := 1) (v := (.bool true)) 152 rfl (by rfl) (by kernel_rfl) (by kernel_rfl) (by kernel_rfl) (by omega) (by kernel_rfl) (fun _ _ _ h => h) (Or.inl ⟨by rfl, fun w hSw => by (try dsimp only at hSw); go_simp⟩) (by assumption) ?_
            try simp only [Act.put, List.setIfInBounds_toArray, List.set_cons_zero, List.set_cons_succ]
            refine wpAnyL_takeD (i := 2) (v := (.int .i64 0)) 153 rfl (by rfl) (by kernel_rfl) (by kernel_rfl) (by kernel_rfl) (by omega) (by kernel_rfl) (fun _ _ _ h => h) (Or.inl ⟨by rfl, fun w hSw => by (try dsimp only at hSw); go_simp⟩) (by assumption) ?_
            try simp only [Act.put, List.setIfInBounds_toArray, List.set_cons_zero, List.set_cons_succ]
            refine wpAnyL_takeD (i := 3) (v := (.bool true)) 154 rfl (by rfl) (by kernel_rfl) (by kernel_rfl) (by kernel_rfl) (by omega) (by kernel_rfl) (fun _ _ _ h => h) (Or.inl ⟨by rfl, fun w hSw => by (try dsimp only at hSw); go_simp⟩) (by assumption) ?_
            try simp only [Act.put, List.setIfInBounds_toArray, List.set_cons_zero, List.set_cons_succ]
            refine wpAnyL_takeD (i := 4) (v := (.bool true)) 155 rfl (by rfl) (by kernel_rfl) (by kernel_rfl) (by kernel_rfl) (by omega) (by kernel_rfl) (fun _ _ _ h => h) (Or.inl ⟨by rfl, fun w hSw => by (try dsimp only at hSw); go_simp⟩) (by assumption) ?_
            try simp only [Act.put, List.setIfInBounds_toArray, List.set_cons_zero, List.set_cons_succ]
            refine wpAnyL_takeD (i := 5) (v := (.bool true)) 156 rfl (by rfl) (by kernel_rfl) (by kernel_rfl) (by kernel_rfl) (by omega) (by kernel_rfl) (fun _ _ _ h => h) (Or.inl ⟨by rfl, fun w hSw => by (try dsimp only at hSw); go_simp⟩) (by assumption) ?_
            try simp only [Act.put, List.setIfInBounds_toArray, List.set_cons_zero, List.set_cons_succ]
            refine wpAnyL_takeD (i := 6) (v := (.int .i64 0)) 157 rfl (by rfl) (by kernel_rfl) (by kernel_rfl) (by kernel_rfl) (by omega) (by kernel_rfl) (fun _ _ _ h => h) (Or.inl ⟨by rfl, fun w hSw => by (try dsimp only at hSw); go_simp⟩) (by assumption) ?_
            try simp only [Act.put, List.setIfInBounds_toArray, List.set_cons_zero, List.set_cons_succ]
            refine wpAnyL_takeD (i := 7) (v := (.bool true)) 158 rfl (by rfl) (by kernel_rfl) (by kernel_rfl) (by kernel_rfl) (by omega) (by kernel_rfl) (fun _ _ _ h => h) (Or.inl ⟨by rfl, fun w hSw => by (try dsimp only at hSw); go_simp⟩) (by assumption) ?_
            try simp only [Act.put, List.setIfInBounds_toArray, List.set_cons_zero, List.set_cons_succ]
            refine wpAnyL_takeD (i := 8) (v := (.bool true)) 159 rfl (by rfl) (by kernel_rfl) (by kernel_rfl) (by kernel_rfl) (by omega) (by kernel_rfl) (fun _ _ _ h => h) (Or.inl ⟨by rfl, fun w hSw => by (try dsimp only at hSw); go_simp⟩) (by assumption) ?_
            try simp only [Act.put, List.setIfInBounds_toArray, List.set_cons_zero, List.set_cons_succ]
            refine wpAnyL_takeD (i := 9) (v := (.bool true)) 160 rfl (by rfl) (by kernel_rfl) (by kernel_rfl) (by kernel_rfl) (by omega) (by kernel_rfl) (fun _ _ _ h => h) (Or.inl ⟨by rfl, fun w hSw => by (try dsimp only at hSw); go_simp⟩) (by assumption) ?_
            try simp only [Act.put, List.setIfInBounds_toArray, List.set_cons_zero, List.set_cons_succ]
            refine wpAnyL_takeD (i := 10) (v := (.pointer (some ⟨w8.heap.size, 0, none⟩))) 161 rfl (by rfl) (by kernel_rfl) (by kernel_rfl) (by kernel_rfl) (by omega) (by kernel_rfl) (fun _ _ _ h => h) (Or.inl ⟨by rfl, fun w hSw => by (try dsimp only at hSw); go_simp⟩) (by assumption) ?_
            try simp only [Act.put, List.setIfInBounds_toArray, List.set_cons_zero, List.set_cons_succ]
            refine wpAnyL_takeD (i := 11) (v := (.int .i64 1)) 162 rfl (by rfl) (by kernel_rfl) (by kernel_rfl) (by kernel_rfl) (by omega) (by kernel_rfl) (fun _ _ _ h => h) (Or.inl ⟨by rfl, fun w hSw => by (try dsimp only at hSw); go_simp⟩) (by assumption) ?_
            try simp only [Act.put, List.setIfInBounds_toArray, List.set_cons_zero, List.set_cons_succ]
            refine wpAnyL_takeD (i := 12) (v := (.pointer (some ⟨w10.heap.size, 0, none⟩))) 163 rfl (by rfl) (by kernel_rfl) (by kernel_rfl) (by kernel_rfl) (by omega) (by kernel_rfl) (fun _ _ _ h => h) (Or.inl ⟨by rfl, fun w hSw => by (try dsimp only at hSw); go_simp⟩) (by assumption) ?_
            try simp only [Act.put, List.setIfInBounds_toArray, List.set_cons_zero, List.set_cons_succ]
            refine wpAnyL_takeD (i := 13) (v := (.int .i64 1)) 164 rfl (by rfl) (by kernel_rfl) (by kernel_rfl) (by kernel_rfl) (by omega) (by kernel_rfl) (fun _ _ _ h => h) (Or.inl ⟨by rfl, fun w hSw => by (try dsimp only at hSw); go_simp⟩) (by assumption) ?_
            try simp only [Act.put, List.setIfInBounds_toArray, List.set_cons_zero, List.set_cons_succ]
            refine wpAnyL_takeD (i := 14) (v := (.bool true)) 165 rfl (by rfl) (by kernel_rfl) (by kernel_rfl) (by kernel_rfl) (by omega) (by kernel_rfl) (fun _ _ _ h => h) (Or.inl ⟨by rfl, fun w hSw => by (try dsimp only at hSw); go_simp⟩) (by assumption) ?_
            try simp only [Act.put, List.setIfInBounds_toArray, List.set_cons_zero, List.set_cons_succ]
            refine wpAnyL_takeD (i := 15) (v := (.bool true)) 166 rfl (by rfl) (by kernel_rfl) (by kernel_rfl) (by kernel_rfl) (by omega) (by kernel_rfl) (fun _ _ _ h => h) (Or.inl ⟨by rfl, fun w hSw => by (try dsimp only at hSw); go_simp⟩) (by assumption) ?_
            try simp only [Act.put, List.setIfInBounds_toArray, List.set_cons_zero, List.set_cons_succ]
            refine wpAnyL_takeD (i := 16) (v := (.bool true)) 167 rfl (by rfl) (by kernel_rfl) (by kernel_rfl) (by kernel_rfl) (by omega) (by kernel_rfl) (fun _ _ _ h => h) (Or.inl ⟨by rfl, fun w hSw => by (try dsimp only at hSw); go_simp⟩) (by assumption) ?_
            try simp only [Act.put, List.setIfInBounds_toArray, List.set_cons_zero, List.set_cons_succ]
            refine wpAnyL_takeD (i := 17) (v := (.pointer (some ⟨w8.heap.size, 2, none⟩))) 168 rfl (by rfl) (by kernel_rfl) (by kernel_rfl) (by kernel_rfl) (by omega) (by kernel_rfl) (fun _ _ _ h => h) (Or.inl ⟨by rfl, fun w hSw => by (try dsimp only at hSw); go_simp⟩) (by assumption) ?_
            try simp only [Act.put, List.setIfInBounds_toArray, List.set_cons_zero, List.set_cons_succ]
            refine wpAnyL_takeD (i := 18) (v := (.int .u32 (cd : Int))) 169 rfl (by rfl) (by kernel_rfl) (by kernel_rfl) (by kernel_rfl) (by omega) (by kernel_rfl) (fun _ _ _ h => h) (Or.inl ⟨by rfl, fun w hSw => by (try dsimp only at hSw); go_simp⟩) (by assumption) ?_
            try simp only [Act.put, List.setIfInBounds_toArray, List.set_cons_zero, List.set_cons_succ]
            refine wpAnyL_takeD (i := 19) (v := (.pointer (some ⟨w10.heap.size, 2, none⟩))) 170 rfl (by rfl) (by kernel_rfl) (by kernel_rfl) (by kernel_rfl) (by omega) (by kernel_rfl) (fun _ _ _ h => h) (Or.inl ⟨by rfl, fun w hSw => by (try dsimp only at hSw); go_simp⟩) (by assumption) ?_
            try simp only [Act.put, List.setIfInBounds_toArray, List.set_cons_zero, List.set_cons_succ]
            refine wpAnyL_takeD (i := 20) (v := (.int .u32 (cd : Int))) 171 rfl (by rfl) (by kernel_rfl) (by kernel_rfl) (by kernel_rfl) (by omega) (by kernel_rfl) (fun _ _ _ h => h) (Or.inl ⟨by rfl, fun w hSw => by (try dsimp only at hSw); go_simp⟩) (by assumption) ?_
            try simp only [Act.put, List.setIfInBounds_toArray, List.set_cons_zero, List.set_cons_succ]
            refine wpAnyL_takeD (i := 21) (v := (.bool true)) 172 rfl (by rfl) (by kernel_rfl) (by kernel_rfl) (by kernel_rfl) (by omega) (by kernel_rfl) (fun _ _ _ h => h) (Or.inl ⟨by rfl, fun w hSw => by (try dsimp only at hSw); go_simp⟩) (by assumption) ?_
            try simp only [Act.put, List.setIfInBounds_toArray, List.set_cons_zero, List.set_cons_succ]
            refine wpAnyL_takeD (i := 22) (v := (.bool true)) 173 rfl (by rfl) (by kernel_rfl) (by kernel_rfl) (by kernel_rfl) (by omega) (by kernel_rfl) (fun _ _ _ h => h) (Or.inl ⟨by rfl, fun w hSw => by (try dsimp only at hSw); go_simp⟩) (by assumption) ?_
            try simp only [Act.put, List.setIfInBounds_toArray, List.set_cons_zero, List.set_cons_succ]
            refine wpAnyL_takeD (i := 23) (v := (.bool true)) 174 rfl (by rfl) (by kernel_rfl) (by kernel_rfl) (by kernel_rfl) (by omega) (by kernel_rfl) (fun _ _ _ h => h) (Or.inl ⟨by rfl, fun w hSw => by (try dsimp only at hSw); go_simp⟩) (by assumption) ?_
            try simp only [Act.put, List.setIfInBounds_toArray, List.set_cons_zero, List.set_cons_succ]
            refine wpAnyL_takeD (i := 24) (v := (.agg #[.slice N1 nW c1])) 175 rfl (by rfl) (by kernel_rfl) (by kernel_rfl) (by kernel_rfl) (by omega) (by kernel_rfl) (fun _ _ _ h => h) (Or.inl ⟨by rfl, fun w hSw => by (try dsimp only at hSw); go_simp⟩) (by assumption) ?_
            try simp only [Act.put, List.setIfInBounds_toArray, List.set_cons_zero, List.set_cons_succ]
            refine wpAnyL_takeD (i := 25) (v := (.int .u32 (a : Int))) 176 rfl (by rfl) (by kernel_rfl) (by kernel_rfl) (by kernel_rfl) (by omega) (by kernel_rfl) (fun _ _ _ h => h) (Or.inl ⟨by rfl, fun w hSw => by (try dsimp only at hSw); go_simp⟩) (by assumption) ?_
            try simp only [Act.put, List.setIfInBounds_toArray, List.set_cons_zero, List.set_cons_succ]
            refine wpAnyL_takeD (i := 27) (v := (.agg #[.slice (some ⟨g0, 0, none⟩) nW nW])) 178 rfl (by rfl) (by kernel_rfl) (by kernel_rfl) (by kernel_rfl) (by omega) (by kernel_rfl) (fun _ _ _ h => h) (Or.inl ⟨by rfl, fun w hSw => by (try dsimp only at hSw); go_simp⟩) (by assumption) ?_
            try simp only [Act.put, List.setIfInBounds_toArray, List.set_cons_zero, List.set_cons_succ]
            refine wpAnyL_takeD (i := 28) (v := (.int .u32 (a : Int))) 179 rfl (by rfl) (by kernel_rfl) (by kernel_rfl) (by kernel_rfl) (by omega) (by kernel_rfl) (fun _ _ _ h => h) (Or.inl ⟨by rfl, fun w hSw => by (try dsimp only at hSw); go_simp⟩) (by assumption) ?_
            try simp only [Act.put, List.setIfInBounds_toArray, List.set_cons_zero, List.set_cons_succ]
            refine wpAnyL_one (i := 26) (by kernel_rfl) rfl fun K hK => ?_
            go_simp
            go_at_call 10
            refine (HC1.out _ (below_drew (Below.refl _ _))).mono ?_
            rintro e w15 ⟨rfl, hb15⟩
            have hq15 := below_drew' hb15
            have hS15 : (fun W : World => W.cell? ⟨w8.heap.size, 0, none⟩ = some (.int .i64 1) ∧ W.cell? ⟨w8.heap.size, 2, none⟩ = some (.int .u32 (cd : Int)) ∧ W.cell? ⟨w10.heap.size, 0, none⟩ = some (.int .i64 1) ∧ W.cell? ⟨w10.heap.size, 2, none⟩ = some (.int .u32 (cd : Int)) ∧ W.cell? ⟨w4.heap.size, 0, none⟩ = some (.slice N1 nW c1) ∧ W.cell? ⟨g0 + 1, 0, none⟩ = some (.slice (some ⟨g0, 0, none⟩) nW nW) ∧ W.cell? ⟨w11.heap.size, 0, none⟩ = some (.int .i64 1) ∧ W.cell? ⟨w11.heap.size, 1, none⟩ = some (.slice S np2 cp) ∧ W.cell? ⟨w11.heap.size, 2, none⟩ = some (.int .u32 0) ∧ W.cell? ⟨w11.heap.size, 3, none⟩ = some (.slice none 0 0)) w15 := KS.out _ hq15
            have HB15 := Lib.hid hq15
            clear hS0 hb15 hq15
            refine hK.out _ _ (fun _ => hS15) ?_
            clear hK K
            try simp only [Act.put, List.setIfInBounds_toArray, List.set_cons_zero, List.set_cons_succ]
            refine wpAnyL_one (i := 29) (by kernel_rfl) rfl fun K hK => ?_
            go_simp
            go_at_call 10
            refine (HC2.out _ HB15.out).mono ?_
            rintro e w16 ⟨rfl, hb16⟩
            have hq16 := HB15.out.trans (hb16.mono HB15.out.size)
            have hS16 : (fun W : World => W.cell? ⟨w8.heap.size, 0, none⟩ = some (.int .i64 1) ∧ W.cell? ⟨w8.heap.size, 2, none⟩ = some (.int .u32 (cd : Int)) ∧ W.cell? ⟨w10.heap.size, 0, none⟩ = some (.int .i64 1) ∧ W.cell? ⟨w10.heap.size, 2, none⟩ = some (.int .u32 (cd : Int)) ∧ W.cell? ⟨w4.heap.size, 0, none⟩ = some (.slice N1 nW c1) ∧ W.cell? ⟨g0 + 1, 0, none⟩ = some (.slice (some ⟨g0, 0, none⟩) nW nW) ∧ W.cell? ⟨w11.heap.size, 0, none⟩ = some (.int .i64 1) ∧ W.cell? ⟨w11.heap.size, 1, none⟩ = some (.slice S np2 cp) ∧ W.cell? ⟨w11.heap.size, 2, none⟩ = some (.int .u32 0) ∧ W.cell? ⟨w11.heap.size, 3, none⟩ = some (.slice none 0 0)) w16 := KS.out _ hq16
            have HB16 := Lib.hid hq16
            clear hS15 hb16 hq16
            refine hK.out _ _ (fun _ => hS16) ?_
            clear hK K
            try simp only [Act.put, List.setIfInBounds_toArray, List.set_cons_zero, List.set_cons_succ]
            refine wpAnyL_takeD (i := 30) (v := (.bool true)) 181 rfl (by rfl) (by kernel_rfl) (by kernel_rfl) (by kernel_rfl) (by omega) (by kernel_rfl) (fun _ _ _ h => h) (Or.inl ⟨by rfl, fun w hSw => by (try dsimp only at hSw); go_simp⟩) (by assumption) ?_
            try simp only [Act.put, List.setIfInBounds_toArray, List.set_cons_zero, List.set_cons_succ]
            refine wpAnyL_takeD (i := 31) (v := (.bool true)) 182 rfl (by rfl) (by kernel_rfl) (by kernel_rfl) (by kernel_rfl) (by omega) (by kernel_rfl) (fun _ _ _ h => h) (Or.inl ⟨by rfl, fun w hSw => by (try dsimp only at hSw); go_simp⟩) (by assumption) ?_
            try simp only [Act.put, List.setIfInBounds_toArray, List.set_cons_zero, List.set_cons_succ]
            refine wpAnyL_takeD (i := 32) (v := (.bool true)) 183 rfl (by rfl) (by kernel_rfl) (by kernel_rfl) (by kernel_rfl) (by omega) (by kernel_rfl) (fun _ _ _ h => h) (Or.inl ⟨by rfl, fun w hSw => by (try dsimp only at hSw); go_simp⟩) (by assumption) ?_
            try simp only [Act.put, List.setIfInBounds_toArray, List.set_cons_zero, List.set_cons_succ]
            refine wpAnyL_takeD (i := 33) (v := (.pointer (some ⟨w8.heap.size, 0, none⟩))) 184 rfl (by rfl) (by kernel_rfl) (by kernel_rfl) (by kernel_rfl) (by omega) (by kernel_rfl) (fun _ _ _ h => h) (Or.inl ⟨by rfl, fun w hSw => by (try dsimp only at hSw); go_simp⟩) (by assumption) ?_
            try simp only [Act.put, List.setIfInBounds_toArray, List.set_cons_zero, List.set_cons_succ]
            refine wpAnyL_takeD (i := 34) (v := (.int .i64 1)) 185 rfl (by rfl) (by kernel_rfl) (by kernel_rfl) (by kernel_rfl) (by omega) (by kernel_rfl) (fun _ _ _ h => h) (Or.inl ⟨by rfl, fun w hSw => by (try dsimp only at hSw); go_simp⟩) (by assumption) ?_
            try simp only [Act.put, List.setIfInBounds_toArray, List.set_cons_zero, List.set_cons_succ]
            refine wpAnyL_takeD (i := 35) (v := (.bool false)) 186 rfl (by rfl) (by kernel_rfl) (by kernel_rfl) (by kernel_rfl) (by omega) (by kernel_rfl) (fun _ _ _ h => h) (Or.inl ⟨by rfl, fun w hSw => by (try dsimp only at hSw); go_simp⟩) (by assumption) ?_
            try simp only [Act.put, List.setIfInBounds_toArray, List.set_cons_zero, List.set_cons_succ]
            refine wpAnyL_takeD (i := 36) (v := (.bool false)) 187 rfl (by rfl) (by kernel_rfl) (by kernel_rfl) (by kernel_rfl) (by omega) (by kernel_rfl) (fun _ _ _ h => h) (Or.inl ⟨by rfl, fun w hSw => by (try dsimp only at hSw); go_simp⟩) (by assumption) ?_
            try simp only [Act.put, List.setIfInBounds_toArray, List.set_cons_zero, List.set_cons_succ]
            refine wpAnyL_takeD (i := 37) (v := (.agg #[.slice N1 nW c1])) 188 rfl (by rfl) (by kernel_rfl) (by kernel_rfl) (by kernel_rfl) (by omega) (by kernel_rfl) (fun _ _ _ h => h) (Or.inl ⟨by rfl, fun w hSw => by (try dsimp only at hSw); go_simp⟩) (by assumption) ?_
            try simp only [Act.put, List.setIfInBounds_toArray, List.set_cons_zero, List.set_cons_succ]
            refine wpAnyL_takeD (i := 38) (v := (.agg #[.int .i64 1, .slice S np2 cp, .int .u32 0, .slice none 0 0])) 189 rfl (by rfl) (by kernel_rfl) (by kernel_rfl) (by kernel_rfl) (by omega) (by kernel_rfl) (fun _ _ _ h => h) (Or.inl ⟨by rfl, fun w hSw => by (try dsimp only at hSw); go_simp⟩) (by assumption) ?_
            try simp only [Act.put, List.setIfInBounds_toArray, List.set_cons_zero, List.set_cons_succ]
            refine wpAnyL_takeD (i := 40) (v := (.agg #[.int .i64 1, .int .i64 0])) 191 rfl (by rfl) (by kernel_rfl) (by kernel_rfl) (by kernel_rfl) (by omega) (by kernel_rfl) (fun _ _ _ h => h) (Or.inl ⟨by rfl, fun w hSw => by (try dsimp only at hSw); go_simp⟩) (by assumption) ?_
            try simp only [Act.put, List.setIfInBounds_toArray, List.set_cons_zero, List.set_cons_succ]
            refine wpAnyL_one (i := 39) (by kernel_rfl) rfl fun K hK => ?_
            go_simp
            go_at_call 9
            refine (HCK.out _ HB16.out).mono ?_
            rintro e w17 ⟨rfl, hb17⟩
            have hq17 := HB16.out.trans (hb17.mono HB16.out.size)
            have hS17 : (fun W : World => W.cell? ⟨w8.heap.size, 0, none⟩ = some (.int .i64 1) ∧ W.cell? ⟨w8.heap.size, 2, none⟩ = some (.int .u32 (cd : Int)) ∧ W.cell? ⟨w10.heap.size, 0, none⟩ = some (.int .i64 1) ∧ W.cell? ⟨w10.heap.size, 2, none⟩ = some (.int .u32 (cd : Int)) ∧ W.cell? ⟨w4.heap.size, 0, none⟩ = some (.slice N1 nW c1) ∧ W.cell? ⟨g0 + 1, 0, none⟩ = some (.slice (some ⟨g0, 0, none⟩) nW nW) ∧ W.cell? ⟨w11.heap.size, 0, none⟩ = some (.int .i64 1) ∧ W.cell? ⟨w11.heap.size, 1, none⟩ = some (.slice S np2 cp) ∧ W.cell? ⟨w11.heap.size, 2, none⟩ = some (.int .u32 0) ∧ W.cell? ⟨w11.heap.size, 3, none⟩ = some (.slice none 0 0)) w17 := KS.out _ hq17
            have HB17 := Lib.hid hq17
            clear hS16 hb17 hq17
            refine hK.out _ _ (fun _ => hS17) ?_
            clear hK K
            try simp only [Act.put, List.setIfInBounds_toArray, List.set_cons_zero, List.set_cons_succ]
            refine wpAnyL_takeD (i := 41) (v := (.bool true)) 192 rfl (by rfl) (by kernel_rfl) (by kernel_rfl) (by kernel_rfl) (by omega) (by kernel_rfl) (fun _ _ _ h => h) (Or.inl ⟨by rfl, fun w hSw => by (try dsimp only at hSw); go_simp⟩) (by assumption) ?_
            try simp only [Act.put, List.setIfInBounds_toArray, List.set_cons_zero, List.set_cons_succ]
            refine wpAnyL_takeD (i := 42) (v := (.bool true)) 193 rfl (by rfl) (by kernel_rfl) (by kernel_rfl) (by kernel_rfl) (by omega) (by kernel_rfl) (fun _ _ _ h => h) (Or.inl ⟨by rfl, fun w hSw => by (try dsimp only at hSw); go_simp⟩) (by assumption) ?_
            try simp only [Act.put, List.setIfInBounds_toArray, List.set_cons_zero, List.set_cons_succ]
            refine wpAnyL_takeD (i := 43) (v := (.bool true)) 194 rfl (by rfl) (by kernel_rfl) (by kernel_rfl) (by kernel_rfl) (by omega) (by kernel_rfl) (fun _ _ _ h => h) (Or.inl ⟨by rfl, fun w hSw => by (try dsimp only at hSw); go_simp⟩) (by assumption) ?_
            try simp only [Act.put, List.setIfInBounds_toArray, List.set_cons_zero, List.set_cons_succ]
            refine wpAnyL_takeD (i := 44) (v := (.bool true)) 4 rfl (by rfl) (by kernel_rfl) (by kernel_rfl) (by kernel_rfl) (by omega) (by kernel_rfl) (fun _ _ _ h => h) (Or.inl ⟨by rfl, fun w hSw => by (try dsimp only at hSw); go_simp⟩) (by assumption) ?_
            try simp only [Act.put, List.setIfInBounds_toArray, List.set_cons_zero, List.set_cons_succ]
            refine wpAnyL_done (by kernel_rfl) ?_ _
            go_wp2_with fail
            go_ret
            exact ⟨rfl, KB.out _ HB17.out⟩
          · clear HBQ HP
            go_wp2_with fail
            refine wp_region_L (S := fun W => W.cell? ⟨w8.heap.size, 0, none⟩ = some (.int .i64 2) ∧ W.cell? ⟨w8.heap.size, 2, none⟩ = some (.int .u32 (cd : Int)) ∧ W.cell? ⟨w10.heap.size, 0, none⟩ = some (.int .i64 2) ∧ W.cell? ⟨w10.heap.size, 2, none⟩ = some (.int .u32 (cd : Int)) ∧ W.cell? ⟨w4.heap.size, 0, none⟩ = some (.slice N1 nW c1) ∧ W.cell? ⟨g0 + 1, 0, none⟩ = some (.slice (some ⟨g0, 0, none⟩) nW nW) ∧ W.cell? ⟨w11.heap.size, 0, none⟩ = some (.int .i64 2) ∧ W.cell? ⟨w11.heap.size, 1, none⟩ = some (.slice S np2 cp) ∧ W.cell? ⟨w11.heap.size, 2, none⟩ = some (.int .u32 0) ∧ W.cell? ⟨w11.heap.size, 3, none⟩ = some (.slice none 0 0)) (f := 45) (by kernel_rfl) ?_
            have hS0 : (fun W : World => W.cell? ⟨w8.heap.size, 0, none⟩ = some (.int .i64 2) ∧ W.cell? ⟨w8.heap.size, 2, none⟩ = some (.int .u32 (cd : Int)) ∧ W.cell? ⟨w10.heap.size, 0, none⟩ = some (.int .i64 2) ∧ W.cell? ⟨w10.heap.size, 2, none⟩ = some (.int .u32 (cd : Int)) ∧ W.cell? ⟨w4.heap.size, 0, none⟩ = some (.slice N1 nW c1) ∧ W.cell? ⟨g0 + 1, 0, none⟩ = some (.slice (some ⟨g0, 0, none⟩) nW nW) ∧ W.cell? ⟨w11.heap.size, 0, none⟩ = some (.int .i64 2) ∧ W.cell? ⟨w11.heap.size, 1, none⟩ = some (.slice S np2 cp) ∧ W.cell? ⟨w11.heap.size, 2, none⟩ = some (.int .u32 0) ∧ W.cell? ⟨w11.heap.size, 3, none⟩ = some (.slice none 0 0)) wj.drew := KS.out _ (below_drew (Below.refl _ _))
            clear q1
            refine wpAnyL_takeD (i := 0) (v := (.bool true)) 151 rfl (by rfl) (by kernel_rfl) (by kernel_rfl) (by kernel_rfl) (by omega) (by kernel_rfl) (fun _ _ _ h => h) (Or.inl ⟨by rfl, fun w hSw => by (try dsimp only at hSw); go_simp⟩) (by assumption) ?_
            try simp only [Act.put, List.setIfInBounds_toArray, List.set_cons_zero, List.set_cons_succ]
            refine wpAnyL_takeD (i := 1) (v := (.bool true)) 152 rfl (by rfl) (by kernel_rfl) (by kernel_rfl) (by kernel_rfl) (by omega) (by kernel_rfl) (fun _ _ _ h => h) (Or.inl ⟨by rfl, fun w hSw => by (try dsimp only at hSw); go_simp⟩) (by assumption) ?_
            try simp only [Act.put, List.setIfInBounds_toArray, List.set_cons_zero, List.set_cons_succ]
            refine wpAnyL_takeD (i := 2) (v := (.int .i64 0)) 153 rfl (by rfl) (by kernel_rfl) (by kernel_rfl) (by kernel_rfl) (by omega) (by kernel_rfl) (fun _ _ _ h => h) (Or.inl ⟨by rfl, fun w hSw => by (try dsimp only at hSw); go_simp⟩) (by assumption) ?_
            try simp only [Act.put, List.setIfInBounds_toArray, List.set_cons_zero, List.set_cons_succ]
            refine wpAnyL_takeD (i := 3) (v := (.bool true)) 154 rfl (by rfl) (by kernel_rfl) (by kernel_rfl) (by kernel_rfl) (by omega) (by kernel_rfl) (fun _ _ _ h => h) (Or.inl ⟨by rfl, fun w hSw => by (try dsimp only at hSw); go_simp⟩) (by assumption) ?_
            try simp only [Act.put, List.setIfInBounds_toArray, List.set_cons_zero, List.set_cons_succ]
            refine wpAnyL_takeD (i := 4) (v := (.bool true)) 155 rfl (by rfl) (by kernel_rfl) (by kernel_rfl) (by kernel_rfl) (by omega) (by kernel_rfl) (fun _ _ _ h => h) (Or.inl ⟨by rfl, fun w hSw => by (try dsimp only at hSw); go_simp⟩) (by assumption) ?_
            try simp only [Act.put, List.setIfInBounds_toArray, List.set_cons_zero, List.set_cons_succ]
            refine wpAnyL_takeD (i := 5) (v := (.bool true)) 156 rfl (by rfl) (by kernel_rfl) (by kernel_rfl) (by kernel_rfl) (by omega) (by kernel_rfl) (fun _ _ _ h => h) (Or.inl ⟨by rfl, fun w hSw => by (try dsimp only at hSw); go_simp⟩) (by assumption) ?_
            try simp only [Act.put, List.setIfInBounds_toArray, List.set_cons_zero, List.set_cons_succ]
            refine wpAnyL_takeD (i := 6) (v := (.int .i64 0)) 157 rfl (by rfl) (by kernel_rfl) (by kernel_rfl) (by kernel_rfl) (by omega) (by kernel_rfl) (fun _ _ _ h => h) (Or.inl ⟨by rfl, fun w hSw => by (try dsimp only at hSw); go_simp⟩) (by assumption) ?_
            try simp only [Act.put, List.setIfInBounds_toArray, List.set_cons_zero, List.set_cons_succ]
            refine wpAnyL_takeD (i := 7) (v := (.bool true)) 158 rfl (by rfl) (by kernel_rfl) (by kernel_rfl) (by kernel_rfl) (by omega) (by kernel_rfl) (fun _ _ _ h => h) (Or.inl ⟨by rfl, fun w hSw => by (try dsimp only at hSw); go_simp⟩) (by assumption) ?_
            try simp only [Act.put, List.setIfInBounds_toArray, List.set_cons_zero, List.set_cons_succ]
            refine wpAnyL_takeD (i := 8) (v := (.bool true)) 159 rfl (by rfl) (by kernel_rfl) (by kernel_rfl) (by kernel_rfl) (by omega) (by kernel_rfl) (fun _ _ _ h => h) (Or.inl ⟨by rfl, fun w hSw => by (try dsimp only at hSw); go_simp⟩) (by assumption) ?_
            try simp only [Act.put, List.setIfInBounds_toArray, List.set_cons_zero, List.set_cons_succ]
            refine wpAnyL_takeD (i := 9) (v := (.bool true)) 160 rfl (by rfl) (by kernel_rfl) (by kernel_rfl) (by kernel_rfl) (by omega) (by kernel_rfl) (fun _ _ _ h => h) (Or.inl ⟨by rfl, fun w hSw => by (try dsimp only at hSw); go_simp⟩) (by assumption) ?_
            try simp only [Act.put, List.setIfInBounds_toArray, List.set_cons_zero, List.set_cons_succ]
            refine wpAnyL_takeD (i := 10) (v := (.pointer (some ⟨w8.heap.size, 0, none⟩))) 161 rfl (by rfl) (by kernel_rfl) (by kernel_rfl) (by kernel_rfl) (by omega) (by kernel_rfl) (fun _ _ _ h => h) (Or.inl ⟨by rfl, fun w hSw => by (try dsimp only at hSw); go_simp⟩) (by assumption) ?_
            try simp only [Act.put, List.setIfInBounds_toArray, List.set_cons_zero, List.set_cons_succ]
            refine wpAnyL_takeD (i := 11) (v := (.int .i64 2)) 162 rfl (by rfl) (by kernel_rfl) (by kernel_rfl) (by kernel_rfl) (by omega) (by kernel_rfl) (fun _ _ _ h => h) (Or.inl ⟨by rfl, fun w hSw => by (try dsimp only at hSw); go_simp⟩) (by assumption) ?_
            try simp only [Act.put, List.setIfInBounds_toArray, List.set_cons_zero, List.set_cons_succ]
            refine wpAnyL_takeD (i := 12) (v := (.pointer (some ⟨w10.heap.size, 0, none⟩))) 163 rfl (by rfl) (by kernel_rfl) (by kernel_rfl) (by kernel_rfl) (by omega) (by kernel_rfl) (fun _ _ _ h => h) (Or.inl ⟨by rfl, fun w hSw => by (try dsimp only at hSw); go_simp⟩) (by assumption) ?_
            try simp only [Act.put, List.setIfInBounds_toArray, List.set_cons_zero, List.set_cons_succ]
            refine wpAnyL_takeD (i := 13) (v := (.int .i64 2)) 164 rfl (by rfl) (by kernel_rfl) (by kernel_rfl) (by kernel_rfl) (by omega) (by kernel_rfl) (fun _ _ _ h => h) (Or.inl ⟨by rfl, fun w hSw => by (try dsimp only at hSw); go_simp⟩) (by assumption) ?_
            try simp only [Act.put, List.setIfInBounds_toArray, List.set_cons_zero, List.set_cons_succ]
            refine wpAnyL_takeD (i := 14) (v := (.bool true)) 165 rfl (by rfl) (by kernel_rfl) (by kernel_rfl) (by kernel_rfl) (by omega) (by kernel_rfl) (fun _ _ _ h => h) (Or.inl ⟨by rfl, fun w hSw => by (try dsimp only at hSw); go_simp⟩) (by assumption) ?_
            try simp only [Act.put, List.setIfInBounds_toArray, List.set_cons_zero, List.set_cons_succ]
            refine wpAnyL_takeD (i := 15) (v := (.bool true)) 166 rfl (by rfl) (by kernel_rfl) (by kernel_rfl) (by kernel_rfl) (by omega) (by kernel_rfl) (fun _ _ _ h => h) (Or.inl ⟨by rfl, fun w hSw => by (try dsimp only at hSw); go_simp⟩) (by assumption) ?_
            try simp only [Act.put, List.setIfInBounds_toArray, List.set_cons_zero, List.set_cons_succ]
            refine wpAnyL_takeD (i := 16) (v := (.bool true)) 167 rfl (by rfl) (by kernel_rfl) (by kernel_rfl) (by kernel_rfl) (by omega) (by kernel_rfl) (fun _ _ _ h => h) (Or.inl ⟨by rfl, fun w hSw => by (try dsimp only at hSw); go_simp⟩) (by assumption) ?_
            try simp only [Act.put, List.setIfInBounds_toArray, List.set_cons_zero, List.set_cons_succ]
            refine wpAnyL_takeD (i := 17) (v := (.pointer (some ⟨w8.heap.size, 2, none⟩))) 168 rfl (by rfl) (by kernel_rfl) (by kernel_rfl) (by kernel_rfl) (by omega) (by kernel_rfl) (fun _ _ _ h => h) (Or.inl ⟨by rfl, fun w hSw => by (try dsimp only at hSw); go_simp⟩) (by assumption) ?_
            try simp only [Act.put, List.setIfInBounds_toArray, List.set_cons_zero, List.set_cons_succ]
            refine wpAnyL_takeD (i := 18) (v := (.int .u32 (cd : Int))) 169 rfl (by rfl) (by kernel_rfl) (by kernel_rfl) (by kernel_rfl) (by omega) (by kernel_rfl) (fun _ _ _ h => h) (Or.inl ⟨by rfl, fun w hSw => by (try dsimp only at hSw); go_simp⟩) (by assumption) ?_
            try simp only [Act.put, List.setIfInBounds_toArray, List.set_cons_zero, List.set_cons_succ]
            refine wpAnyL_takeD (i := 19) (v := (.pointer (some ⟨w10.heap.size, 2, none⟩))) 170 rfl (by rfl) (by kernel_rfl) (by kernel_rfl) (by kernel_rfl) (by omega) (by kernel_rfl) (fun _ _ _ h => h) (Or.inl ⟨by rfl, fun w hSw => by (try dsimp only at hSw); go_simp⟩) (by assumption) ?_
            try simp only [Act.put, List.setIfInBounds_toArray, List.set_cons_zero, List.set_cons_succ]
            refine wpAnyL_takeD (i := 20) (v := (.int .u32 (cd : Int))) 171 rfl (by rfl) (by kernel_rfl) (by kernel_rfl) (by kernel_rfl) (by omega) (by kernel_rfl) (fun _ _ _ h => h) (Or.inl ⟨by rfl, fun w hSw => by (try dsimp only at hSw); go_simp⟩) (by assumption) ?_
            try simp only [Act.put, List.setIfInBounds_toArray, List.set_cons_zero, List.set_cons_succ]
            refine wpAnyL_takeD (i := 21) (v := (.bool true)) 172 rfl (by rfl) (by kernel_rfl) (by kernel_rfl) (by kernel_rfl) (by omega) (by kernel_rfl) (fun _ _ _ h => h) (Or.inl ⟨by rfl, fun w hSw => by (try dsimp only at hSw); go_simp⟩) (by assumption) ?_
            try simp only [Act.put, List.setIfInBounds_toArray, List.set_cons_zero, List.set_cons_succ]
            refine wpAnyL_takeD (i := 22) (v := (.bool true)) 173 rfl (by rfl) (by kernel_rfl) (by kernel_rfl) (by kernel_rfl) (by omega) (by kernel_rfl) (fun _ _ _ h => h) (Or.inl ⟨by rfl, fun w hSw => by (try dsimp only at hSw); go_simp⟩) (by assumption) ?_
            try simp only [Act.put, List.setIfInBounds_toArray, List.set_cons_zero, List.set_cons_succ]
            refine wpAnyL_takeD (i := 23) (v := (.bool true)) 174 rfl (by rfl) (by kernel_rfl) (by kernel_rfl) (by kernel_rfl) (by omega) (by kernel_rfl) (fun _ _ _ h => h) (Or.inl ⟨by rfl, fun w hSw => by (try dsimp only at hSw); go_simp⟩) (by assumption) ?_
            try simp only [Act.put, List.setIfInBounds_toArray, List.set_cons_zero, List.set_cons_succ]
            refine wpAnyL_takeD (i := 24) (v := (.agg #[.slice N1 nW c1])) 175 rfl (by rfl) (by kernel_rfl) (by kernel_rfl) (by kernel_rfl) (by omega) (by kernel_rfl) (fun _ _ _ h => h) (Or.inl ⟨by rfl, fun w hSw => by (try dsimp only at hSw); go_simp⟩) (by assumption) ?_
            try simp only [Act.put, List.setIfInBounds_toArray, List.set_cons_zero, List.set_cons_succ]
            refine wpAnyL_takeD (i := 25) (v := (.int .u32 (a : Int))) 176 rfl (by rfl) (by kernel_rfl) (by kernel_rfl) (by kernel_rfl) (by omega) (by kernel_rfl) (fun _ _ _ h => h) (Or.inl ⟨by rfl, fun w hSw => by (try dsimp only at hSw); go_simp⟩) (by assumption) ?_
            try simp only [Act.put, List.setIfInBounds_toArray, List.set_cons_zero, List.set_cons_succ]
            refine wpAnyL_takeD (i := 27) (v := (.agg #[.slice (some ⟨g0, 0, none⟩) nW nW])) 178 rfl (by rfl) (by kernel_rfl) (by kernel_rfl) (by kernel_rfl) (by omega) (by kernel_rfl) (fun _ _ _ h => h) (Or.inl ⟨by rfl, fun w hSw => by (try dsimp only at hSw); go_simp⟩) (by assumption) ?_
            try simp only [Act.put, List.setIfInBounds_toArray, List.set_cons_zero, List.set_cons_succ]
            refine wpAnyL_takeD (i := 28) (v := (.int .u32 (a : Int))) 179 rfl (by rfl) (by kernel_rfl) (by kernel_rfl) (by kernel_rfl) (by omega) (by kernel_rfl) (fun _ _ _ h => h) (Or.inl ⟨by rfl, fun w hSw => by (try dsimp only at hSw); go_simp⟩) (by assumption) ?_
            try simp only [Act.put, List.setIfInBounds_toArray, List.set_cons_zero, List.set_cons_succ]
            refine wpAnyL_one (i := 26) (by kernel_rfl) rfl fun K hK => ?_
            go_simp
            go_at_call 10
            refine (HC1.out _ (below_drew (Below.refl _ _))).mono ?_
            rintro e w15 ⟨rfl, hb15⟩
            have hq15 := below_drew' hb15
            have hS15 : (fun W : World => W.cell? ⟨w8.heap.size, 0, none⟩ = some (.int .i64 2) ∧ W.cell? ⟨w8.heap.size, 2, none⟩ = some (.int .u32 (cd : Int)) ∧ W.cell? ⟨w10.heap.size, 0, none⟩ = some (.int .i64 2) ∧ W.cell? ⟨w10.heap.size, 2, none⟩ = some (.int .u32 (cd : Int)) ∧ W.cell? ⟨w4.heap.size, 0, none⟩ = some (.slice N1 nW c1) ∧ W.cell? ⟨g0 + 1, 0, none⟩ = some (.slice (some ⟨g0, 0, none⟩) nW nW) ∧ W.cell? ⟨w11.heap.size, 0, none⟩ = some (.int .i64 2) ∧ W.cell? ⟨w11.heap.size, 1, none⟩ = some (.slice S np2 cp) ∧ W.cell? ⟨w11.heap.size, 2, none⟩ = some (.int .u32 0) ∧ W.cell? ⟨w11.heap.size, 3, none⟩ = some (.slice none 0 0)) w15 := KS.out _ hq15
            have HB15 := Lib.hid hq15
            clear hS0 hb15 hq15
            refine hK.out _ _ (fun _ => hS15) ?_
            clear hK K
            try simp only [Act.put, List.setIfInBounds_toArray, List.set_cons_zero, List.set_cons_succ]
            refine wpAnyL_one (i := 29) (by kernel_rfl) rfl fun K hK => ?_
            go_simp
            go_at_call 10
            refine (HC2.out _ HB15.out).mono ?_
            rintro e w16 ⟨rfl, hb16⟩
            have hq16 := HB15.out.trans (hb16.mono HB15.out.size)
            have hS16 : (fun W : World => W.cell? ⟨w8.heap.size, 0, none⟩ = some (.int .i64 2) ∧ W.cell? ⟨w8.heap.size, 2, none⟩ = some (.int .u32 (cd : Int)) ∧ W.cell? ⟨w10.heap.size, 0, none⟩ = some (.int .i64 2) ∧ W.cell? ⟨w10.heap.size, 2, none⟩ = some (.int .u32 (cd : Int)) ∧ W.cell? ⟨w4.heap.size, 0, none⟩ = some (.slice N1 nW c1) ∧ W.cell? ⟨g0 + 1, 0, none⟩ = some (.slice (some ⟨g0, 0, none⟩) nW nW) ∧ W.cell? ⟨w11.heap.size, 0, none⟩ = some (.int .i64 2) ∧ W.cell? ⟨w11.heap.size, 1, none⟩ = some (.slice S np2 cp) ∧ W.cell? ⟨w11.heap.size, 2, none⟩ = some (.int .u32 0) ∧ W.cell? ⟨w11.heap.size, 3, none⟩ = some (.slice none 0 0)) w16 := KS.out _ hq16
            have HB16 := Lib.hid hq16
            clear hS15 hb16 hq16
            refine hK.out _ _ (fun _ => hS16) ?_
            clear hK K
            try simp only [Act.put, List.setIfInBounds_toArray, List.set_cons_zero, List.set_cons_succ]
            refine wpAnyL_takeD (i := 30) (v := (.bool true)) 181 rfl (by rfl) (by kernel_rfl) (by kernel_rfl) (by kernel_rfl) (by omega) (by kernel_rfl) (fun _ _ _ h => h) (Or.inl ⟨by rfl, fun w hSw => by (try dsimp only at hSw); go_simp⟩) (by assumption) ?_
            try simp only [Act.put, List.setIfInBounds_toArray, List.set_cons_zero, List.set_cons_succ]
            refine wpAnyL_takeD (i := 31) (v := (.bool true)) 182 rfl (by rfl) (by kernel_rfl) (by kernel_rfl) (by kernel_rfl) (by omega) (by kernel_rfl) (fun _ _ _ h => h) (Or.inl ⟨by rfl, fun w hSw => by (try dsimp only at hSw); go_simp⟩) (by assumption) ?_
            try simp only [Act.put, List.setIfInBounds_toArray, List.set_cons_zero, List.set_cons_succ]
            refine wpAnyL_takeD (i := 32) (v := (.bool true)) 183 rfl (by rfl) (by kernel_rfl) (by kernel_rfl) (by kernel_rfl) (by omega) (by kernel_rfl) (fun _ _ _ h => h) (Or.inl ⟨by rfl, fun w hSw => by (try dsimp only at hSw); go_simp⟩) (by assumption) ?_
            try simp only [Act.put, List.setIfInBounds_toArray, List.set_cons_zero, List.set_cons_succ]
            refine wpAnyL_takeD (i := 33) (v := (.pointer (some ⟨w8.heap.size, 0, none⟩))) 184 rfl (by rfl) (by kernel_rfl) (by kernel_rfl) (by kernel_rfl) (by omega) (by kernel_rfl) (fun _ _ _ h => h) (Or.inl ⟨by rfl, fun w hSw => by (try dsimp only at hSw); go_simp⟩) (by assumption) ?_
            try simp only [Act.put, List.setIfInBounds_toArray, List.set_cons_zero, List.set_cons_succ]
            refine wpAnyL_takeD (i := 34) (v := (.int .i64 2)) 185 rfl (by rfl) (by kernel_rfl) (by kernel_rfl) (by kernel_rfl) (by omega) (by kernel_rfl) (fun _ _ _ h => h) (Or.inl ⟨by rfl, fun w hSw => by (try dsimp only at hSw); go_simp⟩) (by assumption) ?_
            try simp only [Act.put, List.setIfInBounds_toArray, List.set_cons_zero, List.set_cons_succ]
            refine wpAnyL_takeD (i := 35) (v := (.bool true)) 186 rfl (by rfl) (by kernel_rfl) (by kernel_rfl) (by kernel_rfl) (by omega) (by kernel_rfl) (fun _ _ _ h => h) (Or.inl ⟨by rfl, fun w hSw => by (try dsimp only at hSw); go_simp⟩) (by assumption) ?_
            try simp only [Act.put, List.setIfInBounds_toArray, List.set_cons_zero, List.set_cons_succ]
            refine wpAnyL_takeD (i := 36) (v := (.bool true)) 187 rfl (by rfl) (by kernel_rfl) (by kernel_rfl) (by kernel_rfl) (by omega) (by kernel_rfl) (fun _ _ _ h => h) (Or.inl ⟨by rfl, fun w hSw => by (try dsimp only at hSw); go_simp⟩) (by assumption) ?_
            try simp only [Act.put, List.setIfInBounds_toArray, List.set_cons_zero, List.set_cons_succ]
            refine wpAnyL_takeD (i := 37) (v := undef) 188 rfl (by rfl) (by kernel_rfl) (by kernel_rfl) (by kernel_rfl) (by omega) (by kernel_rfl) (fun _ _ _ h => h) (Or.inr ⟨by rfl, rfl⟩) (by assumption) ?_
            try simp only [Act.put, List.setIfInBounds_toArray, List.set_cons_zero, List.set_cons_succ]
            refine wpAnyL_takeD (i := 38) (v := undef) 189 rfl (by rfl) (by kernel_rfl) (by kernel_rfl) (by kernel_rfl) (by omega) (by kernel_rfl) (fun _ _ _ h => h) (Or.inr ⟨by rfl, rfl⟩) (by assumption) ?_
            try simp only [Act.put, List.setIfInBounds_toArray, List.set_cons_zero, List.set_cons_succ]
            refine wpAnyL_takeD (i := 39) (v := undef) 190 rfl (by rfl) (by kernel_rfl) (by kernel_rfl) (by kernel_rfl) (by omega) (by kernel_rfl) (fun _ _ _ h => h) (Or.inr ⟨by rfl, rfl⟩) (by assumption) ?_
            try simp only [Act.put, List.setIfInBounds_toArray, List.set_cons_zero, List.set_cons_succ]
            refine wpAnyL_takeD (i := 40) (v := undef) 191 rfl (by rfl) (by kernel_rfl) (by kernel_rfl) (by kernel_rfl) (by omega) (by kernel_rfl) (fun _ _ _ h => h) (Or.inr ⟨by rfl, rfl⟩) (by assumption) ?_
            try simp only [Act.put, List.setIfInBounds_toArray, List.set_cons_zero, List.set_cons_succ]
            refine wpAnyL_takeD (i := 41) (v := undef) 192 rfl (by rfl) (by kernel_rfl) (by kernel_rfl) (by kernel_rfl) (by omega) (by kernel_rfl) (fun _ _ _ h => h) (Or.inr ⟨by rfl, rfl⟩) (by assumption) ?_
            try simp only [Act.put, List.setIfInBounds_toArray, List.set_cons_zero, List.set_cons_succ]
            refine wpAnyL_takeD (i := 42) (v := (.bool true)) 193 rfl (by rfl) (by kernel_rfl) (by kernel_rfl) (by kernel_rfl) (by omega) (by kernel_rfl) (fun _ _ _ h => h) (Or.inl ⟨by rfl, fun w hSw => by (try dsimp only at hSw); go_simp⟩) (by assumption) ?_
            try simp only [Act.put, List.setIfInBounds_toArray, List.set_cons_zero, List.set_cons_succ]
            refine wpAnyL_takeD (i := 43) (v := (.bool true)) 194 rfl (by rfl) (by kernel_rfl) (by kernel_rfl) (by kernel_rfl) (by omega) (by kernel_rfl) (fun _ _ _ h => h) (Or.inl ⟨by rfl, fun w hSw => by (try dsimp only at hSw); go_simp⟩) (by assumption) ?_
            try simp only [Act.put, List.setIfInBounds_toArray, List.set_cons_zero, List.set_cons_succ]
            refine wpAnyL_takeD (i := 44) (v := (.bool true)) 4 rfl (by rfl) (by kernel_rfl) (by kernel_rfl) (by kernel_rfl) (by omega) (by kernel_rfl) (fun _ _ _ h => h) (Or.inl ⟨by rfl, fun w hSw => by (try dsimp only at hSw); go_simp⟩) (by assumption) ?_
            try simp only [Act.put, List.setIfInBounds_toArray, List.set_cons_zero, List.set_cons_succ]
            refine wpAnyL_done (by kernel_rfl) ?_ _
            go_wp2_with fail
            go_ret
            exact ⟨rfl, KB.out _ HB16.out⟩
end Go.Proofs.YtpjoefekhgmlhaaGreat.Tp
