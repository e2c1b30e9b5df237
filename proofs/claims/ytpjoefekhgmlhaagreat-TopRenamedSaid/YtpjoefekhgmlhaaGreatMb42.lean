/- CONTRACT of theseustop.TopSwaps: it answers true. Conditions: the numbers fit their kinds. · PLAIN: the certificate of a network where no address goes round is accepted: at each point of a part the vector is the atom's. No program in sight. -/
import Derived.Test.YtpjoefekhgmlhaaGreatMb41
namespace Go.Proofs.YtpjoefekhgmlhaaGreat.Tp
open Go.RowKit Mem

set_option maxRecDepth 100000 in
set_option maxHeartbeats 4000000 in
theorem topswaps_any (A B : Option Addr) (cA cB : Nat) (n m : List (List RuleZ)) (a : Nat) (w : World) (hA : NetZAt w A n) (hB : NetZAt w B m) (hn : ∀ l ∈ n, ∀ r ∈ l, RuleZOk r) (hm : ∀ l ∈ m, ∀ r ∈ l, RuleZOk r) (ha : a < 4294967296) :
    Calls Tryz.prog 3 #[.agg #[.slice A n.length cA], .agg #[.slice B m.length cB], .int .u32 (a : Int)] w fun e w' => e = .returned (.bool true) ∧ Below w.heap.size w w' := by
  obtain ⟨W, hW⟩ : ∃ W, W = fitN n := ⟨_, rfl⟩
  obtain ⟨U, hU⟩ : ∃ U, U = fitN m := ⟨_, rfl⟩
  have sW : Small W := by rw [hW]; exact small_fit hn
  have sU : Small U := by rw [hU]; exact small_fit hm
  obtain ⟨cc, hcc⟩ : ∃ cc, cc = certOf W := ⟨_, rfl⟩
  obtain ⟨nA, hnA⟩ : ∃ nA, nA = n.length := ⟨_, rfl⟩
  obtain ⟨nB, hnB⟩ : ∃ nB, nB = m.length := ⟨_, rfl⟩
  obtain ⟨nW, hnW⟩ : ∃ nW, nW = W.length := ⟨_, rfl⟩
  obtain ⟨nU, hnU⟩ : ∃ nU, nU = U.length := ⟨_, rfl⟩
  obtain ⟨cv, hcv⟩ : ∃ cv, cv = cc.verdict := ⟨_, rfl⟩
  obtain ⟨cd, hcd⟩ : ∃ cd, cd = cc.dest := ⟨_, rfl⟩
  obtain ⟨np, hnp⟩ : ∃ np, np = cc.parts.length := ⟨_, rfl⟩
  obtain ⟨nt, hnt⟩ : ∃ nt, nt = cc.trace.length := ⟨_, rfl⟩
  have hfW : ∀ w, NetZAt w A n → Calls Tryz.prog 7 #[.agg #[.slice A nA cA]] w (NetZPost w W) := fun w hA => by rw [hnA, hW]; exact nfit_any A cA n w hA hn
  have hfU : ∀ w, NetZAt w B m → Calls Tryz.prog 7 #[.agg #[.slice B nB cB]] w (NetZPost w U) := fun w hB => by rw [hnB, hU]; exact nfit_any B cB m w hB hm
  have hok : CertOk W.length cc := by rw [hcc]; exact sW.cert
  obtain ⟨ans, hans⟩ : ∃ ans, ans = ansN U (cutsL U) W.length cc := ⟨_, rfl⟩
  have han : ∀ N cN w, NetAt w N W → Calls Tryz.prog 8 #[.agg #[.slice N nW cN]] w (AnPost w cc) := fun N cN w hN => by rw [hnW, hcc]; exact sW.anet N cN w hN
  have hck : ∀ N cN v w, NetAt w N U → CertAt w v cc → Calls Tryz.prog 9 #[.agg #[.slice N nU cN], v] w (NetPost w ans) := fun N cN v w hN hv => by rw [hnU, hans]; exact sU.check hok (by have := sW.few; omega) N cN v w hN hv
  have hsd := ans_sound sU.ok hok
  rw [← hans, ← hcd] at hsd
  have hrd : ∀ (N : Option Addr) (c x : Nat) (w : World), NetAt w N U → x < 4294967296 → Calls Tryz.prog 10 #[.agg #[.slice N nU c], .int .u32 (x : Int)] w fun e w' => e = .returned (.bool (roundB U x)) ∧ Below w.heap.size w w' := fun N c x w hN hx => by rw [hnU]; exact round_any N c U x w hN sU.ok hx
  have hof : ∀ N c w, NetAt w N U → Calls Tryz.prog 11 #[.agg #[.slice N nU c]] w (SomePost w.heap.size 9000 w) := fun N c w hN => by rw [hnU]; exact rof_any N c U w hN sU.ok
  have hcdl : cc.dest < 4294967296 := by rcases hok with ⟨_, _, h1, _⟩ | ⟨_, _, h1, _⟩ <;> omega
  rw [← hcd] at hcdl
  have HFW := Lib.hid hfW
  have HFU := Lib.hid hfU
  have HAN := Lib.hid han
  have HCK := Lib.hid hck
  have HSD := Lib.hid hsd
  have HRD := Lib.hid hrd
  have HOF := Lib.hid hof
  have HNA := Lib.hid hA
  have HNB := Lib.hid hB
  have HNW := Lib.hid hnW
  have HNU := Lib.hid hnU
  have HCV := Lib.hid hcv
  have HCD := Lib.hid hcd
  have HNP := Lib.hid hnp
  have HNT := Lib.hid hnt
  have HCL := Lib.hid hcdl
  have hw8 : nW ≤ 8 := by rw [hnW]; exact sW.few
  have hu8 : nU ≤ 8 := by rw [hnU]; exact sU.few
  have HSH := Lib.hid shown_true
  rw [← hnA, ← hnB]
  obtain ⟨w1, hw1⟩ : ∃ w1, w1 = w.alloc (.cells #[.slice A nA cA] 24) := ⟨_, rfl⟩
  obtain ⟨w2, hw2⟩ : ∃ w2, w2 = w1.alloc (.cells #[.slice B nB cB] 24) := ⟨_, rfl⟩
  have s1 : w1.heap.size = w.heap.size + 1 := by rw [hw1]; simp
  have b1 : Below w.heap.size w w1 := by rw [hw1]; exact bal _ _
  have b2 : Below w1.heap.size w1 w2 := by rw [hw2]; exact bal _ _
  have r1 : VRow w2 w.heap.size [.slice A nA cA] := by
    have h := VRow.new w #[.slice A nA cA] 24
    rw [← hw1] at h
    exact h.below b2 h.lt
  have r2 : VRow w2 (w.heap.size + 1) [.slice B nB cB] := by
    have h := VRow.new w1 #[.slice B nB cB] 24
    rw [← hw2, s1] at h
    exact h
  have hb12 := b1.trans (b2.mono b1.size)
  rw [hw1] at hw2
  have HW2 := Lib.hid hw2
  have HR1 := Lib.hid r1
  have HR2 := Lib.hid r2
  have HB2 := Lib.hid hb12
  clear hw1 hw2 s1 b1 b2 r1 r2 hb12 hW hU sW sU hcc hfW hfU han hck hsd hans hrd hof hA hB hn hm hok hnA hnB hnW hnU hcv hcd hnp hnt hcdl
  go_enter Tryz.func3, Tryz.ntmps3
  go_upto_region 1 with fail
  rw [← HW2.out]
  clear HW2
  go_wp2_with fail
  refine (HSH.out w2).mono ?_
  rintro e w3 ⟨rfl, hb3⟩
  have hB3 := HB2.out.trans (hb3.mono HB2.out.size)
  have hR1 := HR1.out.below hb3 HR1.out.lt
  have hR2 := HR2.out.below hb3 HR2.out.lt
  have q1 := (hR1.get (i := 0) rfl).1
  have hna3 := HNA.out.below hB3
  have hc1 := HFW.out w3 hna3
  have HC1 := Lib.hid hc1
  have HB3 := Lib.hid hB3
  have HR2 := Lib.hid hR2
  clear hb3 hB3 hR1 hR2 hna3 hc1 HFW HNA HSH HB2 HR1
  go_wp2_with fail
  refine (HC1.out).mono ?_
  rintro e w4 ⟨N1, c1, rfl, hN1, hb4, hc1a, hc1b⟩
  rw [← HNW.out] at hc1a ⊢
  obtain ⟨w5, hw5⟩ : ∃ w5, w5 = w4.alloc (.cells #[.slice N1 nW c1] 24) := ⟨_, rfl⟩
  have b5 : Below w4.heap.size w4 w5 := by rw [hw5]; exact bal _ _
  have hr8 : VRow w5 w4.heap.size [.slice N1 nW c1] := by rw [hw5]; exact VRow.new w4 #[.slice N1 nW c1] _
  have hb35 := hb4.trans (b5.mono hb4.size)
  have hR2 := HR2.out.below hb35 HR2.out.lt
  have q2 := (hR2.get (i := 0) rfl).1
  rw [hw5] at q2
  have hB5 := HB3.out.trans (hb35.mono HB3.out.size)
  have hc2 := HFU.out w5 (HNB.out.below hB5)
  have HC2 := Lib.hid hc2
  have HB5 := Lib.hid hB5
  have HR8 := Lib.hid hr8
  have HN1 := Lib.hid (hN1.below b5)
  have HW5 := Lib.hid hw5
  have hlt4 : w.heap.size ≤ w4.heap.size := Nat.le_trans HB3.out.size hb4.size
  clear hb4 hN1 hw5 b5 hr8 hb35 hR2 hB5 hc2 HFU HNB HC1 HB3 HR2 q1
  go_wp2_with fail
  rw [← HW5.out]
  refine (HC2.out).mono ?_
  rintro e w6 ⟨N2, c2, rfl, hN2, hb6, hc2a, hc2b⟩
  rw [← HNU.out] at hc2a ⊢
  obtain ⟨w7, hw7⟩ : ∃ w7, w7 = w6.alloc (.cells #[.slice N2 nU c2] 24) := ⟨_, rfl⟩
  have b7 : Below w6.heap.size w6 w7 := by rw [hw7]; exact bal _ _
  have hr9 : VRow w7 w6.heap.size [.slice N2 nU c2] := by rw [hw7]; exact VRow.new w6 #[.slice N2 nU c2] _
  have hb57 := hb6.trans (b7.mono hb6.size)
  have hR8 := HR8.out.below hb57 HR8.out.lt
  have q8 := (hR8.get (i := 0) rfl).1
  rw [hw7] at q8
  have hB7 := HB5.out.trans (hb57.mono HB5.out.size)
  have hc3 := HAN.out N1 c1 w7 (HN1.out.below hb57)
  have HC3 := Lib.hid hc3
  have HB7 := Lib.hid hB7
  have HR9 := Lib.hid hr9
  have HN2 := Lib.hid (hN2.below b7)
  have HW7 := Lib.hid hw7
  have hlt6 : w4.heap.size < w6.heap.size := Nat.lt_of_lt_of_le HR8.out.lt hb6.size
  clear hb6 hN2 hw7 b7 hr9 hb57 hR8 hB7 hc3 HAN HC2 HB5 HR8 HN1 HW5 q2
  go_wp2_with fail
  rw [← HW7.out]
  refine (HC3.out).mono ?_
  rintro e w8 ⟨PA, TB, cPA, cTB, rfl, hPA, hTB, -, hb8⟩
  rw [← HCV.out, ← HCD.out, ← HNP.out, ← HNT.out]
  obtain ⟨w9, hw9⟩ : ∃ w9, w9 = w8.alloc (.cells #[.int .i64 (cv : Int), .slice PA np cPA, .int .u32 (cd : Int), .slice TB nt cTB] 31) := ⟨_, rfl⟩
  have b9 : Below w8.heap.size w8 w9 := by rw [hw9]; exact bal _ _
  have hr10 : VRow w9 w8.heap.size [.int .i64 (cv : Int), .slice PA np cPA, .int .u32 (cd : Int), .slice TB nt cTB] := by rw [hw9]; exact VRow.new w8 #[.int .i64 (cv : Int), .slice PA np cPA, .int .u32 (cd : Int), .slice TB nt cTB] _
  have hb79 := hb8.trans (b9.mono hb8.size)
  have hlt8 : w6.heap.size < w8.heap.size := Nat.lt_of_lt_of_le HR9.out.lt hb8.size
  have hR9 := HR9.out.below hb79 HR9.out.lt
  have q9 := (hR9.get (i := 0) rfl).1
  have k0 := (hr10.get (i := 0) rfl).1
  have k1 := (hr10.get (i := 1) rfl).1
  have k2 := (hr10.get (i := 2) rfl).1
  have k3 := (hr10.get (i := 3) rfl).1
  rw [hw9] at q9 k0 k1 k2 k3
  have hB9 := HB7.out.trans (hb79.mono HB7.out.size)
  have hcat : CertAt w9 (.agg #[.int .i64 (cv : Int), .slice PA np cPA, .int .u32 (cd : Int), .slice TB nt cTB]) cc := ⟨PA, TB, cPA, cTB, by rw [HCV.out, HCD.out, HNP.out, HNT.out], hPA.below b9, hTB.below b9⟩
  have hN29 := HN2.out.below hb79
  have hc4 := HCK.out N2 c2 _ w9 hN29 hcat
  have HC4 := Lib.hid hc4
  have HB9 := Lib.hid hB9
  have HR9 := Lib.hid hR9
  have HR10 := Lib.hid hr10
  have HN2 := Lib.hid hN29
  have HW9 := Lib.hid hw9
  clear hb8 hPA hTB hw9 b9 hr10 hb79 hR9 hB9 hcat hN29 hc4 HCK HC3 HB7 HW7 q8
  go_wp2_with fail
  rw [← HW9.out]
  refine (HC4.out).mono ?_
  rintro e w10 ⟨rfl, hb10⟩
  have hx9 : w8.heap.size < w10.heap.size := Nat.lt_of_lt_of_le HR10.out.lt hb10.size
  clear q9 k0 k1 k2 k3 HW9 HC4
  rcases HSD.out with ⟨e0, hans, he0⟩ | ⟨hans, hrb⟩ | ⟨hans, hrb⟩
  · rw [hans]
    clear HSD hans
    have g0 : (e0 == 0) = false := by simpa using he0
    obtain ⟨w11, hw11⟩ : ∃ w11, w11 = w10.alloc (.cells #[.int .i64 0, .int .i64 e0] 36) := ⟨_, rfl⟩
    have b11 : Below w10.heap.size w10 w11 := by rw [hw11]; exact bal _ _
    have hr12 : VRow w11 w10.heap.size [.int .i64 0, .int .i64 e0] := by rw [hw11]; exact VRow.new w10 #[.int .i64 0, .int .i64 e0] _
    have hb911 := hb10.trans (b11.mono hb10.size)
    have hR9 := HR9.out.below hb911 HR9.out.lt
    have hR10 := HR10.out.below hb911 HR10.out.lt
    have q9 := (hR9.get (i := 0) rfl).1
    have k2 := (hR10.get (i := 2) rfl).1
    have z0 := (hr12.get (i := 0) rfl).1
    have z1 := (hr12.get (i := 1) rfl).1
    rw [hw11] at q9 k2 z0 z1
    have hB11 := HB9.out.trans (hb911.mono HB9.out.size)
    have hN211 := HN2.out.below hb911
    have HW11 := Lib.hid hw11
    have HB11 := Lib.hid hB11
    have HR9 := Lib.hid hR9
    have HN2 := Lib.hid hN211
    clear hb10 b11 hr12 hb911 hR9 hR10 hB11 hN211 hw11
    go_wp2_with fail
    rw [← HW11.out]
    go_ret
    exact ⟨ret_bool (by simpa using he0), HB11.out⟩
  · rw [hans]
    clear HSD hans
    obtain ⟨w11, hw11⟩ : ∃ w11, w11 = w10.alloc (.cells #[.int .i64 2, .int .i64 0] 36) := ⟨_, rfl⟩
    have b11 : Below w10.heap.size w10 w11 := by rw [hw11]; exact bal _ _
    have hr12 : VRow w11 w10.heap.size [.int .i64 2, .int .i64 0] := by rw [hw11]; exact VRow.new w10 #[.int .i64 2, .int .i64 0] _
    have hb911 := hb10.trans (b11.mono hb10.size)
    have hR9 := HR9.out.below hb911 HR9.out.lt
    have hR10 := HR10.out.below hb911 HR10.out.lt
    have q9 := (hR9.get (i := 0) rfl).1
    have k2 := (hR10.get (i := 2) rfl).1
    have z0 := (hr12.get (i := 0) rfl).1
    have z1 := (hr12.get (i := 1) rfl).1
    rw [hw11] at q9 k2 z0 z1
    have hB11 := HB9.out.trans (hb911.mono HB9.out.size)
    have hN211 := HN2.out.below hb911
    have HW11 := Lib.hid hw11
    have HB11 := Lib.hid hB11
    have HR9 := Lib.hid hR9
    have HN2 := Lib.hid hN211
    have hc5 := HRD.out N2 c2 cd w11 HN2.out HCL.out
    rw [hrb] at hc5
    have HC5 := Lib.hid hc5
    clear hb10 b11 hr12 hb911 hR9 hR10 hB11 hN211 hw11 hc5 hrb
    go_wp2_with fail
    rw [← HW11.out]
    refine (HC5.out).mono ?_
    rintro e w12 ⟨rfl, hb12⟩
    have hB12 := HB11.out.trans (hb12.mono HB11.out.size)
    go_wp2_with fail
    go_ret
    exact ⟨rfl, hB12⟩
  · rw [hans]
    clear HSD hans
    have HRB := Lib.hid hrb
    obtain ⟨w11, hw11⟩ : ∃ w11, w11 = w10.alloc (.cells #[.int .i64 1, .int .i64 0] 36) := ⟨_, rfl⟩
    have b11 : Below w10.heap.size w10 w11 := by rw [hw11]; exact bal _ _
    have hr12 : VRow w11 w10.heap.size [.int .i64 1, .int .i64 0] := by rw [hw11]; exact VRow.new w10 #[.int .i64 1, .int .i64 0] _
    have hb911 := hb10.trans (b11.mono hb10.size)
    have hR9 := HR9.out.below hb911 HR9.out.lt
    have hR10 := HR10.out.below hb911 HR10.out.lt
    have q9 := (hR9.get (i := 0) rfl).1
    have k2 := (hR10.get (i := 2) rfl).1
    have z0 := (hr12.get (i := 0) rfl).1
    have z1 := (hr12.get (i := 1) rfl).1
    rw [hw11] at q9 k2 z0 z1
    have hB11 := HB9.out.trans (hb911.mono HB9.out.size)
    have hN211 := HN2.out.below hb911
    have HW11 := Lib.hid hw11
    have HB11 := Lib.hid hB11
    have HR9 := Lib.hid hR9
    have HN2 := Lib.hid hN211
    have hc5 := HOF.out N2 c2 w11 HN2.out
    have HC5 := Lib.hid hc5
    clear hb10 b11 hr12 hb911 hR9 hR10 hB11 hN211 hw11 hc5 hrb
    go_wp2_with fail
    rw [← HW11.out]
    refine (HC5.out).mono ?_
    rintro e w12 ⟨S, cS, l, rfl, hown, hl, hll, hb12⟩
    have hb13 := bal w12 (.cells #[.int .u32 (a : Int)] 25)
    have hown13 := own_below hown hb13
    have hb12b := hb12.trans (hb13.mono hb12.size)
    have hx13 := VRow.new w12 #[.int .u32 (a : Int)] 25
    have HX13 := Lib.hid hx13.lies
    have HO13 := Lib.hid hown13
    have HB13 := Lib.hid hb12b
    have HLL := Lib.hid hl
    clear hown hl hb12 hb13 hown13 hb12b hx13 HC5 HOF
    obtain ⟨nl, hnl⟩ : ∃ nl, nl = l.length := ⟨_, rfl⟩
    rw [← hnl] at hll HO13 ⊢
    have HNL := Lib.hid hnl
    clear hnl
    go_wp2_with (at_builtin; refine wpList_app rfl (.tmp 48) (.tmp 50) _ rfl Tryz.underlying39 u32_info rfl (by omega) (by omega) w11 _ HB13.out S nl cS (u32s l) rfl HO13.out (some ⟨w12.heap.size, 0, none⟩) 1 1 (u32s [a]) rfl rfl HX13.out (u32_one _) (by omega) ?_; intro S14 c14 w14 hown14 hc14 hc14' hb14 hg14)
    have hl14 : Lies w14 S14 (u32s (l ++ [a])) := by have h := Lies.of_own hown14; rwa [← List.map_append] at h
    have hR14 := HR9.out.below hb14 HR9.out.lt
    have hN14 := HN2.out.below hb14
    have hB14 := HB11.out.trans (hb14.mono HB11.out.size)
    have hlen : (l ++ [a]).length = nl + 1 := by rw [List.length_append, ← HNL.out]; rfl
    have hall : ∀ x ∈ l ++ [a], x < 4294967296 := fun x hx => by
      rcases List.mem_append.1 hx with h | h
      · exact HLL.out x h
      · simp at h; omega
    have HL14 := Lib.hid hl14
    have HR14 := Lib.hid hR14
    have HN14 := Lib.hid hN14
    have HB14 := Lib.hid hB14
    have HLEN := Lib.hid hlen
    have HALL := Lib.hid hall
    clear hl14 hR14 hN14 hB14 hlen hall hown14 hc14 hc14' hb14 hg14 q9 k2 z0 z1 HX13 HO13 HB13 HB11 HR9 HN2 HW11 HLL HNL
    go_loopw [14] (fun s14 wr => ∃ i : Nat, i ≤ nl + 1 ∧ s14 = .int .i64 (i : Int) ∧ Hid (Below w14.heap.size w14 wr)) (fun s14 _ => nl + 1 - (intOf s14).toNat)
    case atStart => exact ⟨0, by omega, rfl, Lib.hid (Below.refl _ _)⟩
    case round =>
      obtain ⟨i, hi, rfl, HX⟩ := hrel
      by_cases hlt : i < nl + 1
      · have hi' : i < (l ++ [a]).length := by have := HLEN.out; omega
        obtain ⟨b, off, hSe, hb, hc0⟩ := Lies.at_map HL14.out hi'
        have hx := HALL.out _ (List.getElem_mem hi')
        obtain ⟨x, hxe⟩ : ∃ x, x = (l ++ [a])[i] := ⟨_, rfl⟩
        rw [← hxe] at hc0 hx
        have hd := (HX.out.cell (p := ⟨b, off + i, none⟩) hb).trans hc0
        have q9 := ((HR14.out.below HX.out HR14.out.lt).get (i := 0) rfl).1
        have hbl : b < wr.heap.size := Nat.lt_of_lt_of_le hb HX.out.size
        have hql : w6.heap.size < wr.heap.size := (HR14.out.below HX.out HR14.out.lt).lt
        have hc5 := fun W (hW : Below w14.heap.size w14 W) => HRD.out N2 c2 x W (HN14.out.below hW) hx
        rw [HRB.out x hx] at hc5
        have HC5 := Lib.hid hc5
        subst hSe
        clear hc0 hxe hi' hc5
        have KS : Hid (∀ W : World, Below wr.heap.size wr W → W.cell? ⟨w6.heap.size, 0, none⟩ = some (.slice N2 nU c2) ∧ W.cell? ⟨b, off + i, none⟩ = some (.int .u32 (x : Int))) := Lib.hid fun W hW => ⟨(hW.cell (p := ⟨w6.heap.size, 0, none⟩) hql).trans q9, (hW.cell (p := ⟨b, off + i, none⟩) hbl).trans hd⟩
        go_wp2_with fail
        go_region_held3 (fun W => W.cell? ⟨w6.heap.size, 0, none⟩ = some (.slice N2 nU c2) ∧ W.cell? ⟨b, off + i, none⟩ = some (.int .u32 (x : Int)))
          (first | exact KS.out _ (below_drew (Below.refl _ _)) | exact KS.out _ (below_drew' hb15))
          (first | (go_at_call 10; refine (HC5.out _ (below_drew HX.out)).mono ?_; rintro e w15 ⟨rfl, hb15⟩))
        have HX15 := Lib.hid ((HX.out).trans ((below_drew' hb15).mono HX.out.size))
        clear hb15 hd q9 KS HC5
        go_wp2_with fail
        exact ⟨⟨i + 1, by omega, by go_num, HX15⟩, by simp [intOf]; omega⟩
      · obtain rfl : i = nl + 1 := by omega
        go_wp2_with fail
        go_ret
        exact ⟨rfl, HB14.out.trans (HX.out.mono HB14.out.size)⟩
end Go.Proofs.YtpjoefekhgmlhaaGreat.Tp

namespace Go.Proofs.YtpjoefekhgmlhaaGreat.Tp
open Go.RowKit Mem

theorem getD_lt {α : Type} {l : List α} {i : Nat} {d : α} (h : i < l.length) : l.getD i d = l[i] := by simp [List.getD, List.getElem?_eq_getElem h]
theorem getD_left {α : Type} {l l' : List α} {i : Nat} {d : α} (h : i < l.length) : (l ++ l').getD i d = l.getD i d := by simp [List.getD, List.getElem?_append_left h]
theorem getD_end {α : Type} {l : List α} {x d : α} : (l ++ [x]).getD l.length d = x := by simp [List.getD]
/-- At each cut the vector is that of the atom that it is in. -/
def AV (net : List (List RuleT)) (s : AtS) (l : List Nat) : Prop := ∀ c ∈ l, ∀ j, j < s.F.length → s.F.getD j 0 ≤ c → (∀ j', j' < s.F.length → j < j' → c < s.F.getD j' 0) → s.V.getD (s.H.getD j 0) [] = vecL net c
theorem AV.grow {net : List (List RuleT)} {s : AtS} {l : List Nat} (h : AV net s l) (hi : SInv net l s) {a : Nat} (ha : ∀ x ∈ l, x < a) {q : Nat} {V' : List (List Int)} (hV : ∀ k, k < s.V.length → V'.getD k [] = s.V.getD k []) (hq : V'.getD q [] = vecL net a) : AV net ⟨s.F ++ [a], s.H ++ [q], V'⟩ (l ++ [a]) := by
  intro c hc j hj h1 h2
  simp only [List.length_append, List.length_singleton] at hj h2
  simp only at h1 h2 ⊢
  have hlast : (s.F ++ [a]).getD s.F.length 0 = a := getD_end
  rcases List.mem_append.1 hc with hc | hc
  · have hca := ha c hc
    by_cases hjl : j < s.F.length
    · rw [getD_left hjl] at h1
      have hH : j < s.H.length := by rw [← hi.len]; exact hjl
      rw [getD_left hH, getD_lt hH, hV _ (hi.lt _ (List.getElem_mem hH))]
      have := h c hc j hjl h1 fun j' hj' hjj => by have := h2 j' (by omega) hjj; rwa [getD_left hj'] at this
      rwa [getD_lt hH] at this
    · obtain rfl : j = s.F.length := by omega
      rw [hlast] at h1
      omega
  · have hc : c = a := by simpa using hc
    subst hc
    by_cases hjl : j < s.F.length
    · have := h2 s.F.length (by omega) hjl
      rw [hlast] at this
      omega
    · obtain rfl : j = s.F.length := by omega
      rw [hi.len, getD_end]
      exact hq
theorem getD_idxOf {V : List (List Int)} {v : List Int} (h : v ∈ V) : V.getD (V.idxOf v) [] = v := by
  have hl := List.idxOf_lt_length_of_mem h
  rw [getD_lt hl]
  exact List.getElem_idxOf hl
theorem AV.step {net : List (List RuleT)} {s : AtS} {l : List Nat} (h : AV net s l) (hi : SInv net l s) {a : Nat} (ha : ∀ x ∈ l, x < a) : AV net (atStep net s a) (l ++ [a]) := by
  unfold atStep
  split
  · rename_i hm
    split
    · rename_i hz
      intro c hc j hj h1 h2
      rcases List.mem_append.1 hc with hc | hc
      · exact h c hc j hj h1 h2
      · have hc : c = a := by simpa using hc
        subst hc
        have hlt : ∀ k, k < s.F.length → s.F.getD k 0 < c := fun k hk => by rw [getD_lt hk]; exact ha _ (hi.sub.subset (List.getElem_mem hk))
        have hjl : j + 1 = s.F.length := by
          rcases Nat.lt_or_ge (j + 1) s.F.length with h3 | h3
          · have h4 := h2 (j + 1) h3 (by omega)
            have h5 := hlt (j + 1) h3
            omega
          · omega
        have hH : j < s.H.length := by rw [← hi.len]; exact hj
        have hHl : s.H.getLast? = some s.H[j] := by
          rw [List.getLast?_eq_getElem?, ← hi.len, show s.F.length - 1 = j by omega, List.getElem?_eq_getElem hH]
        unfold lastZ at hz
        rw [hHl] at hz
        have hz' : s.H[j] = s.V.idxOf (vecL net c) := by have h9 : ((s.H[j] : Nat) : Int) = ((s.V.idxOf (vecL net c) : Nat) : Int) := hz; omega
        rw [getD_lt hH, hz']
        exact getD_idxOf hm
    · exact h.grow hi ha (fun _ _ => rfl) (getD_idxOf hm)
  · exact h.grow hi ha (fun k hk => getD_left hk) getD_end
theorem atoms_vec (net : List (List RuleT)) {l : List Nat} (hl : l.Pairwise (· < ·)) : AV net (atomsTo net l) l := by
  have : ∀ k, k ≤ l.length → AV net (atomsTo net (l.take k)) (l.take k) := fun k => by
    induction k with
    | zero => intro _ c hc; simp at hc
    | succ k ih =>
      intro hk
      rw [atomsTo_next (by omega), List.take_succ_eq_append_getElem (by omega)]
      refine (ih (by omega)).step (sinv net _) fun x hx => ?_
      obtain ⟨i, hi, rfl⟩ := List.getElem_of_mem hx
      rw [List.getElem_take]
      have : i < k := by simp at hi; omega
      exact (List.pairwise_iff_getElem.1 hl) i k (by omega) (by omega) this
  have h := this l.length (Nat.le_refl _)
  rwa [List.take_of_length_le (Nat.le_refl _)] at h
theorem ranksN_at {v : List Int} {u : Nat} (hu : u < v.length) : (ranksN v).getD u 0 = Gr.rankOf v u := by
  rw [getD_lt (by simpa [ranksN] using hu)]
  simp [ranksN]
theorem rank_falls {v : List Int} (he : Gr.errno v = 0) (h : hasLoop v = false) {u y : Nat} (hn : Gr.nxt v u = some y) : (ranksN v).getD y 0 < (ranksN v).getD u 0 := by
  obtain ⟨_, hg⟩ := Gr.errno_zero he
  have ha := ranked_of he h
  obtain ⟨hu, hy⟩ := Gr.nxt_lt hg hn
  obtain ⟨k, hk⟩ := (Gr.allRanked_iff hg).1 ha u hu
  obtain ⟨j, hj⟩ := (Gr.allRanked_iff hg).1 ha y hy
  have hk' : Gr.IsRank v (j + 1) u := ⟨y, hn, hj⟩
  rw [ranksN_at hu, ranksN_at hy, Gr.rankOf_eq hg hk', Gr.rankOf_eq hg hj]
  omega
/-- Is a loop told? -/
def loopy (net : List (List RuleT)) : Option Nat := (atomsTo net (cutsL net)).V.findIdx? hasLoop
theorem parts_pass {net : List (List RuleT)} (h : Small net) (hno : loopy net = none) : partsB net (cutsL net) (partsOf (atomsTo net (cutsL net))) = true := by
  obtain ⟨hl, hb, hz⟩ := cuts_ok h.ok
  have hi := sinv net (cutsL net)
  have hs := sok h.ok h.some_ hl hb (by have := h.cuts; omega)
  have hav := atoms_vec net hl
  have hF := hl.sublist hi.sub
  obtain ⟨s, hse⟩ : ∃ s, s = atomsTo net (cutsL net) := ⟨_, rfl⟩
  unfold loopy at hno
  rw [← hse] at hi hs hav hF hno ⊢
  have hnl := List.findIdx?_eq_none_iff.1 hno
  refine partsB_of fun i hip => ?_
  have hiF : i < s.F.length := by simpa [partsOf] using hip
  have hpi : (partsOf s)[i] = partOf s i := by simp [partsOf]
  rw [hpi]
  refine fallB_of fun k hk => ?_
  have hx := List.getElem_mem hk
  generalize (insideL (cutsL net) (partOf s i).f (partOf s i).t)[k] = x at hx
  have hxc : x ∈ cutsL net ∧ s.F.getD i 0 ≤ x ∧ ∀ j', j' < s.F.length → i < j' → x < s.F.getD j' 0 := by
    have hlow : ∀ j', j' < s.F.length → i < j' → s.F.getD i 0 < s.F.getD j' 0 := fun j' hj' hij => by
      rw [getD_lt hiF, getD_lt hj']
      exact (List.pairwise_iff_getElem.1 hF) i j' hiF hj' hij
    unfold insideL at hx
    rcases List.mem_cons.1 hx with rfl | hx
    · refine ⟨?_, Nat.le_refl _, hlow⟩
      show s.F.getD i 0 ∈ _
      rw [getD_lt hiF]
      exact hi.sub.subset (List.getElem_mem hiF)
    · obtain ⟨hm, hc⟩ := List.mem_filter.1 hx
      simp only [decide_eq_true_eq] at hc
      have hc1 : s.F.getD i 0 < x := hc.1
      have hc2 : x ≤ cutHi s.F i := hc.2
      refine ⟨hm, by omega, fun j' hj' hij => ?_⟩
      unfold cutHi at hc2
      rw [if_pos (by omega)] at hc2
      have h1 := hlow (i + 1) (by omega) (by omega)
      rcases Nat.lt_or_ge (i + 1) j' with h2 | h2
      · have : s.F.getD (i + 1) 0 < s.F.getD j' 0 := by
          rw [getD_lt (show i + 1 < s.F.length by omega), getD_lt hj']
          exact (List.pairwise_iff_getElem.1 hF) (i + 1) j' (by omega) hj' h2
        omega
      · obtain rfl : j' = i + 1 := by omega
        omega
  have hv := hav x hxc.1 i hiF hxc.2.1 hxc.2.2
  have hiH : i < s.H.length := by rw [← hi.len]; exact hiF
  have hkV := hi.lt _ (List.getElem_mem hiH)
  have hmem : vecL net x ∈ s.V := by rw [← hv, getD_lt hiH, getD_lt hkV]; exact List.getElem_mem hkV
  have hloop : hasLoop (vecL net x) = false := by simpa using hnl _ hmem
  have her := hs.vec _ hmem
  refine passA_of fun u hu => ?_
  unfold passV
  cases hst : stepN net x u with
  | none => rfl
  | some y =>
    simp only [decide_eq_true_eq]
    have hr : (partOf s i).ranks = ranksN (vecL net x) := by
      show ranksN (s.V.getD (s.H.getD i 0) []) = _
      rw [hv]
    rw [hr]
    exact rank_falls her hloop (by rw [nxt_step hu]; exact hst)
theorem cert_free {net : List (List RuleT)} (h : loopy net = none) : certOf net = ⟨1, partsOf (atomsTo net (cutsL net)), 0, []⟩ := by
  unfold certOf anCert
  unfold loopy at h
  rw [h]
theorem cert_loop {net : List (List RuleT)} {i : Nat} (h : loopy net = some i) : certOf net = ⟨2, [], (atomsTo net (cutsL net)).F.getD ((atomsTo net (cutsL net)).H.idxOf i) 0, Gr.loopOf ((atomsTo net (cutsL net)).V.getD i [])⟩ := by
  unfold certOf anCert
  unfold loopy at h
  rw [h]
theorem free_ans {net : List (List RuleT)} (h : Small net) (hno : loopy net = none) : ansN net (cutsL net) net.length (certOf net) = (1, 0) := by
  unfold ansN
  rw [cmayE_self h.cert, if_pos rfl]
  have hc := cert_free hno
  rw [hc]
  show (if (1 : Nat) = 1 then (if partsB net (cutsL net) (partsOf (atomsTo net (cutsL net))) then (1, 0) else (0, 16)) else _) = _
  rw [if_pos rfl, if_pos (parts_pass h hno)]
end Go.Proofs.YtpjoefekhgmlhaaGreat.Tp
