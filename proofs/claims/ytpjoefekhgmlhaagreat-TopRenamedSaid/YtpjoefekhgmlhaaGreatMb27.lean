/- CONTRACT of atoms.Of. Conditions: a network that may be, of one node at least; what cuts.Of answers. · CONTRACT of the reference theseusref07.Fit: a rule made such as may be. Conditions: the numbers fit their kinds; one node at least, 256 at most. -/
import Derived.Test.YtpjoefekhgmlhaaGreatMb26
import Derived.Maps.OwnSet
import Derived.Test.YtpjoefekhgmlhaaGreatMb09
import Derived.Test.YtpjoefekhgmlhaaGreatMb13
import Derived.Deep.RegionHeld3
import Derived.Deep.DeepCutAuto
import Derived.Outline
namespace Go.Proofs.YtpjoefekhgmlhaaGreat.Tp
open Go.RowKit Mem

theorem goes_range {l : List RuleT} {N a : Nat} (h : TableOk N l) (hN : N ≤ 256) : -1 ≤ goesI l a ∧ goesI l a < 256 := by
  unfold goesI nextL
  cases e : findL l a with
  | none => simp
  | some r =>
    have hr := (h.rule r (find_mem e)).act
    by_cases h1 : r.act = 1
    · simp only [h1, if_true]; omega
    · simp [h1]
theorem vecL_byt {net : List (List RuleT)} (h : NetOk net) (a : Nat) : Byt (vecL net a) := fun x hx => by
  obtain ⟨l, hl, rfl⟩ := List.mem_map.1 hx
  exact goes_range (h.table l hl) h.nodes
theorem mapi : Tryz.prog.underlying 105 = some (.map 9 3) := by kernel_rfl
theorem zeroi (w : World) : (zeroValue 3).run Tryz.prog w = .ok (.int .i64 0) w := by kernel_rfl
theorem vecs_info : (Tryz.prog.info? 29).map (fun i => (i.zero, i.size, i.bytes)) = some (some (.slice none 0 0), 1, 24) := by kernel_rfl
theorem keyS_size (v : List Int) : (keyS v).size = 2 * v.length := by
  show ((keyL v).map UInt8.ofNat).toArray.size = _
  simp [keyL_len]
theorem keyOf_vec (v : List Int) (h : v.length ≤ 256) : keyOf Tryz.prog 9 (.string (keyS v)) = some (kl v) :=
  Go.WideMaps.keyOf_string_mk Tryz.underlying9 (by rw [keyS_size]; unfold maxLen; omega)
def AtomsPost (w : World) (s : AtS) (e : Ending) (w' : World) : Prop := ∃ F H V cf ch cv, e = .returned (.tuple #[atomsV F H V s.F.length s.H.length s.V.length cf ch cv, .int .i64 0]) ∧ AtomsAt w' F H V s ∧ Below w.heap.size w w'
theorem bal (W : World) (o : Obj) : Below W.heap.size W (W.alloc o) := (Below.refl _ _).alloc (Nat.le_refl _) _
theorem lies_newset (W : World) (p : Addr) (u : Value) (cs : Array Value) (t : TypeId) : Lies ((W.setCell p u).alloc (.cells cs t)) (some ⟨W.heap.size, 0, none⟩) cs.toList := by
  have := Lies.new (W.setCell p u) cs t
  rwa [World.size_setCell] at this
theorem wf_nat {n : Nat} (h : n ≤ 1000000) : (Lit.int .i64 (n : Int)).wf = true := by
  simp [Lit.wf, IntKind.min, IntKind.max, IntKind.bits, IntKind.signed]; omega
theorem val_eq {q : IntKind} {D : DataW Unit} {l : Lit} {z : DataW Unit} {c p : Int} (h : D.atKey l z = .lit (.int q c)) (h2 : ∀ z, D.atKey l z = .lit (.int q p)) : c = p := by
  rw [h2] at h; injection h with h; injection h with _ h; exact h.symm

set_option maxRecDepth 100000 in
set_option maxHeartbeats 8000000 in
theorem atoms_any (N : Option Addr) (cN : Nat) (net : List (List RuleT)) (L : List Nat) (w : World) (hN : NetAt w N net) (h : NetOk net) (hpos : 0 < net.length) (hC : CutsOf net L) (hlen : L.length ≤ 100000) (hL32 : ∀ a ∈ L, a < 4294967296) :
    Calls Tryz.prog 17 #[.agg #[.slice N net.length cN]] w (AtomsPost w (atomsTo net L)) := by
  have hnn := h.nodes
  obtain ⟨wa, hwa⟩ : ∃ wa, wa = w.alloc (.cells #[.slice N net.length cN] 24) := ⟨_, rfl⟩
  obtain ⟨wb, hwb⟩ : ∃ wb, wb = wa.alloc (.cells #[.slice none 0 0, .slice none 0 0, .slice none 0 0] 58) := ⟨_, rfl⟩
  have sa : wa.heap.size = w.heap.size + 1 := by rw [hwa]; simp
  have sb : wb.heap.size = w.heap.size + 1 + 1 := by rw [hwb]; simp [sa]
  have ba : Below w.heap.size w wa := by rw [hwa]; exact (Below.refl _ _).alloc (Nat.le_refl _) _
  have bb : Below wa.heap.size wa wb := by rw [hwb]; exact (Below.refl _ _).alloc (Nat.le_refl _) _
  have hb1 : Below w.heap.size w wb := ba.trans (bb.mono ba.size)
  have hx0 : VRow wb w.heap.size [.slice N net.length cN] := by
    have : VRow wa w.heap.size [.slice N net.length cN] := by rw [hwa]; exact VRow.new w #[.slice N net.length cN] _
    exact this.below bb this.lt
  have hy0 : VRow wb (w.heap.size + 1) [.slice none 0 0, .slice none 0 0, .slice none 0 0] := by rw [hwb, ← sa]; exact VRow.new wa #[.slice none 0 0, .slice none 0 0, .slice none 0 0] _
  have hvn := vnew_any N cN net wb (hN.below hb1) h
  have hc0 := (hx0.get (i := 0) rfl).1
  rw [hwa] at hwb
  have HW := Lib.hid hwb
  rw [hwb] at hc0
  have HN := Lib.hid hN
  have H := Lib.hid h
  have HC := Lib.hid hC
  have HL32 := Lib.hid hL32
  have HB1 := Lib.hid hb1
  have HX0 := Lib.hid hx0
  have HY0 := Lib.hid hy0
  have HVN := Lib.hid hvn
  have hmm := @run_makeMap Tryz.prog
  clear hwa hwb sa sb ba bb hN h hC hL32 hb1 hx0 hy0 hvn
  go_enter Tryz.func17, Tryz.ntmps17
  go_wp2_with fail
  rw [← HW.out]
  clear hc0
  refine (HVN.out).mono ?_
  rintro e w2 ⟨m, rfl, hM, hb2⟩
  have hx2 := HX0.out.below hb2 HX0.out.lt
  have hy2 := HY0.out.below hb2 HY0.out.lt
  have hbw2 := HB1.out.trans (hb2.mono HB1.out.size)
  obtain ⟨w3, hw3⟩ : ∃ w3, w3 = w2.alloc (.cells #[.slice none 0 0, .slice none 0 0, .slice none 0 0] 58) := ⟨_, rfl⟩
  obtain ⟨w4, hw4⟩ : ∃ w4, w4 = w3.alloc (.map #[] 0) := ⟨_, rfl⟩
  have s3 : w3.heap.size = w2.heap.size + 1 := by rw [hw3]; simp
  have s4 : w4.heap.size = w2.heap.size + 1 + 1 := by rw [hw4]; simp [s3]
  have b3 : Below w2.heap.size w2 w3 := by rw [hw3]; exact (Below.refl _ _).alloc (Nat.le_refl _) _
  have b4 : Below w3.heap.size w3 w4 := by rw [hw4]; exact (Below.refl _ _).alloc (Nat.le_refl _) _
  have b24 : Below w2.heap.size w2 w4 := b3.trans (b4.mono b3.size)
  have hv3 : VRow w3 w2.heap.size [.slice none 0 0, .slice none 0 0, .slice none 0 0] := by rw [hw3]; exact VRow.new w2 #[.slice none 0 0, .slice none 0 0, .slice none 0 0] _
  have hv4 := hv3.below b4 hv3.lt
  have hown4 : w4.ownsMap Tryz.prog 9 (plainElem (H := Unit) Tryz.prog 3) (w2.heap.size + 1) 0 (.map []) := by rw [hw4, ← s3]; exact World.ownsMap_made _ _ _ _
  have hx4 := ((hx2.below b24 hx2.lt).get (i := 0) rfl).1
  have hcc := HC.out N cN w4 (HN.out.below (hbw2.trans (b24.mono hbw2.size)))
  rw [hw3] at hw4
  rw [hw4] at hx4
  have HW4 := Lib.hid hw4
  have HM := Lib.hid hM
  have HY2 := Lib.hid hy2
  have HBW2 := Lib.hid hbw2
  have HB24 := Lib.hid b24
  have HV4 := Lib.hid hv4
  have HO4 := Lib.hid hown4
  have HCC := Lib.hid hcc
  have hlw2 : w.heap.size + 1 < w2.heap.size := hy2.lt
  have HS4 := Lib.hid s4
  clear hM hb2 hx2 hy2 hbw2 hw3 hw4 s3 s4 b3 b4 b24 hv3 hv4 hown4 hcc HW HX0 HY0 HB1 HVN
  go_wp2_with fail
  rw [← HW4.out]
  clear hx4 hmm
  refine (HCC.out).mono ?_
  rintro e w5 ⟨R, mR, rfl, hR, hb5, _, _, hRn⟩
  have hfar : Far w5 w5 w2.heap.size (w2.heap.size + 1) := .refl _ _ _
  have h45 := HB24.out.trans (hb5.mono HB24.out.size)
  have hst : AtSt w5 w5 w2.heap.size (w2.heap.size + 1) none none none 0 0 0 0 0 0 ⟨[], [], []⟩ [] 0 (.map []) :=
    ⟨HV4.out.below hb5 HV4.out.lt, World.ownsRow_nil _ _ _ _, World.ownsRow_nil _ _ _ _, World.ownsRow_nil _ _ _ _, map_below HO4.out hb5, ⟨rfl, fun i hi => absurd hi (by simp)⟩,
      ⟨fun g e => (by cases e), fun g e => (by cases e), fun g e => (by cases e), by omega⟩, hfar⟩
  have HST0 := Lib.hid hst
  have HR := Lib.hid hR
  have HRN : Hid (∀ a, R = some a → w2.heap.size < a.block ∧ w2.heap.size + 1 < a.block) := Lib.hid fun a ha => by have := hRn a ha; have := HS4.out; omega
  have H25 := Lib.hid h45
  have HY5 := Lib.hid (HY2.out.below h45 hlw2)
  have HB5 := Lib.hid (HBW2.out.trans (h45.mono HBW2.out.size))
  have hl25 : w2.heap.size + 1 < w5.heap.size := by have := hb5.size; have := HS4.out; omega
  clear hR hb5 hRn hfar h45 hst HW4 HY2 HBW2 HB24 HV4 HO4 HCC HN HC
  go_wp2_with fail
  go_loopw [8, 28] (fun s8 i wr => ∃ (k : Nat) (F H V : Option Addr) (nf nv cf ch cv : Nat) (s : AtS) (rows : List Value) (n : Nat) (D : DataW Unit), k ≤ L.length ∧ s8 = .int .i64 (lastZ s.H) ∧ i = .int .i64 k ∧ Hid (AtSt w5 wr w2.heap.size (w2.heap.size + 1) F H V nf nf nv cf ch cv s rows n D) ∧ Hid (MapIs D s.V) ∧ Hid (s = atomsTo net (L.take k)) ∧ n ≤ k ∧ nf ≤ k ∧ nv ≤ k) (fun _ i _ => L.length - (intOf i).toNat)
  case atStart => exact ⟨0, none, none, none, 0, 0, 0, 0, 0, ⟨[], [], []⟩, [], 0, .map [], by omega, rfl, rfl, HST0, Lib.hid MapIs.nil, Lib.hid rfl, by omega, by omega, by omega⟩
  case round =>
    clear HST0
    obtain ⟨k, F, Hh, V, nf, nv, cf, ch, cv, s, rows, n, D, hk, rfl, rfl, HST, HMI, HSE, hn, hnf, hnv⟩ := hrel
    by_cases hlt : k < L.length
    · obtain ⟨b, off, hAe, hbb, hc0⟩ := Lies.at_map (HST.out.far.lies HR.out HRN.out) hlt
      have ha := HL32.out _ (List.getElem_mem hlt)
      have hnext := atomsTo_next (net := net) hlt
      rw [← HSE.out] at hnext
      have hfb := HST.out.far.below (B := w2.heap.size) (Nat.le_refl _) (by omega) (by omega)
      obtain ⟨a, hae⟩ : ∃ a, a = L[k] := ⟨_, rfl⟩
      rw [← hae] at hc0 ha hnext
      have hvo := vof_any m a net wr (HM.out.below (H25.out.trans hfb)) H.out ha
      have hvl := vecL_len net a
      have hvb := vecL_byt H.out a
      obtain ⟨v, hve⟩ : ∃ v, v = vecL net a := ⟨_, rfl⟩
      rw [← hve] at hvo hvl hvb
      have hkf := keyOf_vec v (by omega)
      have HVO := Lib.hid hvo
      have HNX := Lib.hid hnext
      have HVE := Lib.hid hve
      have HVB := Lib.hid hvb
      have HKF := Lib.hid hkf
      have hvl0 : 0 < v.length := by omega
      have hvl1 : v.length ≤ 256 := by omega
      clear ha hnext hae hvo hvl hve hvb hkf hfb
      subst hAe
      go_wp2_with fail
      refine (HVO.out).mono ?_
      rintro e w6 ⟨Rv, mv, rfl, hLv, hb6, hRv, hmv1, hmv2⟩
      have HS6 := Lib.hid (HST.out.below hb6)
      have hfresh : ∀ a, Rv = some a → ¬ Tk w2.heap.size (w2.heap.size + 1) F Hh V a.block := fun a ha ht => by
        have h1 := hRv a ha
        have h2 := HST.out.lt
        have h3 := HST.out.base
        rcases ht with e | e | e | e | e
        · omega
        · omega
        · have := (h2.1 _ e).2; omega
        · have := (h2.2.1 _ e).2; omega
        · have := (h2.2.2 _ e).2; omega
      have hlow : ∀ a, Rv = some a → w5.heap.size ≤ a.block := fun a ha => Nat.le_trans HST.out.base (hRv a ha)
      have hky := key_any Rv mv v w6 hLv HVB.out hvl1 hvl0
      have HKY := Lib.hid hky
      have HLV := Lib.hid hLv
      have HFR := Lib.hid hfresh
      have HLOW := Lib.hid hlow
      clear hc0 hLv hb6 hRv hfresh hlow hky HVO HST
      go_wp2_with fail
      refine (HKY.out).mono ?_
      rintro e w7 ⟨rfl, hb7⟩
      have HS7 := Lib.hid (HS6.out.below hb7)
      have HLV7 := Lib.hid (HLV.out.below hb7)
      have hown7 := HS7.out.map
      clear hb7 HKY HS6 HLV
      by_cases hmem : v ∈ s.V
      · obtain ⟨hhas, hval⟩ := HMI.out.at_ hmem
        have hstay := fun e => atStep_stay (net := net) (s := s) (a := a) (by rw [← HVE.out]; exact hmem) e
        have hmet := fun e => atStep_met (net := net) (s := s) (a := a) (by rw [← HVE.out]; exact hmem) e
        rw [← HVE.out] at hstay hmet
        obtain ⟨p, hp⟩ : ∃ p, p = s.V.idxOf v := ⟨_, rfl⟩
        have hplt : p < s.V.length := by rw [hp]; exact List.idxOf_lt_length_of_mem hmem
        rw [← hp] at hval hstay hmet
        obtain ⟨z, hz⟩ : ∃ z, z = lastZ s.H := ⟨_, rfl⟩
        rw [← hz] at hstay hmet ⊢
        have hkd := kind_met (p : Int) z
        have HZ := Lib.hid hz
        by_cases hlast : (p : Int) = z
        · rw [if_pos hlast] at hkd
          have HST' := Lib.hid (hstay hlast)
          clear hp hplt hz hstay hmet hmem hlast
          go_wp2_with (at_lookup; refine wpList_lookup_own_ok_int _ rfl _ _ 105 rfl 9 3 .i64 (Go.Maps.string_keyed Tryz.underlying9) mapi Tryz.underlying3 (zeroi _) (w2.heap.size + 1) n D rfl hown7 _ _ rfl HKF.out ?_; intro c hat hwc; rw [hhas]; obtain rfl := val_eq hat hval; clear hat hwc)
          refine (hkd _).mono ?_
          rintro e w' ⟨rfl, rfl⟩
          clear hkd hown7 hhas hval
          go_wp2_with fail
          refine ⟨⟨k + 1, F, Hh, V, nf, nv, cf, ch, cv, s, rows, n, D, by omega, by rw [HZ.out], by go_num, HS7, HMI, Lib.hid (by rw [HNX.out]; exact HST'.out.symm), by omega, by omega, by omega⟩, by simp [intOf]; omega⟩
        · rw [if_neg hlast] at hkd
          have HME := Lib.hid (hmet hlast)
          have hpn : p ≤ 1000000 := by have := HS7.out.lens; omega
          have hq7 := (HS7.out.row.get (i := 0) rfl).1
          have hs8 := HS7.out.below (bal w7 (.cells #[.int .u32 (a : Int)] 25))
          have HSF := Lib.hid hs8
          have hoF := hs8.ownF
          have hbaseF := hs8.base
          have HONEF := Lib.hid (Lies.new w7 #[.int .u32 (a : Int)] 25)
          obtain ⟨iF, hiF, hF0, hF1, hF2⟩ := info_parts u32_info
          obtain ⟨iH, hiH, hH0, hH1, hH2⟩ := info_parts Gr.int_info
          clear hp hplt hz hstay hmet hmem hlast hs8
          go_wp2_with (at_lookup; refine wpList_lookup_own_ok_int _ rfl _ _ 105 rfl 9 3 .i64 (Go.Maps.string_keyed Tryz.underlying9) mapi Tryz.underlying3 (zeroi _) (w2.heap.size + 1) n D rfl hown7 _ _ rfl HKF.out ?_; intro c hat hwc; rw [hhas]; obtain rfl := val_eq hat hval; clear hat hwc)
          refine (hkd _).mono ?_
          rintro e w' ⟨rfl, rfl⟩
          clear hkd hown7 hhas hval
          go_wp2_with (first
            | (at_builtin; refine wpList_append_lies _ rfl (.tmp 64) (.tmp 66) _ rfl w5.heap.size 25 iF _ 1 4 Tryz.underlying39 hiF hF0 hF1 hF2 rfl (by omega) (.slice F nf cf) nf _ rfl hoF _ 1 1 _ rfl rfl HONEF.out (by intro u hu; simp at hu; subst hu; rfl) (by simp only [maxLen]; omega) (by omega) hbaseF ?_; intro v9 w9 hO9 hg9 hat9; obtain ⟨F9, c9, rfl, _, _⟩ := own_form hO9; obtain ⟨hr9, hs9⟩ := HSF.out.appF hO9 hg9 hat9; obtain ⟨hq9, hqf9⟩ := hr9.get (i := 0) rfl; have hq10 := (hs9.row.get (i := 1) rfl).1; have hs10 := hs9.below (bal _ (.cells #[.int .i64 (p : Int)] 3)); have HSH := Lib.hid hs10; have hoH := hs10.ownH; have HONEH := Lib.hid (lies_newset w9 ⟨w2.heap.size, 0, none⟩ (.slice F9 (nf + 1) c9) #[.int .i64 (p : Int)] 3); have hbaseH := hs10.base; clear hO9 hg9 hat9 hr9 hs9 hs10 hoF)
            | (at_builtin; refine wpList_append_lies _ rfl (.tmp 70) (.tmp 72) _ rfl w5.heap.size 3 iH _ 1 8 Tryz.underlying29 hiH hH0 hH1 hH2 rfl (by omega) (.slice Hh nf ch) nf _ rfl hoH _ 1 1 _ rfl rfl HONEH.out (by intro u hu; simp at hu; subst hu; rfl) (by simp only [maxLen]; omega) (by omega) hbaseH ?_; intro v11 w11 hO11 hg11 hat11; obtain ⟨H11, c11, rfl, _, _⟩ := own_form hO11; obtain ⟨hr11, hs11⟩ := HSH.out.appH (a := p) hO11 hg11 hat11; obtain ⟨hq11, hqf11⟩ := hr11.get (i := 1) rfl; have HS12 := Lib.hid hs11; clear hO11 hg11 hat11 hr11 hs11 hoH))
          refine ⟨⟨k + 1, F9, H11, V, nf + 1, nv, c9, c11, cv, ⟨s.F ++ [a], s.H ++ [p], s.V⟩, rows, n, D, by omega, by rw [lastZ_snoc], by go_num, HS12, HMI, Lib.hid (by rw [HNX.out, HME.out]), by omega, by omega, by omega⟩, by simp [intOf]; omega⟩
      · have hmiss := HMI.out.miss v HVB.out hmem
        have hnew := atStep_new (net := net) (s := s) (a := a) (by rw [← HVE.out]; exact hmem)
        have hmput := HMI.out.put HVB.out hmem
        obtain ⟨-, -, hl3⟩ := HS7.out.lens
        rw [← HVE.out, hl3] at hnew
        rw [hl3] at hmput
        obtain ⟨z, hz⟩ : ∃ z, z = lastZ s.H := ⟨_, rfl⟩
        rw [← hz]
        obtain ⟨p, hp⟩ : ∃ p, p = nv := ⟨_, rfl⟩
        have hq7 := (HS7.out.row.get (i := 2) rfl).1
        have HNEW := Lib.hid hnew
        have HMPUT := Lib.hid hmput
        have hnv1 : nv ≤ 1000000 := by omega
        obtain ⟨iF, hiF, hF0, hF1, hF2⟩ := info_parts u32_info
        obtain ⟨iH, hiH, hH0, hH1, hH2⟩ := info_parts Gr.int_info
        obtain ⟨iV, hiV, hV0, hV1, hV2⟩ := info_parts vecs_info
        clear hnew hmput hl3 hmem hz
        go_wp2_with (at_lookup; refine wpList_lookup_own_ok_int _ rfl _ _ 105 rfl 9 3 .i64 (Go.Maps.string_keyed Tryz.underlying9) mapi Tryz.underlying3 (zeroi _) (w2.heap.size + 1) n D rfl hown7 _ _ rfl HKF.out ?_; intro c hat hwc; rw [hmiss]; clear hat hwc)
        refine (kind_fresh c z _).mono ?_
        rintro e w' ⟨rfl, rfl⟩
        clear hmiss
        go_wp2_with (first
          | (at_mapUpdate; refine wpList_mapUpdate_own _ rfl (.tmp 54) (.tmp 55) (.tmp 56) 105 rfl 9 3 (Go.Maps.string_keyed Tryz.underlying9) mapi (plainElem Tryz.prog 3) (w2.heap.size + 1) n D rfl hown7 (by unfold maxLen; omega) _ _ _ rfl rfl HKF.out _ [] (plainElem_int Tryz.underlying3 (wf_nat hnv1)) ?_; intro w8 hm8 hg8; have hs8 := HS7.out.upd hm8 hg8; have hLv8 := (lies_grown HLV7.out hg8 (fun a ha e => HFR.out a ha (.inr (.inl (by injection e with e; exact e.symm))))).below (bal w8 (.cells #[.slice Rv v.length mv] 29)); have HLV8 := Lib.hid hLv8; have hq8 := (hs8.row.get (i := 2) rfl).1; have hs8' := hs8.below (bal w8 (.cells #[.slice Rv v.length mv] 29)); have HSV := Lib.hid hs8'; have hoV := hs8'.ownV; have hbaseV := hs8'.base; have HONEV := Lib.hid (Lies.new w8 #[.slice Rv v.length mv] 29); clear hm8 hg8 hs8 hLv8 hs8' hown7)
          | (at_builtin; refine wpList_append_lies _ rfl (.tmp 58) (.tmp 60) _ rfl w5.heap.size 29 iV _ 1 24 Tryz.underlying56 hiV hV0 hV1 hV2 rfl (by omega) (.slice V nv cv) nv _ rfl hoV _ 1 1 _ rfl rfl HONEV.out (by intro u hu; simp at hu; subst hu; rfl) (by simp only [maxLen]; omega) (by omega) hbaseV ?_; intro v7 w7b hO7 hg7 hat7; obtain ⟨V7, c7, rfl, _, _⟩ := own_form hO7; obtain ⟨hr7, hs7⟩ := HSV.out.appV HLV8.out (fun _ a ha => ⟨HLOW.out a ha, HFR.out a ha⟩) hO7 hg7 hat7; obtain ⟨hq7b, hqf7⟩ := hr7.get (i := 2) rfl; have hq8b := (hs7.row.get (i := 0) rfl).1; have hs8b := hs7.below (bal _ (.cells #[.int .u32 (a : Int)] 25)); have HSF := Lib.hid hs8b; have hoF := hs8b.ownF; have HONEF := Lib.hid (lies_newset w7b ⟨w2.heap.size, 2, none⟩ (.slice V7 (nv + 1) c7) #[.int .u32 (a : Int)] 25); have hbaseF := hs8b.base; clear hO7 hg7 hat7 hr7 hs7 hs8b hoV)
          | (at_builtin; refine wpList_append_lies _ rfl (.tmp 64) (.tmp 66) _ rfl w5.heap.size 25 iF _ 1 4 Tryz.underlying39 hiF hF0 hF1 hF2 rfl (by omega) (.slice F nf cf) nf _ rfl hoF _ 1 1 _ rfl rfl HONEF.out (by intro u hu; simp at hu; subst hu; rfl) (by simp only [maxLen]; omega) (by omega) hbaseF ?_; intro v9 w9 hO9 hg9 hat9; obtain ⟨F9, c9, rfl, _, _⟩ := own_form hO9; obtain ⟨hr9, hs9⟩ := HSF.out.appF hO9 hg9 hat9; obtain ⟨hq9, hqf9⟩ := hr9.get (i := 0) rfl; have hq10 := (hs9.row.get (i := 1) rfl).1; have hs10 := hs9.below (bal _ (.cells #[.int .i64 (nv : Int)] 3)); have HSH := Lib.hid hs10; have hoH := hs10.ownH; have HONEH := Lib.hid (lies_newset w9 ⟨w2.heap.size, 0, none⟩ (.slice F9 (nf + 1) c9) #[.int .i64 (nv : Int)] 3); have hbaseH := hs10.base; clear hO9 hg9 hat9 hr9 hs9 hs10 hoF)
          | (at_builtin; refine wpList_append_lies _ rfl (.tmp 70) (.tmp 72) _ rfl w5.heap.size 3 iH _ 1 8 Tryz.underlying29 hiH hH0 hH1 hH2 rfl (by omega) (.slice Hh nf ch) nf _ rfl hoH _ 1 1 _ rfl rfl HONEH.out (by intro u hu; simp at hu; subst hu; rfl) (by simp only [maxLen]; omega) (by omega) hbaseH ?_; intro v11 w11 hO11 hg11 hat11; obtain ⟨H11, c11, rfl, _, _⟩ := own_form hO11; obtain ⟨hr11, hs11⟩ := HSH.out.appH (a := nv) hO11 hg11 hat11; obtain ⟨hq11, hqf11⟩ := hr11.get (i := 1) rfl; have HS12 := Lib.hid hs11; clear hO11 hg11 hat11 hr11 hs11 hoH))
        refine ⟨⟨k + 1, F9, H11, V7, nf + 1, nv + 1, c9, c11, c7, ⟨s.F ++ [a], s.H ++ [nv], s.V ++ [v]⟩, _, n + 1, _, by omega, by rw [lastZ_snoc], by go_num, HS12, HMPUT, Lib.hid (by rw [HNX.out, HNEW.out]), by omega, by omega, by omega⟩, by simp [intOf]; omega⟩
    · obtain rfl : k = L.length := by omega
      have hse := HSE.out
      rw [List.take_of_length_le (Nat.le_refl _)] at hse
      obtain ⟨hl1, hl2, hl3⟩ := HST.out.lens
      have hfb := HST.out.far.below (B := w2.heap.size) (Nat.le_refl _) (by omega) (by omega)
      have hbe := HB5.out.trans (hfb.mono (by omega))
      have hr := HST.out.row
      obtain ⟨hx0, -⟩ := hr.get (i := 0) rfl
      obtain ⟨hx1, -⟩ := hr.get (i := 1) rfl
      obtain ⟨hx2, -⟩ := hr.get (i := 2) rfl
      have hyl : w.heap.size + 1 < w5.heap.size := HY5.out.lt
      have hy0 := HY5.out.keep HST.out.base (HST.out.far.block _ hyl (by omega) (by omega))
      have hy1 := hy0.set_ 0 (.slice F nf cf)
      have hy2 := hy1.set_ 1 (.slice Hh nf ch)
      have hy3 := hy2.set_ 2 (.slice V nv cv)
      obtain ⟨p0, q0⟩ := hy0.get (i := 0) rfl
      obtain ⟨p1, q1⟩ := hy1.get (i := 1) rfl
      obtain ⟨p2, q2⟩ := hy2.get (i := 2) rfl
      obtain ⟨z0, -⟩ := hy3.get (i := 0) rfl
      obtain ⟨z1, -⟩ := hy3.get (i := 1) rfl
      obtain ⟨z2, -⟩ := hy3.get (i := 2) rfl
      have hbe1 := ((hbe.setCell (p := ⟨w.heap.size + 1, 0, none⟩) (Nat.le_succ _) (.slice F nf cf)).setCell (p := ⟨w.heap.size + 1, 1, none⟩) (Nat.le_succ _) (.slice Hh nf ch)).setCell (p := ⟨w.heap.size + 1, 2, none⟩) (Nat.le_succ _) (.slice V nv cv)
      have hdone := HST.out.done (W2 := ((wr.setCell ⟨w.heap.size + 1, 0, none⟩ (.slice F nf cf)).setCell ⟨w.heap.size + 1, 1, none⟩ (.slice Hh nf ch)).setCell ⟨w.heap.size + 1, 2, none⟩ (.slice V nv cv)) (by simp) (fun b hb _ => by
        have hne : b ≠ w.heap.size + 1 := by omega
        rw [Below.heap_setCell _ ⟨w.heap.size + 1, 2, none⟩ _ b hne, Below.heap_setCell _ ⟨w.heap.size + 1, 1, none⟩ _ b hne, Below.heap_setCell _ ⟨w.heap.size + 1, 0, none⟩ _ b hne])
      have HDONE := Lib.hid hdone
      have HBE1 := Lib.hid hbe1
      have HSE2 := Lib.hid hse
      have HLS := Lib.hid (And.intro hl1 (And.intro hl2 hl3))
      have HZ := Lib.hid (And.intro z0 (And.intro z1 z2))
      clear hse hl1 hl2 hl3 hfb hbe hr hy0 hy1 hy2 hy3 hbe1 hdone z0 z1 z2 HST HSE HMI HM H25 HY5 HB5 HR HRN
      go_wp2_with fail
      obtain ⟨z0, z1, z2⟩ := HZ.out
      obtain ⟨e1, e2, e3⟩ := HLS.out
      refine bodyPost_ret (v := .tuple #[atomsV F Hh V nf nf nv cf ch cv, .int .i64 0]) (by simp [results, Tryz.results17, go_sem, z0, z1, z2]) rfl ⟨F, Hh, V, cf, ch, cv, ?_, ?_, HBE1.out⟩
      · rw [← HSE2.out, e1, e2, e3]
      · rw [← HSE2.out]; exact HDONE.out
end Go.Proofs.YtpjoefekhgmlhaaGreat.Tp

namespace Go.Proofs.YtpjoefekhgmlhaaGreat.Tp
open Go.RowKit Mem

/-- A rule of any numbers. -/
structure RuleZ where
  a : Nat
  len : Int
  act : Int
  next : Int
abbrev rcz (r : RuleZ) : List Value := [.int .u32 (r.a : Int), .int .i64 r.len, .int .i64 r.act, .int .i64 r.next]
abbrev rvz (r : RuleZ) : Value := .agg #[.int .u32 (r.a : Int), .int .i64 r.len, .int .i64 r.act, .int .i64 r.next]
def In64 (x : Int) : Prop := -9223372036854775808 ≤ x ∧ x ≤ 9223372036854775807
structure RuleZOk (r : RuleZ) : Prop where
  a : r.a < 4294967296
  len : In64 r.len
  act : In64 r.act
  next : In64 r.next
def fitAct (r : RuleZ) : Nat := if r.act % 3 = 0 then 3 else (r.act % 3).toNat
def fitR (nodes : Nat) (r : RuleZ) : RuleT := ⟨lowN r.a (r.len % 33).toNat, (r.len % 33).toNat, fitAct r, if fitAct r = 1 then (r.next % (nodes : Int)).toNat else 0⟩
theorem fit_ok {nodes : Nat} (hn : 0 < nodes) {r : RuleZ} (h : RuleZOk r) : RuleOk nodes (fitR nodes r) := by
  have h1 : (r.len % 33).toNat ≤ 32 := by omega
  refine ⟨?_, h1, ?_, ?_⟩
  · show lowN r.a _ < 4294967296
    exact Nat.lt_of_le_of_lt (low_le _ _) h.a
  · show lowN r.a _ % wid _ = 0
    unfold lowN
    exact Nat.mul_mod_left _ _
  · show (fitAct r = 1 ∧ (if fitAct r = 1 then (r.next % (nodes : Int)).toNat else 0) < nodes) ∨ ((fitAct r = 2 ∨ fitAct r = 3) ∧ (if fitAct r = 1 then (r.next % (nodes : Int)).toNat else 0) = 0)
    have h2 : fitAct r = 1 ∨ fitAct r = 2 ∨ fitAct r = 3 := by unfold fitAct; split <;> omega
    by_cases e : fitAct r = 1
    · left
      rw [if_pos e]
      have h3 : r.next % (nodes : Int) < (nodes : Int) := Int.emod_lt_of_pos _ (by omega)
      exact ⟨e, by omega⟩
    · right
      rw [if_neg e]
      exact ⟨by omega, rfl⟩
theorem tmod_fit (x : Int) (n : Int) (hn : 0 < n) : ((x.tmod n) + n).tmod n = x % n := by
  have h1 : x.tmod n + n ≥ 0 := by
    have := Int.lt_tmod_of_pos x hn
    omega
  rw [Int.tmod_eq_emod_of_nonneg h1, Int.add_emod_right]
  rw [Int.tmod_eq_emod]
  split
  · simp
  · rw [Int.sub_emod]
    have : (n.natAbs : Int) = n := by omega
    rw [this]
    simp
set_option maxHeartbeats 1000000 in
theorem rfit_any (r : RuleZ) (nodes : Nat) (h : RuleZOk r) (h0 : 0 < nodes) (hn : nodes ≤ 256) (w : World) :
    Calls Tryz.prog 43 #[rvz r, .int .i64 (nodes : Int)] w fun e w' => e = .returned (rv (fitR nodes r)) ∧ Below w.heap.size w w' := by
  obtain ⟨a, len, act, next⟩ := r
  obtain ⟨ha, hl, hc, hx⟩ := h
  simp only at ha hl hc hx
  obtain ⟨n, hnn⟩ : ∃ n : Nat, n = (len % 33).toNat := ⟨_, rfl⟩
  have hn32 : n ≤ 32 := by omega
  have el : (len.tmod 33 + 33).tmod 33 = (n : Int) := by rw [tmod_fit _ _ (by omega)]; omega
  have hm := fun w => rmask_any n hn32 w
  have hml := mask_lt n (by omega)
  have hb : bits .and .u32 (a : Int) ((maskN n : Nat) : Int) = ((lowN a n : Nat) : Int) := by rw [u32_and_nat a _ ha hml, and_mask ha hn32]; rfl
  have ec : (act.tmod 3 + 3).tmod 3 = act % 3 := tmod_fit _ _ (by omega)
  have ex : (next.tmod (nodes : Int) + (nodes : Int)).tmod (nodes : Int) = next % (nodes : Int) := tmod_fit _ _ (by omega)
  have hfit : fitR nodes ⟨a, len, act, next⟩ = ⟨lowN a n, n, fitAct ⟨a, len, act, next⟩, if fitAct ⟨a, len, act, next⟩ = 1 then (next % (nodes : Int)).toNat else 0⟩ := by rw [hnn]; rfl
  rw [hfit]
  generalize lowN a n = la at *
  generalize maskN n = m at *
  obtain ⟨T1, hT1⟩ : ∃ T1, len.tmod 33 = T1 := ⟨_, rfl⟩
  obtain ⟨T2, hT2⟩ : ∃ T2, act.tmod 3 = T2 := ⟨_, rfl⟩
  obtain ⟨T3, hT3⟩ : ∃ T3, next.tmod (nodes : Int) = T3 := ⟨_, rfl⟩
  have b1 : -33 < T1 ∧ T1 < 33 := by rw [← hT1]; exact ⟨Int.lt_tmod_of_pos _ (by omega), Int.tmod_lt_of_pos _ (by omega)⟩
  have b2 : -3 < T2 ∧ T2 < 3 := by rw [← hT2]; exact ⟨Int.lt_tmod_of_pos _ (by omega), Int.tmod_lt_of_pos _ (by omega)⟩
  have b3 : -(nodes : Int) < T3 ∧ T3 < (nodes : Int) := by rw [← hT3]; exact ⟨Int.lt_tmod_of_pos _ (by omega), Int.tmod_lt_of_pos _ (by omega)⟩
  rw [hT1] at el
  rw [hT2] at ec
  rw [hT3] at ex
  obtain ⟨b1a, b1b⟩ := b1
  obtain ⟨b2a, b2b⟩ := b2
  obtain ⟨b3a, b3b⟩ := b3
  obtain ⟨C, hC⟩ : ∃ C, act % 3 = C := ⟨_, rfl⟩
  have hC0 : 0 ≤ C := by omega
  have hC1 : C < 3 := by omega
  obtain ⟨X, hX⟩ : ∃ X : Nat, next % (nodes : Int) = (X : Int) := ⟨(next % (nodes : Int)).toNat, by have := Int.emod_nonneg next (b := (nodes : Int)) (by omega); omega⟩
  rw [hC] at ec
  rw [hX] at ex ⊢
  have hfa : fitAct ⟨a, len, act, next⟩ = if C = 0 then 3 else C.toNat := by unfold fitAct; rw [← hC]
  rw [hfa]
  have HM := Lib.hid hm
  have n0 : ((nodes : Int) == 0) = false := by rw [beq_eq_false_iff_ne]; omega
  have n1 : ¬ (nodes : Int) = 0 := by omega
  obtain ⟨w1, hw1⟩ : ∃ w1, w1 = w.alloc (.cells #[.int .u32 (a : Int), .int .i64 len, .int .i64 act, .int .i64 next] 43) := ⟨_, rfl⟩
  obtain ⟨w2, hw2⟩ : ∃ w2, w2 = w1.alloc (.cells #[.int .u32 0, .int .i64 0, .int .i64 0, .int .i64 0] 43) := ⟨_, rfl⟩
  have s1 : w1.heap.size = w.heap.size + 1 := by rw [hw1]; simp
  have b1' : Below w.heap.size w w1 := by rw [hw1]; exact (Below.refl _ _).alloc (Nat.le_refl _) _
  have b2' : Below w1.heap.size w1 w2 := by rw [hw2]; exact (Below.refl _ _).alloc (Nat.le_refl _) _
  have hB := b1'.trans (b2'.mono b1'.size)
  have hr1 : VRow w2 w.heap.size [.int .u32 (a : Int), .int .i64 len, .int .i64 act, .int .i64 next] := by
    have h := VRow.new w #[.int .u32 (a : Int), .int .i64 len, .int .i64 act, .int .i64 next] 43
    rw [← hw1] at h
    exact h.below b2' h.lt
  have hr2 : VRow w2 (w.heap.size + 1) [.int .u32 0, .int .i64 0, .int .i64 0, .int .i64 0] := by
    have h := VRow.new w1 #[.int .u32 0, .int .i64 0, .int .i64 0, .int .i64 0] 43
    rw [← hw2, s1] at h
    exact h
  have q0 := hr1.cell 0 (by simp)
  have q1 := hr1.cell 1 (by simp)
  have q2 := hr1.cell 2 (by simp)
  have q3 := hr1.cell 3 (by simp)
  simp only [List.getElem_cons_zero, List.getElem_cons_succ] at q0 q1 q2 q3
  have hlt2 := hr2.lt
  rw [hw1] at hw2
  have HW2 := Lib.hid hw2
  have HR1 := Lib.hid hr1
  have HR2 := Lib.hid hr2
  have HB := Lib.hid hB
  clear hm hnn hfit hfa hC hX hl hc hx hw1 hw2 b1' b2' hr1 hr2 hB
  go_enter Tryz.func43, Tryz.ntmps43
  go_upto_region 1 with fail
  rw [← HW2.out]
  clear HW2
  go_upto_region 2 with fail
  have hwr : IntKind.i64.wrap (T2 + 3) = T2 + 3 := IntWalk.i64_in _ (by omega)
  have KS : Hid (∀ W, Below w2.heap.size w2 W → W.cell? ⟨w.heap.size, 0, none⟩ = some (.int .u32 (a : Int)) ∧ W.cell? ⟨w.heap.size, 2, none⟩ = some (.int .i64 act)) :=
    Lib.hid fun W hW => ⟨(hW.cell (p := ⟨w.heap.size, 0, none⟩) (show w.heap.size < w2.heap.size by omega)).trans q0, (hW.cell (p := ⟨w.heap.size, 2, none⟩) (show w.heap.size < w2.heap.size by omega)).trans q2⟩
  go_cut [6] (fun s6 wc => s6 = .pointer (some ⟨w2.heap.size, 0, none⟩) ∧ VRow wc w2.heap.size [.int .u32 (la : Int), .int .i64 (n : Int), .int .i64 C, .int .i64 0] ∧ VRow wc (w.heap.size + 1) [.int .u32 0, .int .i64 0, .int .i64 0, .int .i64 0] ∧ wc.cell? ⟨w.heap.size, 3, none⟩ = some (.int .i64 next) ∧ Hid (Below w.heap.size w wc))
  case first =>
    go_region_held3 (fun W => W.cell? ⟨w.heap.size, 0, none⟩ = some (.int .u32 (a : Int)) ∧ W.cell? ⟨w.heap.size, 2, none⟩ = some (.int .i64 act))
      (first | exact KS.out _ (below_drew (Below.refl _ _)) | exact KS.out _ ((below_drew (Below.refl _ _)).alloc (by simp) _) | exact KS.out _ (below_drew ((Below.refl _ _).alloc (by simp) _)))
      (first | (go_at_call 81; refine (HM.out _).mono ?_; rintro e w' ⟨rfl, rfl⟩))
    all_goals
      go_wp2_with fail
      go_meet
      have hb3 : Below w2.heap.size w2 (w2.alloc (.cells #[.int .u32 (la : Int), .int .i64 (n : Int), .int .i64 C, .int .i64 0] 43)).drew := below_drew (bal _ _)
      refine ⟨rfl, VRow.drew (VRow.new w2 #[.int .u32 (la : Int), .int .i64 (n : Int), .int .i64 C, .int .i64 0] 43), HR2.out.below hb3 hlt2, ?_, Lib.hid (HB.out.trans (hb3.mono HB.out.size))⟩
      have q3 := (HR1.out.below hb3 (by omega)).cell 3 (by simp)
      simpa only [List.getElem_cons_zero, List.getElem_cons_succ] using q3
  case rest =>
    clear KS hwr q0 q1 q2 HR1 HR2 HB
    obtain ⟨rfl, hr3, hz, q3, HB⟩ := hcut
    have p0 := hr3.cell 0 (by simp)
    have p1 := hr3.cell 1 (by simp)
    have p2 := hr3.cell 2 (by simp)
    have p3 := hr3.cell 3 (by simp)
    have f2 := hr3.free 2 (by simp)
    have f3 := hr3.free 3 (by simp)
    have z0 := hz.cell 0 (by simp)
    have z1 := hz.cell 1 (by simp)
    have z2 := hz.cell 2 (by simp)
    have z3 := hz.cell 3 (by simp)
    have g0 := hz.free 0 (by simp)
    have g1 := hz.free 1 (by simp)
    have g2 := hz.free 2 (by simp)
    have g3 := hz.free 3 (by simp)
    simp only [List.getElem_cons_zero, List.getElem_cons_succ] at p0 p1 p2 p3 z0 z1 z2 z3
    have hlw := hr3.lt
    have hC3 : C = 0 ∨ C = 1 ∨ C = 2 := by omega
    have hwx : IntKind.i64.wrap (T3 + (nodes : Int)) = T3 + (nodes : Int) := IntWalk.i64_in _ (by omega)
    have HZ := Lib.hid hz
    clear hr3 hz
    rcases hC3 with rfl | rfl | rfl
    · go_wp2_with fail
      have hv := (HZ.out.other (p := ⟨w2.heap.size, 2, none⟩) (show w2.heap.size ≠ w.heap.size + 1 by omega) (.int .i64 3)).set4 (.int .u32 (la : Int)) (.int .i64 (n : Int)) (.int .i64 3) (.int .i64 0)
      have y0 := hv.cell 0 (by simp)
      have y1 := hv.cell 1 (by simp)
      have y2 := hv.cell 2 (by simp)
      have y3 := hv.cell 3 (by simp)
      simp only [List.getElem_cons_zero, List.getElem_cons_succ] at y0 y1 y2 y3
      refine bodyPost_ret (v := .agg #[.int .u32 (la : Int), .int .i64 (n : Int), .int .i64 3, .int .i64 0]) (by simp [results, Tryz.results43, go_sem, y0, y1, y2, y3]) rfl ⟨rfl, below4 (HB.out.setCell (p := ⟨w2.heap.size, 2, none⟩) (show w.heap.size ≤ w2.heap.size by omega) _) (Nat.le_succ _) _ _ _ _⟩
    · go_wp2_with fail
      have hv := (HZ.out.other (p := ⟨w2.heap.size, 3, none⟩) (show w2.heap.size ≠ w.heap.size + 1 by omega) (.int .i64 (X : Int))).set4 (.int .u32 (la : Int)) (.int .i64 (n : Int)) (.int .i64 1) (.int .i64 (X : Int))
      have y0 := hv.cell 0 (by simp)
      have y1 := hv.cell 1 (by simp)
      have y2 := hv.cell 2 (by simp)
      have y3 := hv.cell 3 (by simp)
      simp only [List.getElem_cons_zero, List.getElem_cons_succ] at y0 y1 y2 y3
      refine bodyPost_ret (v := .agg #[.int .u32 (la : Int), .int .i64 (n : Int), .int .i64 1, .int .i64 (X : Int)]) (by simp [results, Tryz.results43, go_sem, y0, y1, y2, y3]) rfl ⟨rfl, below4 (HB.out.setCell (p := ⟨w2.heap.size, 3, none⟩) (show w.heap.size ≤ w2.heap.size by omega) _) (Nat.le_succ _) _ _ _ _⟩
    · go_wp2_with fail
      have hv := HZ.out.set4 (.int .u32 (la : Int)) (.int .i64 (n : Int)) (.int .i64 2) (.int .i64 0)
      have y0 := hv.cell 0 (by simp)
      have y1 := hv.cell 1 (by simp)
      have y2 := hv.cell 2 (by simp)
      have y3 := hv.cell 3 (by simp)
      simp only [List.getElem_cons_zero, List.getElem_cons_succ] at y0 y1 y2 y3
      refine bodyPost_ret (v := .agg #[.int .u32 (la : Int), .int .i64 (n : Int), .int .i64 2, .int .i64 0]) (by simp [results, Tryz.results43, go_sem, y0, y1, y2, y3]) rfl ⟨rfl, below4 HB.out (Nat.le_succ _) _ _ _ _⟩
end Go.Proofs.YtpjoefekhgmlhaaGreat.Tp
