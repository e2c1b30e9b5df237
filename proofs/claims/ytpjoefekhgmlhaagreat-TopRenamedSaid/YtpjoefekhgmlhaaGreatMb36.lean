/- CONTRACT of analyze.Net. Conditions: a network that may be, of one node at least; what cuts.Of answers. -/
import Derived.Test.YtpjoefekhgmlhaaGreatMb35
import Derived.Test.YtpjoefekhgmlhaaGreatMb31
import Derived.Test.YtpjoefekhgmlhaaGreatMb19
import Derived.Deep.DeepCutAuto
import Derived.Deep.RegionHeld3
import Derived.Deep.AppendLies
namespace Go.Proofs.YtpjoefekhgmlhaaGreat.Tp
open Go.RowKit Mem

/-- What follows the last statement of a sequence, named. -/
theorem wp_last {P : Program} {c : Code} {Q : Exit → Act → World → Prop} {a : Act} {w : World} (h : ∀ K : Act → World → Prop, (∀ a' w', Q .normal a' w' → K a' w') → c.wp P (Exit.then K Q) a w) : c.wp P Q a w := by
  refine Code.wp_mono (Q := Exit.then (fun a' w' => Q .normal a' w') Q) ?_ (h _ fun _ _ x => x)
  intro e a' w' hq
  cases e <;> exact hq
/-- So many parts are made. -/
structure PSt (w6 : World) (x : Nat) (s : AtS) (j : Nat) (S : Option Addr) (cp : Nat) (vs : List Value) (wr : World) : Prop where
  row : VRow wr x [.int .i64 1, .slice S j cp, .int .u32 0, .slice none 0 0]
  own : wr.ownsRow w6.heap.size 51 3 (.slice S j cp) j vs
  parts : RowsP w6 wr (Value.slice S j cp).ownBlock vs ((partsOf s).take j)
  far : Far w6 wr x x
theorem PSt.below {w6 : World} {x : Nat} {s : AtS} {j : Nat} {S : Option Addr} {cp : Nat} {vs : List Value} {wr w : World} (h : PSt w6 x s j S cp vs wr) (hb : Below wr.heap.size wr w) : PSt w6 x s j S cp vs w :=
  ⟨h.row.below hb h.row.lt, own_below h.own hb, h.parts.below hb, h.far.on hb⟩
theorem PSt.step {w6 : World} {x : Nat} {s : AtS} {j : Nat} {S : Option Addr} {cp : Nat} {vs : List Value} {w8 w9 w10 : World} {lo hi nl mc c10 g : Nat} {rl : List Int} {rn : List Nat} {Rc : Option Addr} (h : PSt w6 x s j S cp vs w8) (hx : x < w6.heap.size)
    (hpt : (partsOf s).take (j + 1) = (partsOf s).take j ++ [⟨lo, hi, rn⟩]) (hri : Gr.ints rl = nums rn) (hnl : rn.length = nl) (hnle : nl = rl.length)
    (hb9 : Below w8.drew.heap.size w8.drew w9) (hLc : Lies w9 Rc (Gr.ints rl)) (hnc : Gr.New w8.drew Rc) (hmc1 : rl.length ≤ mc) (hmc2 : mc ≤ 9223372036854775807)
    (hO10 : w10.ownsRow w6.heap.size 51 3 (.slice (some ⟨g, 0, none⟩) (j + 1) c10) (j + 1) (vs ++ [.int .u32 (lo : Int), .int .u32 (hi : Int), .slice Rc nl mc]))
    (hg10 : (w9.alloc (.cells #[.int .u32 (lo : Int), .int .u32 (hi : Int), .slice Rc nl mc] 51)).grownBy w10 (Value.slice S j cp).ownBlock)
    (hat10 : (Value.slice S j cp).ownBlock = some g ∨ g = (w9.alloc (.cells #[.int .u32 (lo : Int), .int .u32 (hi : Int), .slice Rc nl mc] 51)).heap.size) :
    PSt w6 x s (j + 1) (some ⟨g, 0, none⟩) c10 (vs ++ [.int .u32 (lo : Int), .int .u32 (hi : Int), .slice Rc nl mc]) (w10.setCell ⟨x, 1, none⟩ (.slice (some ⟨g, 0, none⟩) (j + 1) c10)) := by
  have hb9' : Below w8.heap.size w8 w9 := ⟨hb9.os, hb9.tape, hb9.output, hb9.size, hb9.block⟩
  have hal := bal w9 (.cells #[.int .u32 (lo : Int), .int .u32 (hi : Int), .slice Rc nl mc] 51)
  have hS9 := (h.below hb9').below hal
  have hat : (Value.slice (some ⟨g, 0, none⟩) (j + 1) c10).ownBlock = (Value.slice S j cp).ownBlock ∨ (Value.slice (some ⟨g, 0, none⟩) (j + 1) c10).ownBlock = some (w9.alloc (.cells #[.int .u32 (lo : Int), .int .u32 (hi : Int), .slice Rc nl mc] 51)).heap.size := hat10.elim (fun e => .inl e.symm) (fun e => .inr (by rw [e]; rfl))
  have hlt := h.own.lt
  have hheld : Held w9 (Value.slice S j cp).ownBlock Rc (nums rn) := Held.fresh (w0 := w8) (by rw [← hri]; exact hLc) (fun a ha => hnc a ha) (fun g' hg' => (hlt g' hg').2)
  have hP10 := (((h.parts.below hb9').snoc (p := ⟨lo, hi, rn⟩) hheld (by show rn.length ≤ mc; omega) hmc2 (fun a ha => Nat.le_trans h.far.size (hnc a ha))).below hal).step hg10 hat
  have hln : (⟨lo, hi, rn⟩ : PartT).ranks.length = nl := hnl
  rw [hln, ← hpt] at hP10
  have hne : (Value.slice S j cp).ownBlock ≠ some x := fun e => by have := (hlt x e).1; omega
  have hX10 := hS9.row.keep hg10.size (hg10.block x hS9.row.lt (fun e => hne e.symm))
  refine ⟨hX10.set_ 1 _, own_near hO10 (Near.set_ none x 1 w10 _) (fun e => by have h1 := (hO10.lt _ e).1; omega), hP10.near (Near.set_ none x 1 w10 _) hx, hS9.far.two hg10 (fun g' e => (hlt g' e).1) 1 _⟩

set_option linter.unusedSimpArgs false in
set_option maxRecDepth 100000 in
set_option maxHeartbeats 16000000 in
theorem anet_any (N : Option Addr) (cN : Nat) (net : List (List RuleT)) (L : List Nat) (w : World) (hN : NetAt w N net) (h : NetOk net) (hpos : 0 < net.length) (hC : CutsOf net L) (hlen : L.length ≤ 100000) (hL32 : ∀ a ∈ L, a < 4294967296) (hs : SOk (atomsTo net L)) :
    Calls Tryz.prog 8 #[.agg #[.slice N net.length cN]] w (AnPost w (anCert (atomsTo net L))) := by
  obtain ⟨wa, hwa⟩ : ∃ wa, wa = w.alloc (.cells #[.slice N net.length cN] 24) := ⟨_, rfl⟩
  obtain ⟨wb, hwb⟩ : ∃ wb, wb = wa.alloc (.cells #[.int .i64 0, .slice none 0 0, .int .u32 0, .slice none 0 0] 31) := ⟨_, rfl⟩
  have sa : wa.heap.size = w.heap.size + 1 := by rw [hwa]; simp
  have ba : Below w.heap.size w wa := by rw [hwa]; exact bal _ _
  have bb : Below wa.heap.size wa wb := by rw [hwb]; exact bal _ _
  have hb1 : Below w.heap.size w wb := ba.trans (bb.mono ba.size)
  have hx0 : VRow wb w.heap.size [.slice N net.length cN] := by
    have : VRow wa w.heap.size [.slice N net.length cN] := by rw [hwa]; exact VRow.new w #[.slice N net.length cN] _
    exact this.below bb this.lt
  have hy0 : VRow wb (w.heap.size + 1) [.int .i64 0, .slice none 0 0, .int .u32 0, .slice none 0 0] := by rw [hwb, ← sa]; exact VRow.new wa #[.int .i64 0, .slice none 0 0, .int .u32 0, .slice none 0 0] _
  have hat := atoms_any N cN net L wb (hN.below hb1) h hpos hC hlen hL32
  have hc0 := (hx0.get (i := 0) rfl).1
  rw [hwa] at hwb
  rw [hwb] at hc0
  obtain ⟨s, hse⟩ : ∃ s, s = atomsTo net L := ⟨_, rfl⟩
  rw [← hse] at hat hs ⊢
  have HW := Lib.hid hwb
  have HS := Lib.hid hs
  have HB1 := Lib.hid hb1
  have HY0 := Lib.hid hy0
  have HAT := Lib.hid hat
  have hfew := hs.few
  have hlenE := hs.len
  have hfewV := hs.fewV
  clear hwa hwb sa ba bb hN h hC hL32 hb1 hx0 hy0 hat hs hse hpos hlen
  go_enter Tryz.func8, Tryz.ntmps8
  go_wp2_with fail
  rw [← HW.out]
  clear hc0
  refine (HAT.out).mono ?_
  rintro e w2 ⟨F, H, V, cf, ch, cv, rfl, hA, hb2⟩
  have hy2 := HY0.out.below hb2 HY0.out.lt
  have hbw2 := HB1.out.trans (hb2.mono HB1.out.size)
  obtain ⟨w3, hw3⟩ : ∃ w3, w3 = w2.alloc (.cells #[.slice F s.F.length cf, .slice H s.H.length ch, .slice V s.V.length cv] 58) := ⟨_, rfl⟩
  have b3 : Below w2.heap.size w2 w3 := by rw [hw3]; exact bal _ _
  have hr3 : VRow w3 w2.heap.size [.slice F s.F.length cf, .slice H s.H.length ch, .slice V s.V.length cv] := by rw [hw3]; exact VRow.new w2 #[.slice F s.F.length cf, .slice H s.H.length ch, .slice V s.V.length cv] _
  have hA3 := hA.below b3
  have hy3 := hy2.below b3 hy2.lt
  have hbw3 := hbw2.trans (b3.mono hbw2.size)
  have hx2 := (hr3.get (i := 2) rfl).1
  have hyl : w.heap.size + 1 < w2.heap.size := hy2.lt
  obtain ⟨nF, hnF⟩ : ∃ nF, nF = s.F.length := ⟨_, rfl⟩
  obtain ⟨nV, hnV⟩ : ∃ nV, nV = s.V.length := ⟨_, rfl⟩
  rw [← hlenE] at hw3 hr3 ⊢
  rw [← hnF, ← hnV] at hw3 hr3 ⊢
  rw [← hnV] at hx2
  rw [hw3] at hx2
  have HW3 := Lib.hid hw3
  have HR3 := Lib.hid hr3
  have HA3 := Lib.hid hA3
  have HY3 := Lib.hid hy3
  have HBW3 := Lib.hid hbw3
  have HNF := Lib.hid hnF
  have HNV := Lib.hid hnV
  have HLE := Lib.hid hlenE
  have hnV1 : nV ≤ 100000 := by omega
  have hnF1 : nF ≤ 100000 := by omega
  clear hA hb2 hy2 hbw2 hw3 b3 hr3 hA3 hy3 hbw3 hnF hnV hlenE hfew hfewV HW HB1 HY0 HAT
  go_wp2_with fail
  rw [← HW3.out]
  clear hx2
  go_loopw [28] (fun i wr => ∃ k : Nat, k ≤ nV ∧ i = .int .i64 k ∧ Hid (∀ j (hj : j < s.V.length), j < k → hasLoop s.V[j] = false) ∧ Hid (Below w3.heap.size w3 wr)) (fun i _ => nV - (intOf i).toNat)
  case atStart => exact ⟨0, by omega, rfl, Lib.hid (fun j hj h => absurd h (by omega)), Lib.hid (Below.refl _ _)⟩
  case round =>
    obtain ⟨k, hk, rfl, HN, HB⟩ := hrel
    by_cases hlt : k < nV
    · have hlt' : k < s.V.length := by rw [← HNV.out]; exact hlt
      obtain ⟨hF3, hH3, rows, hV3, hrows⟩ := HA3.out
      obtain ⟨R, m, hrow, hLv, -⟩ := hrows.row k hlt'
      obtain ⟨b, off, hAe, hbb, hcV⟩ := hV3 (by rw [hrows.len]; omega)
      have hk0 := (HB.out.cell (p := ⟨b, off + k, none⟩) hbb).trans (hcV k _ hrow)
      have hmem := List.getElem_mem hlt'
      have hgr := Gr.loop_yesN R m s.V[k] wr (hLv.below HB.out) (HS.out.vec _ hmem)
      have hll : (Gr.loopL s.V[k]).length = (Gr.loopOf s.V[k]).length := by simp [Gr.loopL]
      have hgd : s.V.getD k [] = s.V[k] := by simp [List.getD, List.getElem?_eq_getElem hlt']
      obtain ⟨v, hv⟩ : ∃ v, v = s.V[k] := ⟨_, rfl⟩
      have hnums : Gr.ints (Gr.loopL v) = nums (Gr.loopOf v) := by simp [Gr.loopL, Gr.ints, nums]
      rw [← hv] at hk0 hgr hll hgd
      unfold Gr.PairPostN at hgr
      rw [hll, hnums] at hgr
      have HGR := Lib.hid hgr
      have HV := Lib.hid hv
      have HGD := Lib.hid hgd
      have HF3 := Lib.hid hF3
      have HH3 := Lib.hid hH3
      clear hF3 hH3 hV3 hrows hrow hLv hcV hmem hgr hll hgd hnums hv
      subst hAe
      go_wp2_with fail
      refine (HGR.out).mono ?_
      rintro e w5 ⟨R5, m5, rfl, hL5, hb5, hn5⟩
      have hbe := HB.out.trans (hb5.mono HB.out.size)
      have HBE := Lib.hid hbe
      have HL5 := Lib.hid hL5
      have HN5 : Hid (∀ a, R5 = some a → w3.heap.size ≤ a.block) := Lib.hid fun a ha => Nat.le_trans HB.out.size (hn5 a ha)
      obtain ⟨t, ht⟩ : ∃ t, t = (Gr.loopOf v).length := ⟨_, rfl⟩
      have hhl : hasLoop v = decide (0 < t) := by rw [ht]; rfl
      rw [← ht]
      have HHL := Lib.hid hhl
      have HT := Lib.hid ht
      clear hbe hL5 hb5 hn5 HGR ht hhl
      by_cases h0 : 0 < t
      · have t1 : decide ((t : Int) > 0) = true := by rw [decide_eq_true_eq]; omega
        have t2 : decide (0 < (t : Int)) = true := t1
        have t3 : decide (0 < t) = true := by rw [decide_eq_true_eq]; exact h0
        have hcert : anCert s = ⟨2, [], s.F.getD (s.H.idxOf k) 0, Gr.loopOf v⟩ := by
          have hfi : s.V.findIdx? hasLoop = some k := by
            rw [List.findIdx?_eq_some_iff_getElem]
            refine ⟨hlt', ?_, fun j hj => ?_⟩
            · rw [← HV.out, HHL.out]; exact t3
            · rw [HN.out j (by omega) hj]; simp
          unfold anCert
          rw [hfi]
          simp only
          rw [HGD.out]
        have hkm := HS.out.all k hlt'
        obtain ⟨ix, hix⟩ : ∃ ix, ix = s.H.idxOf k := ⟨_, rfl⟩
        have hixl : ix < s.F.length := by rw [hix, HLE.out]; exact List.idxOf_lt_length_of_mem hkm
        have hidx := fun W (hW : Below w3.heap.size w3 W) => sindex_any H ch k s.H W (HH3.out.below hW) hkm (by rw [← HLE.out, ← HNF.out]; omega)
        have hends := fun W (hW : Below w3.heap.size w3 W) => aends_any F H (some ⟨b, off, none⟩) nF nV cf ch cv ix s.F W (HF3.out.below hW) hixl (by rw [← HNF.out]; omega) HS.out.num HS.out.pos
        rw [← HLE.out, ← HNF.out] at hidx
        rw [← HNF.out] at hends
        rw [← hix] at hidx hcert
        obtain ⟨lo, hlo⟩ : ∃ lo, lo = s.F.getD ix 0 := ⟨_, rfl⟩
        obtain ⟨hi, hhi⟩ : ∃ hi, hi = cutHi s.F ix := ⟨_, rfl⟩
        rw [← hlo, ← hhi] at hends
        rw [← hlo] at hcert
        have hr5 := HR3.out.below HBE.out HR3.out.lt
        have hks : ∀ W, Below w5.heap.size w5 W → (W.cell? ⟨w2.heap.size, 0, none⟩ = some (.slice F nF cf) ∧ W.cell? ⟨w2.heap.size, 1, none⟩ = some (.slice H nF ch) ∧ W.cell? ⟨w2.heap.size, 2, none⟩ = some (.slice (some ⟨b, off, none⟩) nV cv)) ∧ Below w5.heap.size w5 W := fun W hW => by
          have hr := hr5.below hW hr5.lt
          exact ⟨⟨(hr.get (i := 0) rfl).1, (hr.get (i := 1) rfl).1, (hr.get (i := 2) rfl).1⟩, hW⟩
        have HIX := Lib.hid fun W (hW : Below w5.heap.size w5 W) => hidx W (HBE.out.trans (hW.mono HBE.out.size))
        have HEN := Lib.hid fun W (hW : Below w5.heap.size w5 W) => hends W (HBE.out.trans (hW.mono HBE.out.size))
        have KS := Lib.hid hks
        have HCERT := Lib.hid hcert
        clear hcert hkm hix hixl hidx hends hlo hhi hr5 hks
        go_upto_region 11 with fail
        go_cut [10] (fun s10 wx => ∃ q : Nat, s10 = .pointer (some ⟨q, 0, none⟩) ∧ wx.cell? ⟨q, 0, none⟩ = some (.int .u32 (lo : Int)) ∧ Below w5.heap.size w5 wx)
        case first =>
          go_region_held3 (fun W => (W.cell? ⟨w2.heap.size, 0, none⟩ = some (.slice F nF cf) ∧ W.cell? ⟨w2.heap.size, 1, none⟩ = some (.slice H nF ch) ∧ W.cell? ⟨w2.heap.size, 2, none⟩ = some (.slice (some ⟨b, off, none⟩) nV cv)) ∧ Below w5.heap.size w5 W)
            ((refine KS.out _ ?_; first
              | exact below_drew (Below.refl _ _)
              | exact (below_drew (Below.refl w5.heap.size w5)).trans hb6
              | exact ((below_drew (Below.refl w5.heap.size w5)).trans hb6).alloc hb6.size _
              | exact (below_drew (Below.refl w5.heap.size w5)).alloc (Nat.le_refl _) _
              | exact ((below_drew (Below.refl w5.heap.size w5)).alloc (Nat.le_refl _) _).trans (hb6.mono (by simp))
              | exact ((((below_drew (Below.refl w5.heap.size w5)).alloc (Nat.le_refl _) _).trans (hb6.mono (by simp))).setCell (p := ⟨w5.heap.size, 0, none⟩) (Nat.le_refl _) _).setCell (p := ⟨w5.heap.size, 1, none⟩) (Nat.le_refl _) _))
            (first
              | (go_at_call 20; first
                  | (refine (HIX.out _ (below_drew (Below.refl _ _))).mono ?_; rintro e w' ⟨rfl, rfl⟩)
                  | (refine (HIX.out _ ((below_drew (Below.refl w5.heap.size w5)).alloc (Nat.le_refl _) _)).mono ?_; rintro e w' ⟨rfl, rfl⟩))
              | (go_at_call 19; first
                  | (refine (HEN.out _ (below_drew (Below.refl _ _))).mono ?_; rintro e w6 ⟨rfl, hb6⟩)
                  | (refine (HEN.out _ ((below_drew (Below.refl w5.heap.size w5)).alloc (Nat.le_refl _) _)).mono ?_; rintro e w6 ⟨rfl, hb6⟩; (try (have hv6 : VRow w6 w5.heap.size [.int .u32 0, .int .u32 0] := VRow.below (w := (w5.alloc (.cells #[.int .u32 0, .int .u32 0] 63)).drew) (VRow.new w5 #[.int .u32 0, .int .u32 0] 63).drew hb6 (by simp); have hq0 := (hv6.get (i := 0) rfl).1; have hq1 := (hv6.get (i := 1) rfl).1; have hq2 := (hv6.get (i := 0) rfl).2; have hq3 := (hv6.get (i := 1) rfl).2)))))
          all_goals first
            | (have hv := VRow.new w6 #[.int .u32 (lo : Int), .int .u32 (hi : Int)] 63
               go_wp2_with fail
               go_meet
               exact ⟨w6.heap.size, rfl, (hv.get (i := 0) rfl).1, ((below_drew (Below.refl w5.heap.size w5)).trans hb6).alloc hb6.size _⟩)
            | (have hv := (hv6.set_ 0 (.int .u32 (lo : Int))).set_ 1 (.int .u32 (hi : Int))
               have hbe := ((((below_drew (Below.refl w5.heap.size w5)).alloc (Nat.le_refl _) _).trans (hb6.mono (by simp))).setCell (p := ⟨w5.heap.size, 0, none⟩) (Nat.le_refl _) (.int .u32 (lo : Int))).setCell (p := ⟨w5.heap.size, 1, none⟩) (Nat.le_refl _) (.int .u32 (hi : Int))
               go_wp2_with fail
               go_meet
               exact ⟨w5.heap.size, rfl, (hv.get (i := 0) rfl).1, hbe⟩)
        case rest =>
          obtain ⟨q, rfl, hq0, hbx⟩ := hcut
          have hyx := (HY3.out.below HBE.out (Nat.lt_of_lt_of_le hyl (by have := HR3.out.lt; omega))).below hbx (by have := HBE.out.size; have := HR3.out.lt; omega)
          have hy1 := hyx.set_ 0 (.int .i64 2)
          have hy2 := hy1.set_ 1 (.slice none 0 0)
          have hy3 := hy2.set_ 2 (.int .u32 (lo : Int))
          have hy4 := hy3.set_ 3 (.slice R5 t m5)
          obtain ⟨p0, f0⟩ := hyx.get (i := 0) rfl
          obtain ⟨p1, f1⟩ := hy1.get (i := 1) rfl
          obtain ⟨p2, f2⟩ := hy2.get (i := 2) rfl
          obtain ⟨p3, f3⟩ := hy3.get (i := 3) rfl
          have hz := And.intro (hy4.get (i := 0) rfl).1 (And.intro (hy4.get (i := 1) rfl).1 (And.intro (hy4.get (i := 2) rfl).1 (hy4.get (i := 3) rfl).1))
          have hwB := HBW3.out.trans ((HBE.out.trans (hbx.mono HBE.out.size)).mono HBW3.out.size)
          have hbe1 := (((hwB.setCell (p := ⟨w.heap.size + 1, 0, none⟩) (Nat.le_succ _) (.int .i64 2)).setCell (p := ⟨w.heap.size + 1, 1, none⟩) (Nat.le_succ _) (.slice none 0 0)).setCell (p := ⟨w.heap.size + 1, 2, none⟩) (Nat.le_succ _) (.int .u32 (lo : Int))).setCell (p := ⟨w.heap.size + 1, 3, none⟩) (Nat.le_succ _) (.slice R5 t m5)
          have hyl3 : w.heap.size + 1 < w3.heap.size := Nat.lt_trans hyl HR3.out.lt
          have hLz : Lies ((((wc.setCell ⟨w.heap.size + 1, 0, none⟩ (.int .i64 2)).setCell ⟨w.heap.size + 1, 1, none⟩ (.slice none 0 0)).setCell ⟨w.heap.size + 1, 2, none⟩ (.int .u32 (lo : Int))).setCell ⟨w.heap.size + 1, 3, none⟩ (.slice R5 t m5)) R5 (nums (Gr.loopOf v)) := by
            refine lies_stay (HL5.out.below hbx) (by simp) (fun _ a ha => ?_)
            have hne : a.block ≠ w.heap.size + 1 := by have := HN5.out a ha; omega
            rw [Below.heap_setCell _ ⟨w.heap.size + 1, 3, none⟩ _ _ hne, Below.heap_setCell _ ⟨w.heap.size + 1, 2, none⟩ _ _ hne, Below.heap_setCell _ ⟨w.heap.size + 1, 1, none⟩ _ _ hne, Below.heap_setCell _ ⟨w.heap.size + 1, 0, none⟩ _ _ hne]
          have HZ := Lib.hid hz
          have HBE1 := Lib.hid hbe1
          have HLZ := Lib.hid hLz
          have HN6 : Hid (∀ a, R5 = some a → w.heap.size ≤ a.block) := Lib.hid fun a ha => by have := HN5.out a ha; omega
          clear hbx hyx hy1 hy2 hy3 hy4 hz hwB hbe1 hLz HIX HEN KS HB HGD HV HHL HF3 HH3 HN HNV HLE HNF
          go_wp2_with fail
          obtain ⟨z0, z1, z2, z3⟩ := HZ.out
          refine bodyPost_ret (v := .tuple #[.agg #[(.int .i64 2), (.slice none 0 0), (.int .u32 (lo : Int)), (.slice R5 t m5)], .int .i64 0]) (by simp [results, Tryz.results8, go_sem, z0, z1, z2, z3]) rfl ⟨none, R5, 0, m5, ?_, ?_, ?_, HN6.out, HBE1.out⟩
          · rw [HCERT.out, HT.out]; rfl
          · rw [HCERT.out]; exact ⟨[], rfl, Lies.nil _ _, fun i hi => absurd hi (by simp)⟩
          · rw [HCERT.out]; exact HLZ.out
      · have t1 : decide ((t : Int) > 0) = false := by rw [decide_eq_false_iff_not]; omega
        have hh : hasLoop v = false := by rw [HHL.out, decide_eq_false_iff_not]; exact h0
        have HN' : Hid (∀ j (hj : j < s.V.length), j < k + 1 → hasLoop s.V[j] = false) := Lib.hid fun j hj hjk => by
          by_cases ej : j = k
          · subst ej; rw [← HV.out]; exact hh
          · exact HN.out j hj (by omega)
        have t2 : decide (0 < (t : Int)) = false := t1
        have t3 : decide (0 < t) = false := by rw [decide_eq_false_iff_not]; exact h0
        have t4 : t = 0 := by omega
        clear hh
        go_wp2_with fail
        refine ⟨⟨k + 1, by omega, by go_num, HN', HBE⟩, by simp [intOf]; omega⟩
    · obtain rfl : k = nV := by omega
      have hall : ∀ v ∈ s.V, hasLoop v = false := fun v hv => by
        obtain ⟨j, hj, rfl⟩ := List.getElem_of_mem hv
        exact HN.out j hj (by rw [HNV.out]; exact hj)
      have hcert : anCert s = ⟨1, partsOf s, 0, []⟩ := by
        have hfi : s.V.findIdx? hasLoop = none := by
          rw [List.findIdx?_eq_none_iff]; exact hall
        unfold anCert
        rw [hfi]
      have hrk := aranks_any F H V cf ch cv s wr (HA3.out.below HB.out) HS.out.vec (fun v hv => ranked_of (HS.out.vec v hv) (hall v hv)) (by rw [← HNV.out]; exact hnV1)
      rw [← HLE.out, ← HNF.out, ← HNV.out] at hrk
      have hr4 := HR3.out.below HB.out HR3.out.lt
      obtain ⟨hx0, -⟩ := hr4.get (i := 0) rfl
      obtain ⟨hx1, -⟩ := hr4.get (i := 1) rfl
      obtain ⟨hx2, -⟩ := hr4.get (i := 2) rfl
      have HRK := Lib.hid hrk
      have HCERT := Lib.hid hcert
      clear hall hcert hrk hr4 HN
      go_wp2_with fail
      refine (HRK.out).mono ?_
      rintro e wq ⟨R, mR, rrows, rfl, hLR, hVR, hbq⟩
      have hqb := HB.out.trans (hbq.mono HB.out.size)
      have hrq := HR3.out.below hqb HR3.out.lt
      have hyq := HY3.out.below hqb (Nat.lt_trans hyl HR3.out.lt)
      obtain ⟨w6, hw6⟩ : ∃ w6, w6 = wq.alloc (.cells #[.int .i64 1, .slice none 0 0, .int .u32 0, .slice none 0 0] 31) := ⟨_, rfl⟩
      have b6 : Below wq.heap.size wq w6 := by rw [hw6]; exact bal _ _
      have s6 : w6.heap.size = wq.heap.size + 1 := by rw [hw6]; simp
      have hc6 : VRow w6 wq.heap.size [.int .i64 1, .slice none 0 0, .int .u32 0, .slice none 0 0] := by rw [hw6]; exact VRow.new wq #[.int .i64 1, .slice none 0 0, .int .u32 0, .slice none 0 0] _
      have hv1 := ((hrq.below b6 hrq.lt).get (i := 1) rfl).1
      rw [hw6] at hv1
      have hltq : w2.heap.size < wq.heap.size := hrq.lt
      have HW6 := Lib.hid hw6
      have HRQ := Lib.hid hrq
      have HYQ := Lib.hid hyq
      have HC6 := Lib.hid hc6
      have HLR := Lib.hid hLR
      have HVR := Lib.hid hVR
      have HQB := Lib.hid hqb
      have HBWQ := Lib.hid (HBW3.out.trans (hqb.mono HBW3.out.size))
      have S6 := Lib.hid s6
      have B6 := Lib.hid b6
      clear hx0 hx1 hx2 hLR hVR hbq hqb hrq hyq hw6 b6 s6 hc6 HRK HB
      go_wp2_with fail
      rw [← HW6.out]
      clear hv1 HW6
      go_loopw [69] (fun i wr => ∃ (j : Nat) (S : Option Addr) (cp : Nat) (vs : List Value), j ≤ nF ∧ i = .int .i64 j ∧ Hid (PSt w6 wq.heap.size s j S cp vs wr)) (fun i _ => nF - (intOf i).toNat)
      case atStart => exact ⟨0, none, 0, [], by omega, rfl, Lib.hid ⟨HC6.out, World.ownsRow_nil _ _ _ _, ⟨rfl, fun i hi => absurd hi (by simp)⟩, .refl _ _ _⟩⟩
      case round =>
        clear HC6
        obtain ⟨j, S, cp, vs, hj, rfl, HP⟩ := hrel
        have HBQ : Hid (Below wq.heap.size wq wr) := Lib.hid (B6.out.trans (HP.out.far.below (Nat.le_refl _) (Nat.le_refl _) (by have := S6.out; omega)))
        by_cases hlj : j < nF
        · have hljF : j < s.F.length := by rw [← HNF.out]; exact hlj
          have hljH : j < s.H.length := by rw [← HLE.out]; exact hljF
          obtain ⟨hF3, hH3, -⟩ := HA3.out
          obtain ⟨bh, oh, hHe, hbh, hch⟩ := Lies.at_map (hH3.below HQB.out) hljH
          have hkh := (HBQ.out.cell (p := ⟨bh, oh + j, none⟩) hbh).trans hch
          have hvl := HS.out.lt _ (List.getElem_mem hljH)
          obtain ⟨vj, hvj⟩ : ∃ vj, vj = s.H[j] := ⟨_, rfl⟩
          rw [← hvj] at hkh hvl
          have hvr : vj < (ranksV s.V).length := by unfold ranksV; rw [List.length_map]; exact hvl
          obtain ⟨Rv, mv, hrrow, hLv, -⟩ := HVR.out.row vj hvr
          obtain ⟨br, or, hRe, hbr, hcr⟩ := HLR.out (by rw [HVR.out.len]; omega)
          have hkr := (HBQ.out.cell (p := ⟨br, or + vj, none⟩) hbr).trans (hcr vj _ hrrow)
          have hrv : (ranksV s.V)[vj] = Gr.ranksL s.V[vj] := by simp [ranksV]
          have hrl : (Gr.ranksL s.V[vj]).length = s.V[vj].length := by simp [Gr.ranksL]
          have hv0 : 0 < s.V[vj].length := HS.out.some_ _ (List.getElem_mem hvl)
          have hv256 : s.V[vj].length ≤ 256 := (Gr.errno_zero (HS.out.vec _ (List.getElem_mem hvl))).1
          have hpart : (partsOf s).take (j + 1) = (partsOf s).take j ++ [partOf s j] := by
            have hjl : j < (partsOf s).length := by simp [partsOf]; exact hljF
            rw [List.take_succ_eq_append_getElem hjl]
            congr 1
            simp [partsOf]
          have hpo : partOf s j = ⟨s.F.getD j 0, cutHi s.F j, ranksN s.V[vj]⟩ := by
            unfold partOf
            have e1 : s.H.getD j 0 = vj := by rw [hvj]; simp [List.getD, List.getElem?_eq_getElem hljH]
            rw [e1]
            have e2 : s.V.getD vj [] = s.V[vj] := by simp [List.getD, List.getElem?_eq_getElem hvl]
            rw [e2]
          have hends := fun W (hW : Below wq.heap.size wq W) => aends_any F H V nF s.V.length cf ch cv j s.F W ((hF3.below HQB.out).below hW) hljF (by rw [← HNF.out]; omega) HS.out.num HS.out.pos
          rw [← HNF.out, ← HNV.out] at hends
          have hri := ranksN_ints s.V[vj]
          have hrn : (ranksN s.V[vj]).length = s.V[vj].length := by simp [ranksN]
          rw [hrv] at hkr hLv
          rw [hpo] at hpart
          obtain ⟨lo, hlo⟩ : ∃ lo, lo = s.F.getD j 0 := ⟨_, rfl⟩
          obtain ⟨hi, hhi⟩ : ∃ hi, hi = cutHi s.F j := ⟨_, rfl⟩
          obtain ⟨rl, hrle⟩ : ∃ rl, rl = Gr.ranksL s.V[vj] := ⟨_, rfl⟩
          obtain ⟨rn, hrne⟩ : ∃ rn, rn = ranksN s.V[vj] := ⟨_, rfl⟩
          rw [← hlo, ← hhi] at hends hpart
          rw [← hrne] at hpart hri hrn
          rw [← hrle] at hkr hLv hri hrl
          have hrl0 : 0 < rl.length := by omega
          have hrl1 : rl.length ≤ 1000000 := by omega
          have hnl : rn.length = rl.length := by omega
          have hcl := fun W (hW : Below wq.heap.size wq W) => sclone_any Rv mv rl W (hLv.below hW) hrl0 hrl1
          have hrq := fun W (hW : Below wq.heap.size wq W) => HRQ.out.below hW HRQ.out.lt
          obtain ⟨q0, -⟩ := (hrq wr HBQ.out).get (i := 0) rfl
          obtain ⟨q1, -⟩ := (hrq wr HBQ.out).get (i := 1) rfl
          obtain ⟨q2, -⟩ := (hrq wr HBQ.out).get (i := 2) rfl
          have hvlt : vj < s.V.length := hvl
          have hvlk : vj < k := by rw [HNV.out]; exact hvl
          have hvli : (vj : Int) < (k : Int) := by omega
          have hvl0 : (0 : Int) ≤ (vj : Int) := by omega
          obtain ⟨nl, hnle⟩ : ∃ nl, nl = rl.length := ⟨_, rfl⟩
          rw [← hnle] at hkr hnl
          simp only [← hnle] at hcl
          have HEN := Lib.hid (hends wr HBQ.out)
          have HCL := Lib.hid hcl
          have HPT := Lib.hid hpart
          have HRI := Lib.hid hri
          have HNL := Lib.hid hnl
          have HNLE := Lib.hid hnle
          have HKR := Lib.hid hkr
          have hblt : br < wq.heap.size := hbr
          clear hF3 hH3 hbh hch hvl hvj hrrow hLv hbr hcr hrv hrl hv0 hv256 hpart hpo hends hri hrn hlo hhi hrle hrne hrl0 hrl1 hnl hcl hrq hnle hvr hvlk
          subst hHe hRe
          go_wp2_with fail
          refine (HEN.out).mono ?_
          rintro e w7 ⟨rfl, hb7⟩
          obtain ⟨w8, hw8⟩ : ∃ w8, w8 = w7.alloc (.cells #[.int .u32 (lo : Int), .int .u32 (hi : Int)] 63) := ⟨_, rfl⟩
          have b8 : Below w7.heap.size w7 w8 := by rw [hw8]; exact bal _ _
          have bw8 := hb7.trans (b8.mono hb7.size)
          have hE8 : VRow w8 w7.heap.size [.int .u32 (lo : Int), .int .u32 (hi : Int)] := by rw [hw8]; exact VRow.new w7 #[.int .u32 (lo : Int), .int .u32 (hi : Int)] _
          have hP8 := HP.out.below bw8
          have hQ8 := HBQ.out.trans (bw8.mono HBQ.out.size)
          have hk8 := (bw8.cell (p := ⟨br, or + vj, none⟩) (Nat.lt_of_lt_of_le hblt HBQ.out.size)).trans HKR.out
          have hcl8 := HCL.out w8.drew (below_drew hQ8)
          obtain ⟨e0, -⟩ := hE8.get (i := 0) rfl
          obtain ⟨e1, -⟩ := hE8.get (i := 1) rfl
          obtain ⟨x1, -⟩ := hP8.row.get (i := 1) rfl
          obtain ⟨iP, hiP, hP0, hP1, hP2⟩ := info_parts part_info
          have hxl6 : wq.heap.size < w6.heap.size := by have := S6.out; omega
          have HW8 := Lib.hid hw8
          have HE8 := Lib.hid hE8
          have HP8 := Lib.hid hP8
          have HCL8 := Lib.hid hcl8
          have HQ8 := Lib.hid hQ8
          have HOL7 : Hid (∀ g, (Value.slice S j cp).ownBlock = some g → g < w7.heap.size) := Lib.hid fun g hg => Nat.lt_of_lt_of_le (HP.out.own.lt g hg).2 hb7.size
          have hlq7 : wq.heap.size < w7.heap.size := Nat.lt_of_lt_of_le (Nat.lt_of_lt_of_le hxl6 HP.out.far.size) hb7.size
          clear hb7 hw8 b8 bw8 hE8 hP8 hQ8 hcl8 q0 q1 q2 hkh HP HBQ HEN HCL HKR
          go_upto_region 22 with fail
          rw [← HW8.out]
          refine wp_last fun KK hKK => ?_
          go_cut [90] (fun s90 wx => ∃ (S9 : Option Addr) (c9 : Nat) (vs9 : List Value), s90 = .slice S9 (j + 1) c9 ∧ PSt w6 wq.heap.size s (j + 1) S9 c9 vs9 wx)
          case first =>
            clear hKK HW8 HRQ HYQ HLR HVR HQB HBWQ B6 HR3 HA3 HY3 HBW3 HS HCERT
            -- REGION22 BEGIN
            refine wp_region_held_drew (S := (fun W => W.cell? ⟨w7.heap.size, 0, none⟩ = some (.int .u32 (lo : Int)) ∧ W.cell? ⟨w7.heap.size, 1, none⟩ = some (.int .u32 (hi : Int)) ∧ W.cell? ⟨br, or + vj, none⟩ = some (.slice Rv nl mv))) (by kernel_rfl) ⟨e0, e1, hk8⟩ (fun hHeld => ?_)
            refine wpAnyH_take (i := 0) (v := (.pointer (some ⟨wq.heap.size, 1, none⟩))) rfl (by kernel_rfl) (by kernel_rfl) (by kernel_rfl) (fun _ _ _ h => h) (Or.inl ⟨by rfl, fun w hSw => by (try dsimp only at hSw); go_simp⟩) (by assumption) ?_
            try simp only [Act.put, List.setIfInBounds_toArray, List.set_cons_zero, List.set_cons_succ]
            refine wpAnyH_take (i := 2) (v := (.pointer (some ⟨w7.heap.size, 0, none⟩))) rfl (by kernel_rfl) (by kernel_rfl) (by kernel_rfl) (fun _ _ _ h => h) (Or.inl ⟨by rfl, fun w hSw => by (try dsimp only at hSw); go_simp⟩) (by assumption) ?_
            try simp only [Act.put, List.setIfInBounds_toArray, List.set_cons_zero, List.set_cons_succ]
            refine wpAnyH_take (i := 3) (v := (.int .u32 (lo : Int))) rfl (by kernel_rfl) (by kernel_rfl) (by kernel_rfl) (fun _ _ _ h => h) (Or.inl ⟨by rfl, fun w hSw => by (try dsimp only at hSw); go_simp⟩) (by assumption) ?_
            try simp only [Act.put, List.setIfInBounds_toArray, List.set_cons_zero, List.set_cons_succ]
            refine wpAnyH_take (i := 4) (v := (.pointer (some ⟨w7.heap.size, 1, none⟩))) rfl (by kernel_rfl) (by kernel_rfl) (by kernel_rfl) (fun _ _ _ h => h) (Or.inl ⟨by rfl, fun w hSw => by (try dsimp only at hSw); go_simp⟩) (by assumption) ?_
            try simp only [Act.put, List.setIfInBounds_toArray, List.set_cons_zero, List.set_cons_succ]
            refine wpAnyH_take (i := 5) (v := (.int .u32 (hi : Int))) rfl (by kernel_rfl) (by kernel_rfl) (by kernel_rfl) (fun _ _ _ h => h) (Or.inl ⟨by rfl, fun w hSw => by (try dsimp only at hSw); go_simp⟩) (by assumption) ?_
            try simp only [Act.put, List.setIfInBounds_toArray, List.set_cons_zero, List.set_cons_succ]
            refine wpAnyH_take (i := 6) (v := (.slice (some ⟨br, or, none⟩) s.V.length mR)) rfl (by kernel_rfl) (by kernel_rfl) (by kernel_rfl) (fun _ _ _ h => h) (Or.inl ⟨by rfl, fun w hSw => by (try dsimp only at hSw); go_simp⟩) (by assumption) ?_
            try simp only [Act.put, List.setIfInBounds_toArray, List.set_cons_zero, List.set_cons_succ]
            refine wpAnyH_take (i := 7) (v := (.int .i64 (vj : Int))) rfl (by kernel_rfl) (by kernel_rfl) (by kernel_rfl) (fun _ _ _ h => h) (Or.inl ⟨by rfl, fun w hSw => by (try dsimp only at hSw); go_simp⟩) (by assumption) ?_
            try simp only [Act.put, List.setIfInBounds_toArray, List.set_cons_zero, List.set_cons_succ]
            refine wpAnyH_take (i := 8) (v := (.pointer (some ⟨br, or + vj, none⟩))) rfl (by kernel_rfl) (by kernel_rfl) (by kernel_rfl) (fun _ _ _ h => h) (Or.inl ⟨by rfl, fun w hSw => by (try dsimp only at hSw); go_simp⟩) (by assumption) ?_
            try simp only [Act.put, List.setIfInBounds_toArray, List.set_cons_zero, List.set_cons_succ]
            refine wpAnyH_take (i := 9) (v := (.slice Rv nl mv)) rfl (by kernel_rfl) (by kernel_rfl) (by kernel_rfl) (fun _ _ _ h => h) (Or.inl ⟨by rfl, fun w hSw => by (try dsimp only at hSw); go_simp⟩) (by assumption) ?_
            try simp only [Act.put, List.setIfInBounds_toArray, List.set_cons_zero, List.set_cons_succ]
            refine wpAnyH_ready (rs := [1, 10]) (by kernel_rfl) (by simp) ?_
            refine AllReadyH.cons rfl (fun K hK => ?_) ?_
            · go_simp
              refine hK.out _ _ hHeld (fun hHeld => ?_)
              clear hK K
              try simp only [Act.put, List.setIfInBounds_toArray, List.set_cons_zero, List.set_cons_succ]
              refine wpAnyH_ready (rs := [10]) (by kernel_rfl) (by simp) ?_
              refine AllReadyH.cons rfl (fun K hK => ?_) AllReadyH.nil
              go_simp
              go_at_call 22
              refine (HCL8.out).mono ?_
              rintro e w9 ⟨Rc, mc, rfl, hLc, hb9, hnc, hmc1, hmc2⟩
              rw [← HNLE.out]
              have hb9' : Below w8.heap.size w8 w9 := ⟨hb9.os, hb9.tape, hb9.output, hb9.size, hb9.block⟩
              have hE9 := HE8.out.below hb9' HE8.out.lt
              have hP9 := HP8.out.below hb9'
              have hk9 := (hb9'.cell (p := ⟨br, or + vj, none⟩) (Nat.lt_of_lt_of_le hblt HQ8.out.size)).trans hk8
              obtain ⟨x19, -⟩ := hP9.row.get (i := 1) rfl
              have hal := bal w9 (.cells #[.int .u32 (lo : Int), .int .u32 (hi : Int), .slice Rc nl mc] 51)
              have hP9b := hP9.below hal
              have hE9b := hE9.below hal hE9.lt
              have hk9b := (hal.cell (p := ⟨br, or + vj, none⟩) (Nat.lt_of_lt_of_le (Nat.lt_of_lt_of_le hblt HQ8.out.size) hb9'.size)).trans hk9
              obtain ⟨x19b, -⟩ := hP9b.row.get (i := 1) rfl
              have HS9 := Lib.hid (And.intro (hE9.get (i := 0) rfl).1 (And.intro (hE9.get (i := 1) rfl).1 hk9))
              have HS9b := Lib.hid (And.intro (hE9b.get (i := 0) rfl).1 (And.intro (hE9b.get (i := 1) rfl).1 hk9b))
              have HX9 := Lib.hid hP9b.row
              have HO9 := Lib.hid hP9b.own
              have HE9b := Lib.hid hE9b
              have HK9b := Lib.hid hk9b
              have HNEWS := Lib.hid (World.news_of_block (heap_alloc_new w9 (.cells #[.int .u32 (lo : Int), .int .u32 (hi : Int), .slice Rc nl mc] 51)))
              have hbase9 : w6.heap.size ≤ (w9.alloc (.cells #[.int .u32 (lo : Int), .int .u32 (hi : Int), .slice Rc nl mc] 51)).heap.size := hP9b.far.size
              have hbl9 : br < (w9.alloc (.cells #[.int .u32 (lo : Int), .int .u32 (hi : Int), .slice Rc nl mc] 51)).heap.size := Nat.lt_of_lt_of_le (Nat.lt_trans hblt hxl6) hbase9
              have HNE9 : Hid (some wq.heap.size ≠ (Value.slice S j cp).ownBlock) := Lib.hid (fun e => by have h1 := (HO9.out.lt _ e.symm).1; omega)
              have HNE9b : Hid (some br ≠ (Value.slice S j cp).ownBlock) := Lib.hid (fun e => by have h1 := (HO9.out.lt _ e.symm).1; omega)
              have HBK := Lib.hid (And.intro hLc (And.intro hb9 (And.intro hnc (And.intro hmc1 hmc2))))
              clear hE9 hP9 hP9b hE9b hk9 hk9b hal hLc hb9 hb9' hnc hmc1 hmc2
              refine hK.out _ _ HS9.out (fun hHeld => ?_)
              clear hK K
              try simp only [Act.put, List.setIfInBounds_toArray, List.set_cons_zero, List.set_cons_succ]
              refine wpAnyH_take (i := 11) (v := (.agg #[.int .u32 (lo : Int), .int .u32 (hi : Int), .slice Rc nl mc])) rfl (by kernel_rfl) (by kernel_rfl) (by kernel_rfl) (fun _ _ _ h => h) (Or.inl ⟨by rfl, fun w hSw => by (try dsimp only at hSw); go_simp⟩) (by assumption) ?_
              try simp only [Act.put, List.setIfInBounds_toArray, List.set_cons_zero, List.set_cons_succ]
              refine wpAnyH_ready (rs := [12]) (by kernel_rfl) (by simp) ?_
              refine AllReadyH.cons rfl (fun K hK => ?_) AllReadyH.nil
              go_simp
              refine hK.out _ _ HS9b.out (fun hHeld => ?_)
              clear hK K
              try simp only [Act.put, List.setIfInBounds_toArray, List.set_cons_zero, List.set_cons_succ]
              refine wpAnyH_ready (rs := [13]) (by kernel_rfl) (by simp) ?_
              refine AllReadyH.cons rfl (fun K hK => ?_) AllReadyH.nil
              refine step_append_lies _ rfl (.tmp 78) (.tmp 89) 28 rfl w6.heap.size 51 iP _ 3 32 Tryz.underlying28 hiP hP0 hP1 hP2 rfl (by omega) (.slice S j cp) j vs (by simp [Act.eval]) HO9.out ⟨w9.heap.size, 0, none⟩ 1 1 [.int .u32 (lo : Int), .int .u32 (hi : Int), .slice Rc nl mc] (by simp [Act.eval]) rfl HNEWS.out (by intro u hu; simp at hu; rcases hu with rfl | rfl | rfl <;> rfl) (by omega) (by simp only [maxLen]; omega) (by omega) hbase9 _ rfl ?_
              intro g c10 w10 hO10 hg10 hat10 hlt10
              have hX10 := HX9.out.keep hg10.size (hg10.block _ HX9.out.lt HNE9.out)
              obtain ⟨x10, xf10⟩ := hX10.get (i := 1) rfl
              have hE10 := HE9b.out.keep hg10.size (hg10.block _ HE9b.out.lt (fun e => Nat.lt_irrefl _ (HOL7.out _ e.symm)))
              have hk10 := (World.cell?_of_block (a := ⟨br, or + vj, none⟩) (hg10.block br hbl9 HNE9b.out)).trans HK9b.out
              have hE11 := hE10.keep (w' := w10.setCell ⟨wq.heap.size, 1, none⟩ (.slice (some ⟨g, 0, none⟩) (j + 1) c10)) (by simp) (Below.heap_setCell w10 ⟨wq.heap.size, 1, none⟩ _ w7.heap.size (by show w7.heap.size ≠ wq.heap.size; omega))
              have hk11 := (World.cell?_of_block (w := w10) (w' := w10.setCell ⟨wq.heap.size, 1, none⟩ (.slice (some ⟨g, 0, none⟩) (j + 1) c10)) (a := ⟨br, or + vj, none⟩) (Below.heap_setCell w10 ⟨wq.heap.size, 1, none⟩ _ br (by show br ≠ wq.heap.size; omega))).trans hk10
              have HS11 := Lib.hid (And.intro (hE11.get (i := 0) rfl).1 (And.intro (hE11.get (i := 1) rfl).1 hk11))
              have HLAST := Lib.hid (HP8.out.step hxl6 HPT.out HRI.out HNL.out HNLE.out HBK.out.2.1 HBK.out.1 HBK.out.2.2.1 HBK.out.2.2.2.1 HBK.out.2.2.2.2 hO10 hg10 hat10)
              refine hK.out _ _ ⟨(hE10.get (i := 0) rfl).1, (hE10.get (i := 1) rfl).1, hk10⟩ (fun hHeld => ?_)
              clear hK K
              try simp only [Act.put, List.setIfInBounds_toArray, List.set_cons_zero, List.set_cons_succ]
              clear hX10 hE10 hk10 hE11 hk11 hO10 hg10 hat10 hlt10
              refine wpAnyH_take (i := 14) (v := (.pointer (some ⟨wq.heap.size, 1, none⟩))) rfl (by kernel_rfl) (by kernel_rfl) (by kernel_rfl) (fun _ _ _ h => h) (Or.inl ⟨by rfl, fun w hSw => by (try dsimp only at hSw); go_simp⟩) (by assumption) ?_
              try simp only [Act.put, List.setIfInBounds_toArray, List.set_cons_zero, List.set_cons_succ]
              refine wpAnyH_ready (rs := [15]) (by kernel_rfl) (by simp) ?_
              refine AllReadyH.cons rfl (fun K hK => ?_) AllReadyH.nil
              go_simp
              refine hK.out _ _ HS11.out (fun hHeld => ?_)
              clear hK K
              try simp only [Act.put, List.setIfInBounds_toArray, List.set_cons_zero, List.set_cons_succ]
              refine wpAnyH_done (by kernel_rfl) ?_ _
              go_wp2_with fail
              go_meet
              exact ⟨_, _, _, rfl, HLAST.out⟩
            · refine AllReadyH.cons rfl (fun K hK => ?_) AllReadyH.nil
              go_simp
              go_at_call 22
              refine (HCL8.out).mono ?_
              rintro e w9 ⟨Rc, mc, rfl, hLc, hb9, hnc, hmc1, hmc2⟩
              rw [← HNLE.out]
              have hb9' : Below w8.heap.size w8 w9 := ⟨hb9.os, hb9.tape, hb9.output, hb9.size, hb9.block⟩
              have hE9 := HE8.out.below hb9' HE8.out.lt
              have hP9 := HP8.out.below hb9'
              have hk9 := (hb9'.cell (p := ⟨br, or + vj, none⟩) (Nat.lt_of_lt_of_le hblt HQ8.out.size)).trans hk8
              obtain ⟨x19, -⟩ := hP9.row.get (i := 1) rfl
              have hal := bal w9 (.cells #[.int .u32 (lo : Int), .int .u32 (hi : Int), .slice Rc nl mc] 51)
              have hP9b := hP9.below hal
              have hE9b := hE9.below hal hE9.lt
              have hk9b := (hal.cell (p := ⟨br, or + vj, none⟩) (Nat.lt_of_lt_of_le (Nat.lt_of_lt_of_le hblt HQ8.out.size) hb9'.size)).trans hk9
              obtain ⟨x19b, -⟩ := hP9b.row.get (i := 1) rfl
              have HS9 := Lib.hid (And.intro (hE9.get (i := 0) rfl).1 (And.intro (hE9.get (i := 1) rfl).1 hk9))
              have HS9b := Lib.hid (And.intro (hE9b.get (i := 0) rfl).1 (And.intro (hE9b.get (i := 1) rfl).1 hk9b))
              have HX9 := Lib.hid hP9b.row
              have HO9 := Lib.hid hP9b.own
              have HE9b := Lib.hid hE9b
              have HK9b := Lib.hid hk9b
              have HNEWS := Lib.hid (World.news_of_block (heap_alloc_new w9 (.cells #[.int .u32 (lo : Int), .int .u32 (hi : Int), .slice Rc nl mc] 51)))
              have hbase9 : w6.heap.size ≤ (w9.alloc (.cells #[.int .u32 (lo : Int), .int .u32 (hi : Int), .slice Rc nl mc] 51)).heap.size := hP9b.far.size
              have hbl9 : br < (w9.alloc (.cells #[.int .u32 (lo : Int), .int .u32 (hi : Int), .slice Rc nl mc] 51)).heap.size := Nat.lt_of_lt_of_le (Nat.lt_trans hblt hxl6) hbase9
              have HNE9 : Hid (some wq.heap.size ≠ (Value.slice S j cp).ownBlock) := Lib.hid (fun e => by have h1 := (HO9.out.lt _ e.symm).1; omega)
              have HNE9b : Hid (some br ≠ (Value.slice S j cp).ownBlock) := Lib.hid (fun e => by have h1 := (HO9.out.lt _ e.symm).1; omega)
              have HBK := Lib.hid (And.intro hLc (And.intro hb9 (And.intro hnc (And.intro hmc1 hmc2))))
              clear hE9 hP9 hP9b hE9b hk9 hk9b hal hLc hb9 hb9' hnc hmc1 hmc2
              refine hK.out _ _ HS9.out (fun hHeld => ?_)
              clear hK K
              try simp only [Act.put, List.setIfInBounds_toArray, List.set_cons_zero, List.set_cons_succ]
              refine wpAnyH_take (i := 11) (v := (.agg #[.int .u32 (lo : Int), .int .u32 (hi : Int), .slice Rc nl mc])) rfl (by kernel_rfl) (by kernel_rfl) (by kernel_rfl) (fun _ _ _ h => h) (Or.inl ⟨by rfl, fun w hSw => by (try dsimp only at hSw); go_simp⟩) (by assumption) ?_
              try simp only [Act.put, List.setIfInBounds_toArray, List.set_cons_zero, List.set_cons_succ]
              refine wpAnyH_ready (rs := [1, 12]) (by kernel_rfl) (by simp) ?_
              refine AllReadyH.cons rfl (fun K hK => ?_) ?_
              · go_simp
                refine hK.out _ _ hHeld (fun hHeld => ?_)
                clear hK K
                try simp only [Act.put, List.setIfInBounds_toArray, List.set_cons_zero, List.set_cons_succ]
                refine wpAnyH_ready (rs := [12]) (by kernel_rfl) (by simp) ?_
                refine AllReadyH.cons rfl (fun K hK => ?_) AllReadyH.nil
                go_simp
                refine hK.out _ _ HS9b.out (fun hHeld => ?_)
                clear hK K
                try simp only [Act.put, List.setIfInBounds_toArray, List.set_cons_zero, List.set_cons_succ]
                refine wpAnyH_ready (rs := [13]) (by kernel_rfl) (by simp) ?_
                refine AllReadyH.cons rfl (fun K hK => ?_) AllReadyH.nil
                refine step_append_lies _ rfl (.tmp 78) (.tmp 89) 28 rfl w6.heap.size 51 iP _ 3 32 Tryz.underlying28 hiP hP0 hP1 hP2 rfl (by omega) (.slice S j cp) j vs (by simp [Act.eval]) HO9.out ⟨w9.heap.size, 0, none⟩ 1 1 [.int .u32 (lo : Int), .int .u32 (hi : Int), .slice Rc nl mc] (by simp [Act.eval]) rfl HNEWS.out (by intro u hu; simp at hu; rcases hu with rfl | rfl | rfl <;> rfl) (by omega) (by simp only [maxLen]; omega) (by omega) hbase9 _ rfl ?_
                intro g c10 w10 hO10 hg10 hat10 hlt10
                have hX10 := HX9.out.keep hg10.size (hg10.block _ HX9.out.lt HNE9.out)
                obtain ⟨x10, xf10⟩ := hX10.get (i := 1) rfl
                have hE10 := HE9b.out.keep hg10.size (hg10.block _ HE9b.out.lt (fun e => Nat.lt_irrefl _ (HOL7.out _ e.symm)))
                have hk10 := (World.cell?_of_block (a := ⟨br, or + vj, none⟩) (hg10.block br hbl9 HNE9b.out)).trans HK9b.out
                have hE11 := hE10.keep (w' := w10.setCell ⟨wq.heap.size, 1, none⟩ (.slice (some ⟨g, 0, none⟩) (j + 1) c10)) (by simp) (Below.heap_setCell w10 ⟨wq.heap.size, 1, none⟩ _ w7.heap.size (by show w7.heap.size ≠ wq.heap.size; omega))
                have hk11 := (World.cell?_of_block (w := w10) (w' := w10.setCell ⟨wq.heap.size, 1, none⟩ (.slice (some ⟨g, 0, none⟩) (j + 1) c10)) (a := ⟨br, or + vj, none⟩) (Below.heap_setCell w10 ⟨wq.heap.size, 1, none⟩ _ br (by show br ≠ wq.heap.size; omega))).trans hk10
                have HS11 := Lib.hid (And.intro (hE11.get (i := 0) rfl).1 (And.intro (hE11.get (i := 1) rfl).1 hk11))
                have HLAST := Lib.hid (HP8.out.step hxl6 HPT.out HRI.out HNL.out HNLE.out HBK.out.2.1 HBK.out.1 HBK.out.2.2.1 HBK.out.2.2.2.1 HBK.out.2.2.2.2 hO10 hg10 hat10)
                refine hK.out _ _ ⟨(hE10.get (i := 0) rfl).1, (hE10.get (i := 1) rfl).1, hk10⟩ (fun hHeld => ?_)
                clear hK K
                try simp only [Act.put, List.setIfInBounds_toArray, List.set_cons_zero, List.set_cons_succ]
                clear hX10 hE10 hk10 hE11 hk11 hO10 hg10 hat10 hlt10
                refine wpAnyH_take (i := 14) (v := (.pointer (some ⟨wq.heap.size, 1, none⟩))) rfl (by kernel_rfl) (by kernel_rfl) (by kernel_rfl) (fun _ _ _ h => h) (Or.inl ⟨by rfl, fun w hSw => by (try dsimp only at hSw); go_simp⟩) (by assumption) ?_
                try simp only [Act.put, List.setIfInBounds_toArray, List.set_cons_zero, List.set_cons_succ]
                refine wpAnyH_ready (rs := [15]) (by kernel_rfl) (by simp) ?_
                refine AllReadyH.cons rfl (fun K hK => ?_) AllReadyH.nil
                go_simp
                refine hK.out _ _ HS11.out (fun hHeld => ?_)
                clear hK K
                try simp only [Act.put, List.setIfInBounds_toArray, List.set_cons_zero, List.set_cons_succ]
                refine wpAnyH_done (by kernel_rfl) ?_ _
                go_wp2_with fail
                go_meet
                exact ⟨_, _, _, rfl, HLAST.out⟩
              · refine AllReadyH.cons rfl (fun K hK => ?_) AllReadyH.nil
                go_simp
                refine hK.out _ _ HS9b.out (fun hHeld => ?_)
                clear hK K
                try simp only [Act.put, List.setIfInBounds_toArray, List.set_cons_zero, List.set_cons_succ]
                refine wpAnyH_ready (rs := [1]) (by kernel_rfl) (by simp) ?_
                refine AllReadyH.cons rfl (fun K hK => ?_) AllReadyH.nil
                go_simp
                refine hK.out _ _ hHeld (fun hHeld => ?_)
                clear hK K
                try simp only [Act.put, List.setIfInBounds_toArray, List.set_cons_zero, List.set_cons_succ]
                refine wpAnyH_ready (rs := [13]) (by kernel_rfl) (by simp) ?_
                refine AllReadyH.cons rfl (fun K hK => ?_) AllReadyH.nil
                refine step_append_lies _ rfl (.tmp 78) (.tmp 89) 28 rfl w6.heap.size 51 iP _ 3 32 Tryz.underlying28 hiP hP0 hP1 hP2 rfl (by omega) (.slice S j cp) j vs (by simp [Act.eval]) HO9.out ⟨w9.heap.size, 0, none⟩ 1 1 [.int .u32 (lo : Int), .int .u32 (hi : Int), .slice Rc nl mc] (by simp [Act.eval]) rfl HNEWS.out (by intro u hu; simp at hu; rcases hu with rfl | rfl | rfl <;> rfl) (by omega) (by simp only [maxLen]; omega) (by omega) hbase9 _ rfl ?_
                intro g c10 w10 hO10 hg10 hat10 hlt10
                have hX10 := HX9.out.keep hg10.size (hg10.block _ HX9.out.lt HNE9.out)
                obtain ⟨x10, xf10⟩ := hX10.get (i := 1) rfl
                have hE10 := HE9b.out.keep hg10.size (hg10.block _ HE9b.out.lt (fun e => Nat.lt_irrefl _ (HOL7.out _ e.symm)))
                have hk10 := (World.cell?_of_block (a := ⟨br, or + vj, none⟩) (hg10.block br hbl9 HNE9b.out)).trans HK9b.out
                have hE11 := hE10.keep (w' := w10.setCell ⟨wq.heap.size, 1, none⟩ (.slice (some ⟨g, 0, none⟩) (j + 1) c10)) (by simp) (Below.heap_setCell w10 ⟨wq.heap.size, 1, none⟩ _ w7.heap.size (by show w7.heap.size ≠ wq.heap.size; omega))
                have hk11 := (World.cell?_of_block (w := w10) (w' := w10.setCell ⟨wq.heap.size, 1, none⟩ (.slice (some ⟨g, 0, none⟩) (j + 1) c10)) (a := ⟨br, or + vj, none⟩) (Below.heap_setCell w10 ⟨wq.heap.size, 1, none⟩ _ br (by show br ≠ wq.heap.size; omega))).trans hk10
                have HS11 := Lib.hid (And.intro (hE11.get (i := 0) rfl).1 (And.intro (hE11.get (i := 1) rfl).1 hk11))
                have HLAST := Lib.hid (HP8.out.step hxl6 HPT.out HRI.out HNL.out HNLE.out HBK.out.2.1 HBK.out.1 HBK.out.2.2.1 HBK.out.2.2.2.1 HBK.out.2.2.2.2 hO10 hg10 hat10)
                refine hK.out _ _ ⟨(hE10.get (i := 0) rfl).1, (hE10.get (i := 1) rfl).1, hk10⟩ (fun hHeld => ?_)
                clear hK K
                try simp only [Act.put, List.setIfInBounds_toArray, List.set_cons_zero, List.set_cons_succ]
                clear hX10 hE10 hk10 hE11 hk11 hO10 hg10 hat10 hlt10
                refine wpAnyH_take (i := 14) (v := (.pointer (some ⟨wq.heap.size, 1, none⟩))) rfl (by kernel_rfl) (by kernel_rfl) (by kernel_rfl) (fun _ _ _ h => h) (Or.inl ⟨by rfl, fun w hSw => by (try dsimp only at hSw); go_simp⟩) (by assumption) ?_
                try simp only [Act.put, List.setIfInBounds_toArray, List.set_cons_zero, List.set_cons_succ]
                refine wpAnyH_ready (rs := [15]) (by kernel_rfl) (by simp) ?_
                refine AllReadyH.cons rfl (fun K hK => ?_) AllReadyH.nil
                go_simp
                refine hK.out _ _ HS11.out (fun hHeld => ?_)
                clear hK K
                try simp only [Act.put, List.setIfInBounds_toArray, List.set_cons_zero, List.set_cons_succ]
                refine wpAnyH_done (by kernel_rfl) ?_ _
                go_wp2_with fail
                go_meet
                exact ⟨_, _, _, rfl, HLAST.out⟩
            -- REGION22 END
          case rest =>
            obtain ⟨S9, c9, vs9, -, hP9⟩ := hcut
            have HP9 := Lib.hid hP9
            clear hP9
            refine hKK _ _ ?_
            clear hKK e0 e1 x1 hk8
            go_wp2_with fail
            refine ⟨⟨j + 1, S9, c9, vs9, by omega, by go_num, HP9⟩, by simp [intOf]; omega⟩
        · obtain rfl : j = nF := by omega
          have hlp : (partsOf s).length = j := by simp [partsOf]; exact HNF.out.symm
          have hpt := HP.out.parts
          rw [List.take_of_length_le (by omega)] at hpt
          obtain ⟨x0, -⟩ := HP.out.row.get (i := 0) rfl
          obtain ⟨x1, -⟩ := HP.out.row.get (i := 1) rfl
          obtain ⟨x2, -⟩ := HP.out.row.get (i := 2) rfl
          obtain ⟨x3, -⟩ := HP.out.row.get (i := 3) rfl
          have hyx := HYQ.out.below HBQ.out HYQ.out.lt
          have hylq : w.heap.size + 1 < wq.heap.size := HYQ.out.lt
          have hy1 := hyx.set_ 0 (.int .i64 1)
          have hy2 := hy1.set_ 1 (.slice S j cp)
          have hy3 := hy2.set_ 2 (.int .u32 0)
          have hy4 := hy3.set_ 3 (.slice none 0 0)
          obtain ⟨p0, f0⟩ := hyx.get (i := 0) rfl
          obtain ⟨p1, f1⟩ := hy1.get (i := 1) rfl
          obtain ⟨p2, f2⟩ := hy2.get (i := 2) rfl
          obtain ⟨p3, f3⟩ := hy3.get (i := 3) rfl
          have hz := And.intro (hy4.get (i := 0) rfl).1 (And.intro (hy4.get (i := 1) rfl).1 (And.intro (hy4.get (i := 2) rfl).1 (hy4.get (i := 3) rfl).1))
          have hwB := HBWQ.out.trans (HBQ.out.mono HBWQ.out.size)
          have hbe1 := (((hwB.setCell (p := ⟨w.heap.size + 1, 0, none⟩) (Nat.le_succ _) (.int .i64 1)).setCell (p := ⟨w.heap.size + 1, 1, none⟩) (Nat.le_succ _) (.slice S j cp)).setCell (p := ⟨w.heap.size + 1, 2, none⟩) (Nat.le_succ _) (.int .u32 0)).setCell (p := ⟨w.heap.size + 1, 3, none⟩) (Nat.le_succ _) (.slice none 0 0)
          have hy6 : w.heap.size + 1 < w6.heap.size := by have := S6.out; omega
          have hown : (Value.slice S j cp).ownBlock ≠ some (w.heap.size + 1) := fun e => by have := (HP.out.own.lt _ e).1; omega
          have hn4 := (((Near.set_ none (w.heap.size + 1) 0 wr (.int .i64 1)).trans (Near.set_ none (w.heap.size + 1) 1 _ (.slice S j cp))).trans (Near.set_ none (w.heap.size + 1) 2 _ (.int .u32 0))).trans (Near.set_ none (w.heap.size + 1) 3 _ (.slice none 0 0))
          have hLz := lies_near (Lies.of_own HP.out.own) hn4 (fun a ha e => hown (by rw [ob_eq, ha]; show some a.block = _; rw [e]))
          have hPA := ((hpt.near hn4 hy6).none).parts hLz
          have HZ := Lib.hid hz
          have HBE1 := Lib.hid hbe1
          have HPA := Lib.hid hPA
          have HLP := Lib.hid hlp
          clear hlp hpt hyx hy1 hy2 hy3 hy4 hz hwB hbe1 hown hn4 hLz hPA HP HBQ HRQ HYQ HLR HVR HQB HBWQ B6 HR3 HA3 HY3 HBW3 HS HNV HLE HNF
          go_wp2_with fail
          obtain ⟨z0, z1, z2, z3⟩ := HZ.out
          refine bodyPost_ret (v := .tuple #[.agg #[(.int .i64 1), (.slice S j cp), (.int .u32 0), (.slice none 0 0)], .int .i64 0]) (by simp [results, Tryz.results8, go_sem, z0, z1, z2, z3]) rfl ⟨S, none, cp, 0, ?_, ?_, ?_, (fun a ha => by cases ha), HBE1.out⟩
          · rw [HCERT.out]
            show _ = Ending.returned (.tuple #[.agg #[.int .i64 1, .slice S (partsOf s).length cp, .int .u32 0, .slice none 0 0], .int .i64 0])
            rw [HLP.out]
          · rw [HCERT.out]; exact HPA.out
          · rw [HCERT.out]; exact Lies.nil _ _
end Go.Proofs.YtpjoefekhgmlhaaGreat.Tp
