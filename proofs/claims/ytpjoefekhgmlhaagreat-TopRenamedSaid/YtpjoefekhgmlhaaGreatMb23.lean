/- CONTRACT of Trie.put: one rule more. Conditions: a trie as put makes it; a prefix that is not there yet. · CONTRACT of trie.Build: the trie of a table's rules. Conditions: a table that may be, of 4096 rules at most. -/
import Derived.Test.YtpjoefekhgmlhaaGreatMb22
namespace Go.Proofs.YtpjoefekhgmlhaaGreat.Tp
open Go.RowKit Mem

theorem hang_any (base t g : Nat) (G : Nat → Nat) (F : List ForkT) (top : Option Nat) (sz : Nat) (rs : List RuleT) (r : RuleT) (p : Place) (w : World) (hT : TrieAt base w t G F top sz) (T : TrieOk F top rs) (hr : RulePre r) (hp : Path F top r p) (hg : VRow w g (fcells G (fork0 r))) (hgb : base ≤ g) (hgt : g ≠ t) (hgn : ∀ i, i < F.length → G i ≠ g) (hno : ∀ o fo, getP F top p = some o → F[o]? = some fo → ¬ (fo.n ≤ r.len ∧ agree fo.a r.a fo.n)) (hsz : sz ≤ 1000000) (hbw : base ≤ w.heap.size) :
    Calls Tryz.prog 136 #[.pointer (some ⟨t, 0, none⟩), .pointer (some (addrP t G p)), .pointer (some ⟨g, 0, none⟩)] w (Hung3 base w t (rs ++ [r]) sz) := by
  cases hn : getP F top p with
  | none => exact hang_none base t g G F top sz rs r p w hT T hr hp hg hgb hgt hgn hn hsz
  | some o =>
    have ho : o < F.length := by
      cases p with
      | top => exact hT.bound.2 o hn
      | kid i b =>
        obtain ⟨f0, hf⟩ : ∃ f0, F[i]? = some f0 := ⟨_, List.getElem?_eq_getElem hp.ok.1⟩
        rw [getP_kid hf] at hn
        exact hT.bound.1 i f0 b o hf hn
    obtain ⟨fo, hfo⟩ : ∃ fo, F[o]? = some fo := ⟨_, List.getElem?_eq_getElem ho⟩
    have h1 := hno o fo hn hfo
    by_cases h2 : r.len ≤ fo.n ∧ agree r.a fo.a r.len
    · have h3 : r.len < fo.n := by
        rcases Nat.lt_or_ge r.len fo.n with h | h
        · exact h
        · have e : fo.n = r.len := by omega
          exact absurd ⟨by omega, by rw [e]; exact h2.2.symm⟩ h1
      exact hang_above base t g G F top sz rs r p w o fo hT T hr hp hg hgb hgt hgn hn hfo h3 h2.2 hsz hbw
    · exact hang_join base t g G F top sz rs r p w o fo hT T hr hp hg hgb hgt hgn hn hfo h2 h1 hsz hbw
theorem TrieAt.setRule {base : Nat} {W : World} {t : Nat} {G : Nat → Nat} {F : List ForkT} {top : Option Nat} {sz : Nat} (h : TrieAt base W t G F top sz) {i : Nat} {f : ForkT} (hf : F[i]? = some f) (r : RuleT) :
    TrieAt base (((((W.setCell ⟨G i, 2, none⟩ (.int .u32 (r.a : Int))).setCell ⟨G i, 3, none⟩ (.int .i64 (r.len : Int))).setCell ⟨G i, 4, none⟩ (.int .i64 (r.act : Int))).setCell ⟨G i, 5, none⟩ (.int .i64 (r.next : Int))).setCell ⟨G i, 6, none⟩ (.bool true)) t G (F.set i { f with rule := some r }) top sz := by
  have hi : i < F.length := (List.getElem?_eq_some_iff.1 hf).1
  have hat := h.apart i hi
  refine ⟨?_, fun j g hg => ?_, ?_, ?_, ?_, fun j g c k' hg hk' => ?_, fun k' hk' => ?_⟩
  · exact ((((h.head.other (p := ⟨G i, 2, none⟩) hat _).other (p := ⟨G i, 3, none⟩) hat _).other (p := ⟨G i, 4, none⟩) hat _).other (p := ⟨G i, 5, none⟩) hat _).other (p := ⟨G i, 6, none⟩) hat _
  · by_cases e : i = j
    · subst e
      rw [List.getElem?_set_self hi] at hg
      injection hg with hg
      subst hg
      exact (((((h.fork i f hf).set_ 2 (.int .u32 (r.a : Int))).set_ 3 (.int .i64 (r.len : Int))).set_ 4 (.int .i64 (r.act : Int))).set_ 5 (.int .i64 (r.next : Int))).set_ 6 (.bool true)
    · rw [List.getElem?_set_ne e] at hg
      have hne : G i ≠ G j := fun e' => e (h.inj i j hi (List.getElem?_eq_some_iff.1 hg).1 e')
      exact (((((h.fork j g hg).other (p := ⟨G i, 2, none⟩) hne _).other (p := ⟨G i, 3, none⟩) hne _).other (p := ⟨G i, 4, none⟩) hne _).other (p := ⟨G i, 5, none⟩) hne _).other (p := ⟨G i, 6, none⟩) hne _
  · rw [List.length_set]; exact h.inj
  · rw [List.length_set]; exact h.apart
  · rw [List.length_set]; exact h.low
  · rw [List.length_set]
    by_cases e : i = j
    · subst e
      rw [List.getElem?_set_self hi] at hg
      injection hg with hg
      subst hg
      exact h.bound.1 i f c k' hf hk'
    · rw [List.getElem?_set_ne e] at hg
      exact h.bound.1 j g c k' hg hk'
  · rw [List.length_set]; exact h.bound.2 k' hk'
/-- How many forks may still come on the way. -/
def leftP (w : World) (v : Value) : Nat := match v with
  | .pointer (some p) => if p.off = 0 then 40 else match w.cell? ⟨p.block, 1, none⟩ with
    | some (.int _ n) => 33 - n.toNat
    | _ => 40
  | _ => 0
theorem leftP_top (w : World) (t : Nat) (G : Nat → Nat) : leftP w (.pointer (some (addrP t G .top))) = 40 := rfl
theorem leftP_kid {w : World} {t : Nat} {G : Nat → Nat} {i b : Nat} {f : ForkT} (h : VRow w (G i) (fcells G f)) : leftP w (.pointer (some (addrP t G (.kid i b)))) = 33 - f.n := by
  have hc := (h.get (i := 1) rfl).1
  unfold leftP addrP
  simp only
  rw [if_neg (by omega), hc]
  rfl
def PutPost (base : Nat) (w : World) (t : Nat) (rs : List RuleT) (sz : Nat) (e : Ending) (w' : World) : Prop := Hung3 base w t rs sz e w'

set_option maxRecDepth 100000 in
set_option maxHeartbeats 4000000 in
theorem tput_any (base t : Nat) (G : Nat → Nat) (F : List ForkT) (top : Option Nat) (sz : Nat) (rs : List RuleT) (r : RuleT) (w : World) (hT : TrieAt base w t G F top sz) (T : TrieOk F top rs) (hr : RulePre r) (hnew : ∀ s ∈ rs, s.a = r.a → s.len ≠ r.len) (hsz : sz ≤ 1000000) (hbw : base ≤ w.heap.size) :
    Calls Tryz.prog 113 #[.pointer (some ⟨t, 0, none⟩), rv r] w (PutPost base w t (rs ++ [r]) sz) := by
  obtain ⟨wa, hwa⟩ : ∃ wa, wa = w.alloc (.cells #[.int .u32 (r.a : Int), .int .i64 (r.len : Int), .int .i64 (r.act : Int), .int .i64 (r.next : Int)] 43) := ⟨_, rfl⟩
  obtain ⟨w2, hw2⟩ : ∃ w2, w2 = wa.alloc (.cells #[.int .u32 (r.a : Int), .int .i64 (r.len : Int)] 199) := ⟨_, rfl⟩
  have sa : wa.heap.size = w.heap.size + 1 := by rw [hwa]; simp
  have s2 : w2.heap.size = w.heap.size + 1 + 1 := by rw [hw2]; simp [sa]
  have ba : Below w.heap.size w wa := by rw [hwa]; exact (Below.refl _ _).alloc (Nat.le_refl _) _
  have bb : Below wa.heap.size wa w2 := by rw [hw2]; exact (Below.refl _ _).alloc (Nat.le_refl _) _
  have b2 : Below w.heap.size w w2 := ba.trans (bb.mono (by omega))
  have hX : VRow w2 w.heap.size (rc r) := (show VRow wa w.heap.size (rc r) by rw [hwa]; exact VRow.new w #[.int .u32 (r.a : Int), .int .i64 (r.len : Int), .int .i64 (r.act : Int), .int .i64 (r.next : Int)] _).below bb (by omega)
  have hY : VRow w2 (w.heap.size + 1) [.int .u32 (r.a : Int), .int .i64 (r.len : Int)] := by rw [hw2, ← sa]; exact VRow.new wa #[.int .u32 (r.a : Int), .int .i64 (r.len : Int)] _
  have hg0 : w.heap.size < w2.heap.size := by omega
  have hg1 : w.heap.size + 1 < w2.heap.size := by omega
  rw [hwa] at hw2
  have HW := Lib.hid hw2
  have HX := Lib.hid hX
  have HY := Lib.hid hY
  have HB := Lib.hid b2
  have HT := Lib.hid hT
  have HOK := Lib.hid T
  have HNEW := Lib.hid hnew
  have HR := Lib.hid hr
  clear hwa hw2 hX hY b2 bb ba sa s2 hT T hnew hr
  go_enter Tryz.func113, Tryz.ntmps113
  go_wp2_with fail
  rw [← HW.out]
  go_loopw [5] (fun s5 wr => ∃ p : Place, s5 = .pointer (some (addrP t G p)) ∧ Hid (Path F top r p) ∧ Hid (Below w2.heap.size w2 wr)) (fun s5 wr => leftP wr s5)
  case atStart => exact ⟨.top, rfl, Lib.hid .top, Lib.hid (Below.refl _ _)⟩
  case round =>
    clear HW
    obtain ⟨p, rfl, HP, HBR⟩ := hrel
    have hTr := HT.out.below (HB.out.trans (HBR.out.mono HB.out.size))
    have hX := HX.out.below HBR.out hg0
    have hY := HY.out.below HBR.out hg1
    have hhang : ∀ W, Below w2.heap.size w2 W → (∀ o fo, getP F top p = some o → F[o]? = some fo → ¬ (fo.n ≤ r.len ∧ agree fo.a r.a fo.n)) →
        Calls Tryz.prog 136 #[.pointer (some ⟨t, 0, none⟩), .pointer (some (addrP t G p)), .pointer (some ⟨W.heap.size, 0, none⟩)] (W.alloc (.cells #[.int .u32 (r.a : Int), .int .i64 (r.len : Int), .int .u32 (r.a : Int), .int .i64 (r.len : Int), .int .i64 (r.act : Int), .int .i64 (r.next : Int), .bool true, .pointer none, .pointer none] 202)) (PutPost base w t (rs ++ [r]) sz) := fun W hW hno => by
      have hbW := HB.out.trans (hW.mono HB.out.size)
      have hal : Below W.heap.size W (W.alloc (.cells #[.int .u32 (r.a : Int), .int .i64 (r.len : Int), .int .u32 (r.a : Int), .int .i64 (r.len : Int), .int .i64 (r.act : Int), .int .i64 (r.next : Int), .bool true, .pointer none, .pointer none] 202)) := (Below.refl _ _).alloc (Nat.le_refl _) _
      have hTW := (HT.out.below hbW)
      have hT2 := hTW.below hal
      have hbs := hbW.size
      have htl := hTW.head.lt
      refine (hang_any base t W.heap.size G F top sz rs r p _ hT2 HOK.out HR.out HP.out (VRow.new W #[.int .u32 (r.a : Int), .int .i64 (r.len : Int), .int .u32 (r.a : Int), .int .i64 (r.len : Int), .int .i64 (r.act : Int), .int .i64 (r.next : Int), .bool true, .pointer none, .pointer none] _) (by omega) (by omega) (fun i hi => ?_) hno hsz (by simp; omega)).mono ?_
      · have := (hTW.fork i _ (List.getElem?_eq_getElem hi)).lt
        omega
      · rintro e w' ⟨rfl, G', F', top', sz', h1, h2, h3, h4⟩
        exact ⟨rfl, G', F', top', sz', h1, h2, ((hbW.mono hbw).trans (hal.mono (by omega))).trans h3, h4⟩
    have HHANG := Lib.hid hhang
    have hc := (hTr.place HP.out.ok).1
    clear hhang
    cases hgp : getP F top p with
    | none =>
      rw [hgp] at hc
      have hc' : wr.cell? (addrP t G p) = some (.pointer none) := hc
      have hx0 := (hX.get (i := 0) rfl).1
      have hx1 := (hX.get (i := 1) rfl).1
      have hx2 := (hX.get (i := 2) rfl).1
      have hx3 := (hX.get (i := 3) rfl).1
      have hy0 := (hY.get (i := 0) rfl).1
      have hy1 := (hY.get (i := 1) rfl).1
      have HH := Lib.hid (HHANG.out wr HBR.out (fun o fo e => by rw [hgp] at e; cases e))
      obtain ⟨pa, hpa⟩ : ∃ pa, pa = addrP t G p := ⟨_, rfl⟩
      rw [← hpa] at hc' HH ⊢
      clear hc hX hY hTr HHANG hgp hpa HP HBR HX HY HB HT HOK HNEW HR
      go_wp2_with fail
      refine (HH.out).mono ?_
      rintro e w' ⟨rfl, h⟩
      have HE := Lib.hid h
      clear h HH hx0 hx1 hx2 hx3 hy0 hy1 hc'
      go_wp2_with fail
      exact bodyPost_end (v := .tuple #[]) (by simp [results, Tryz.results113, go_sem]) rfl ⟨rfl, HE.out⟩
    | some i =>
      rw [hgp] at hc
      have hi : i < F.length := by
        cases p with
        | top => exact HT.out.bound.2 i hgp
        | kid j b =>
          obtain ⟨f0, hf⟩ : ∃ f0, F[j]? = some f0 := ⟨_, List.getElem?_eq_getElem HP.out.ok.1⟩
          rw [getP_kid hf] at hgp
          exact HT.out.bound.1 j f0 b i hf hgp
      obtain ⟨f, hf⟩ : ∃ f, F[i]? = some f := ⟨_, List.getElem?_eq_getElem hi⟩
      have hsp := HOK.out.span i f hf
      have hmt := fun w => meet3_any f.a f.n r.a r.len hsp.1 HR.out.a w
      have hkk : ((f.n ≤ r.len ∧ agree f.a r.a f.n) ∧ lowN f.a (meetN f.a f.n r.a r.len) = f.a ∧ meetN f.a f.n r.a r.len = f.n) ∨ (¬ (f.n ≤ r.len ∧ agree f.a r.a f.n) ∧ meetN f.a f.n r.a r.len ≠ f.n) := by
        by_cases hct : f.n ≤ r.len ∧ agree f.a r.a f.n
        · have e := meet_above hsp.1 HR.out.a hsp.2.1 hct.2 hct.1
          exact .inl ⟨hct, by rw [e]; exact low_self hsp.2.2, e⟩
        · refine .inr ⟨hct, fun e => hct ?_⟩
          have hk : meetN f.a f.n r.a r.len ≤ common f.a r.a := by unfold meetN; omega
          have hk2 : meetN f.a f.n r.a r.len ≤ r.len := by unfold meetN; omega
          rw [e] at hk hk2
          exact ⟨hk2, (le_common hsp.1 HR.out.a hsp.2.1).1 hk⟩
      generalize lowN f.a (meetN f.a f.n r.a r.len) = lo at *
      generalize meetN f.a f.n r.a r.len = k at *
      have hrow := hTr.fork i f hf
      have hpe : ptrV G (some i) = .pointer (some ⟨G i, 0, none⟩) := rfl
      rw [hpe] at hc
      obtain ⟨gi, hgi⟩ : ∃ gi, gi = G i := ⟨_, rfl⟩
      rw [← hgi] at hc hrow
      have hgil : gi < wr.heap.size := hrow.lt
      obtain ⟨pa, hpa⟩ : ∃ pa, pa = addrP t G p := ⟨_, rfl⟩
      rw [← hpa] at hc ⊢
      have HK := Lib.hid hkk
      have HMT := Lib.hid hmt
      have HGI := Lib.hid hgi
      have HPA := Lib.hid hpa
      have HF := Lib.hid hf
      have HSP := Lib.hid hsp
      have HGP := Lib.hid hgp
      have HROW := Lib.hid hrow
      have HXR := Lib.hid hX
      have HYR := Lib.hid hY
      have hg0r : w.heap.size < wr.heap.size := Nat.lt_of_lt_of_le hg0 HBR.out.size
      have hg1r : w.heap.size + 1 < wr.heap.size := Nat.lt_of_lt_of_le hg1 HBR.out.size
      clear hkk hmt hgi hpa hf hsp hgp hpe hrow hX hY hTr
      have hK1 : ∀ W, Below wr.heap.size wr W → (W.cell? ⟨gi, 0, none⟩ = some (.int .u32 (f.a : Int)) ∧ W.cell? ⟨gi, 1, none⟩ = some (.int .i64 (f.n : Int)) ∧ W.cell? ⟨w.heap.size + 1, 0, none⟩ = some (.int .u32 (r.a : Int)) ∧ W.cell? ⟨w.heap.size + 1, 1, none⟩ = some (.int .i64 (r.len : Int))) ∧ Below wr.heap.size wr W := fun W hW => by
        have h1 := HROW.out.below hW hgil
        have h2 := HYR.out.below hW hg1r
        exact ⟨⟨(h1.get (i := 0) rfl).1, (h1.get (i := 1) rfl).1, (h2.get (i := 0) rfl).1, (h2.get (i := 1) rfl).1⟩, hW⟩
      have KS := Lib.hid hK1
      clear hK1
      go_upto_region 5 with fail
      go_cut [7] (fun s7 wx => ∃ q : Nat, s7 = .pointer (some ⟨q, 0, none⟩) ∧ q < wx.heap.size ∧ wx.cell? ⟨q, 0, none⟩ = some (.int .u32 (lo : Int)) ∧ wx.cell? ⟨q, 1, none⟩ = some (.int .i64 (k : Int)) ∧ Below wr.heap.size wr wx)
      case first =>
        go_region_held3 (fun W => (W.cell? ⟨gi, 0, none⟩ = some (.int .u32 (f.a : Int)) ∧ W.cell? ⟨gi, 1, none⟩ = some (.int .i64 (f.n : Int)) ∧ W.cell? ⟨w.heap.size + 1, 0, none⟩ = some (.int .u32 (r.a : Int)) ∧ W.cell? ⟨w.heap.size + 1, 1, none⟩ = some (.int .i64 (r.len : Int))) ∧ Below wr.heap.size wr W)
          ((refine KS.out _ ?_; first
            | exact below_drew (Below.refl _ _)
            | exact (below_drew (Below.refl wr.heap.size wr)).trans hb5
            | exact ((below_drew (Below.refl wr.heap.size wr)).trans hb5).alloc hb5.size _
            | exact (below_drew (Below.refl wr.heap.size wr)).alloc (Nat.le_refl _) _
            | exact ((below_drew (Below.refl wr.heap.size wr)).alloc (Nat.le_refl _) _).trans (hb5.mono (by simp))
            | exact ((((below_drew (Below.refl wr.heap.size wr)).alloc (Nat.le_refl _) _).trans (hb5.mono (by simp))).setCell (p := ⟨wr.heap.size, 0, none⟩) (Nat.le_refl _) _).setCell (p := ⟨wr.heap.size, 1, none⟩) (Nat.le_refl _) _))
          (first | (go_at_call 134; refine (HMT.out _).mono ?_; rintro e w5 ⟨rfl, hb5⟩; (try (have hv5 : VRow w5 wr.heap.size [.int .u32 0, .int .i64 0] := VRow.below (w := (wr.alloc (.cells #[.int .u32 0, .int .i64 0] 199)).drew) (VRow.new wr #[.int .u32 0, .int .i64 0] 199).drew hb5 (by simp); have hq0 := (hv5.get (i := 0) rfl).1; have hq1 := (hv5.get (i := 1) rfl).1; have hq2 := (hv5.get (i := 0) rfl).2; have hq3 := (hv5.get (i := 1) rfl).2))))
        · have hv := VRow.new w5 #[.int .u32 (lo : Int), .int .i64 (k : Int)] 199
          go_wp2_with fail
          go_meet
          exact ⟨w5.heap.size, rfl, hv.lt, (hv.get (i := 0) rfl).1, (hv.get (i := 1) rfl).1, ((below_drew (Below.refl wr.heap.size wr)).trans hb5).alloc hb5.size _⟩
        · have hv := (hv5.set_ 0 (.int .u32 (lo : Int))).set_ 1 (.int .i64 (k : Int))
          have hbe := ((((below_drew (Below.refl wr.heap.size wr)).alloc (Nat.le_refl _) _).trans (hb5.mono (by simp))).setCell (p := ⟨wr.heap.size, 0, none⟩) (Nat.le_refl _) (.int .u32 (lo : Int))).setCell (p := ⟨wr.heap.size, 1, none⟩) (Nat.le_refl _) (.int .i64 (k : Int))
          go_wp2_with fail
          go_meet
          exact ⟨wr.heap.size, rfl, hv.lt, (hv.get (i := 0) rfl).1, (hv.get (i := 1) rfl).1, hbe⟩
      case rest =>
        obtain ⟨q, rfl, hql, hq0, hq1, hbx⟩ := hcut
        have hRW := HROW.out.below hbx hgil
        have hga := (hRW.get (i := 0) rfl).1
        have hgn := (hRW.get (i := 1) rfl).1
        rcases HK.out with ⟨hct, e1, e2⟩ | ⟨hct, e2⟩
        · subst e1 e2
          have hb2 := HBR.out.trans (hbx.mono HBR.out.size)
          have hXW := HXR.out.below hbx hg0r
          have hYW := HYR.out.below hbx hg1r
          have hy0 := (hYW.get (i := 0) rfl).1
          have hy1 := (hYW.get (i := 1) rfl).1
          have HRW := Lib.hid hRW
          have HXW := Lib.hid hXW
          have HYW := Lib.hid hYW
          have HCT := Lib.hid hct
          have HB2 := Lib.hid hb2
          clear hc hct hb2 hXW hYW hbx hRW KS hy0 hy1
          have hsp := HSP.out
          by_cases heq : f.n = r.len
          · have ea : f.a = r.a := agree_one HCT.out.2 hsp.2.2 (by rw [heq]; exact HR.out.host)
            have hru : f.rule = none := by
              cases hfr : f.rule with
              | none => rfl
              | some s =>
                obtain ⟨h1, h2, h3⟩ := HOK.out.rule i f HF.out s hfr
                exact absurd (h3.trans heq) (HNEW.out s h1 (h2.trans ea))
            have HEA := Lib.hid ea
            have HEQ := Lib.hid heq
            have HRU := Lib.hid hru
            rw [ea] at hga hq0
            rw [heq] at hgn hq1
            clear ea heq hru hsp
            go_wp2_with fail
            go_big_quiet (fail)
            obtain ⟨w6, hw6⟩ : ∃ w6, w6 = wc.drewN nq := ⟨_, rfl⟩
            rw [← hw6]
            have hb6 : Below wc.heap.size wc w6 := by rw [hw6]; exact below_drawn (Below.refl _ _) nq
            have hR6 := HRW.out.below hb6 HRW.out.lt
            have hX6 := HXW.out.below hb6 HXW.out.lt
            have hY6 := HYW.out.below hb6 HYW.out.lt
            have hB6 := HB2.out.trans (hb6.mono HB2.out.size)
            have ha0 := (hR6.get (i := 0) rfl).1
            have ha1 := (hR6.get (i := 1) rfl).1
            have hy0 := (hY6.get (i := 0) rfl).1
            have hy1 := (hY6.get (i := 1) rfl).1
            rw [HEA.out] at ha0
            rw [HEQ.out] at ha1
            have HR6 := Lib.hid hR6
            have HX6 := Lib.hid hX6
            have HB6 := Lib.hid hB6
            clear hw6 hb6 hR6 hX6 hY6 hB6 hq0 hq1 hga hgn HXW HYW HB2 HRW
            go_wp2_with fail
            go_big_quiet (fail)
            obtain ⟨w7, hw7⟩ : ∃ w7, w7 = w6.drewN nq := ⟨_, rfl⟩
            rw [← hw7]
            have hb7 : Below w6.heap.size w6 w7 := by rw [hw7]; exact below_drawn (Below.refl _ _) nq
            have hR7 := HR6.out.below hb7 HR6.out.lt
            have hX7 := HX6.out.below hb7 HX6.out.lt
            have hB7 := HB6.out.trans (hb7.mono HB6.out.size)
            have hBw := HB.out.trans (hB7.mono HB.out.size)
            have hT7 := (HT.out.below hBw).setRule HF.out r
            have hput := put_here HOK.out HP.out HGP.out HF.out HEA.out HEQ.out HRU.out
            have hd6 := (hR7.get (i := 6) rfl).1
            rw [HRU.out] at hd6
            have hd2 := (hR7.get (i := 2) rfl).1
            have hd3 := (hR7.get (i := 3) rfl).1
            have hd4 := (hR7.get (i := 4) rfl).1
            have hd5 := (hR7.get (i := 5) rfl).1
            have hf2 := (hR7.get (i := 2) rfl).2
            have hf3 := (hR7.get (i := 3) rfl).2
            have hf4 := (hR7.get (i := 4) rfl).2
            have hf5 := (hR7.get (i := 5) rfl).2
            have hf6 := (hR7.get (i := 6) rfl).2
            have hx0 := (hX7.get (i := 0) rfl).1
            have hx1 := (hX7.get (i := 1) rfl).1
            have hx2 := (hX7.get (i := 2) rfl).1
            have hx3 := (hX7.get (i := 3) rfl).1
            have hR8 := (((hR7.set_ 2 (.int .u32 (r.a : Int))).set_ 3 (.int .i64 (r.len : Int))).set_ 4 (.int .i64 (r.act : Int))).set_ 5 (.int .i64 (r.next : Int))
            have he6 := (hR8.get (i := 6) rfl)
            obtain ⟨he6, hef6⟩ := he6
            rw [← HGI.out] at hT7
            have hlow := HT.out.low.2 i (List.getElem?_eq_some_iff.1 HF.out).1
            rw [← HGI.out] at hlow
            have hBs := (((((hBw.mono hbw).setCell (p := ⟨gi, 2, none⟩) hlow (.int .u32 (r.a : Int))).setCell (p := ⟨gi, 3, none⟩) hlow (.int .i64 (r.len : Int))).setCell (p := ⟨gi, 4, none⟩) hlow (.int .i64 (r.act : Int))).setCell (p := ⟨gi, 5, none⟩) hlow (.int .i64 (r.next : Int))).setCell (p := ⟨gi, 6, none⟩) hlow (.bool true)
            have HFIN : Hid (PutPost base w t (rs ++ [r]) sz (.returned (.tuple #[])) _) := Lib.hid ⟨rfl, G, _, top, sz, hT7, hput, hBs, by omega⟩
            clear hw7 hb7 hR7 hX7 hB7 hBw hT7 hput hR8 hlow hBs ha0 ha1 hy0 hy1 HR6 HX6 HB6 HHANG HK HMT HGI HPA HF HSP HGP HROW HXR HYR HP HBR HX HY HB HT HOK HNEW HR HEA HEQ HRU HCT
            go_wp2_with fail
            exact bodyPost_end (v := .tuple #[]) (by simp [results, Tryz.results113, go_sem]) rfl HFIN.out
          · have hlt : f.n < r.len := by have := HCT.out.1; omega
            have hne1 : ((r.len : Int) == (f.n : Int)) = false := by rw [beq_eq_false_iff_ne]; omega
            have hne2 : (r.len == f.n) = false := by rw [beq_eq_false_iff_ne]; omega
            have hrl := HR.out.len
            have hbit := fun w => bit_any r.a f.n HR.out.a (by omega) w
            have hb2 := bitN_two r.a f.n
            have hpth : Path F top r (.kid i (bitN r.a f.n)) := .kid HP.out HGP.out HF.out HCT.out.2 hlt
            have hadr : (⟨gi, 7 + bitN r.a f.n, none⟩ : Addr) = addrP t G (.kid i (bitN r.a f.n)) := by rw [HGI.out]; rfl
            have hms : ∀ W, Below w2.heap.size w2 W → leftP W (.pointer (some (addrP t G (.kid i (bitN r.a f.n))))) < leftP wr (.pointer (some pa)) := fun W hW => by
              rw [leftP_kid ((HT.out.below (HB.out.trans (hW.mono HB.out.size))).fork i f HF.out), HPA.out]
              rcases HP.out.ahead with e | ⟨i2, f2, e, hf2, ha2, hl2⟩
              · rw [e, leftP_top]; omega
              · have hgp := HGP.out
                rw [e, getP_kid hf2] at hgp
                obtain ⟨g3, hg3, h31, _⟩ := HOK.out.kid i2 f2 _ i hf2 (bitN_two _ _) hgp
                rw [HF.out] at hg3
                injection hg3 with hg3
                subst hg3
                rw [e, leftP_kid ((HT.out.below (HB.out.trans (HBR.out.mono HB.out.size))).fork i2 f2 hf2)]
                omega
            generalize bitN r.a f.n = b at *
            have i0 : (0 : Int) ≤ (b : Int) := by omega
            have i1 : (b : Int) < 2 := by omega
            have HBIT := Lib.hid hbit
            have HPTH := Lib.hid hpth
            have HADR := Lib.hid hadr
            have HMS := Lib.hid hms
            have HNE := Lib.hid (And.intro hne1 hne2)
            clear hbit hb2 hpth hadr hms heq hlt hrl hsp hne1 hne2
            go_wp2_with fail
            go_big_quiet (fail)
            obtain ⟨w6, hw6⟩ : ∃ w6, w6 = wc.drewN nq := ⟨_, rfl⟩
            rw [← hw6]
            have hb6 : Below wc.heap.size wc w6 := by rw [hw6]; exact below_drawn (Below.refl _ _) nq
            have hR6 := HRW.out.below hb6 HRW.out.lt
            have hY6 := HYW.out.below hb6 HYW.out.lt
            have hB6 := HB2.out.trans (hb6.mono HB2.out.size)
            have ha0 := (hR6.get (i := 0) rfl).1
            have ha1 := (hR6.get (i := 1) rfl).1
            have hy0 := (hY6.get (i := 0) rfl).1
            have hy1 := (hY6.get (i := 1) rfl).1
            have HR6 := Lib.hid hR6
            have HY6 := Lib.hid hY6
            have HB6 := Lib.hid hB6
            obtain ⟨hne1, hne2⟩ := HNE.out
            clear hw6 hb6 hR6 hY6 hB6 hq0 hq1 hga hgn HXW HYW HB2 HRW
            go_wp2_with fail
            go_big_quiet (fail)
            obtain ⟨w7, hw7⟩ : ∃ w7, w7 = w6.drewN nq := ⟨_, rfl⟩
            rw [← hw7]
            have hb7 : Below w6.heap.size w6 w7 := by rw [hw7]; exact below_drawn (Below.refl _ _) nq
            have hR7 := HR6.out.below hb7 HR6.out.lt
            have hY7 := HY6.out.below hb7 HY6.out.lt
            have hB7 := HB6.out.trans (hb7.mono HB6.out.size)
            have hd1 := (hR7.get (i := 1) rfl).1
            have hx0 := (hY7.get (i := 0) rfl).1
            have HB7 := Lib.hid hB7
            clear hw7 hb7 hR7 hY7 hB7 ha0 ha1 hy0 hy1 HR6 HY6 HB6 hne1 hne2
            go_wp2_with fail
            go_quiet ((go_at_call 135; exact Calls.quiet_of_same ((HBIT.out _).mono fun e w' h => ⟨h.1, h.2.symm⟩)))
            have hb8 : Below w7.heap.size w7 (w7.drewN nq) := below_drawn (Below.refl _ _) nq
            have hB8 := HB7.out.trans (hb8.mono HB7.out.size)
            go_wp2_with fail
            go_roundw
            case rel => exact ⟨.kid i b, by rw [HADR.out], HPTH, Lib.hid hB8⟩
            case measure => rw [HADR.out]; exact HMS.out _ hB8
        · have hne1 : ((k : Int) == (f.n : Int)) = false := by rw [beq_eq_false_iff_ne]; omega
          have hne2 : (k == f.n) = false := by rw [beq_eq_false_iff_ne]; omega
          have hb2 := HBR.out.trans (hbx.mono HBR.out.size)
          have hXW := HXR.out.below hbx hg0r
          have hYW := HYR.out.below hbx hg1r
          have HXW := Lib.hid hXW
          have HYW := Lib.hid hYW
          have HCT := Lib.hid hct
          have HB2 := Lib.hid hb2
          clear hc hct e2 hb2 hXW hYW hbx hRW KS
          go_wp2_with fail
          go_big_quiet (fail)
          obtain ⟨w6, hw6⟩ : ∃ w6, w6 = wc.drewN nq := ⟨_, rfl⟩
          rw [← hw6]
          have hb6 : Below wc.heap.size wc w6 := by rw [hw6]; exact below_drawn (Below.refl _ _) nq
          have HH := Lib.hid (HHANG.out w6 (HB2.out.trans (hb6.mono HB2.out.size)) (fun o fo e hfo => by
            rw [HGP.out] at e
            injection e with e
            rw [← e, HF.out] at hfo
            injection hfo with hfo
            rw [← hfo]
            exact HCT.out))
          rw [← HPA.out] at HH
          have hX6 := HXW.out.below hb6 HXW.out.lt
          have hY6 := HYW.out.below hb6 HYW.out.lt
          have hx0 := (hX6.get (i := 0) rfl).1
          have hx1 := (hX6.get (i := 1) rfl).1
          have hx2 := (hX6.get (i := 2) rfl).1
          have hx3 := (hX6.get (i := 3) rfl).1
          have hy0 := (hY6.get (i := 0) rfl).1
          have hy1 := (hY6.get (i := 1) rfl).1
          clear hw6 hb6 hX6 hY6 hq0 hq1 hga hgn HXW HYW HCT HB2 HHANG HK HMT HGI HPA HF HSP HGP HROW HXR HYR HP HBR HX HY HB HT HOK HNEW HR
          go_wp2_with fail
          refine (HH.out).mono ?_
          rintro e w' ⟨rfl, h⟩
          have HE := Lib.hid h
          clear h HH hx0 hx1 hx2 hx3 hy0 hy1
          go_wp2_with fail
          exact bodyPost_end (v := .tuple #[]) (by simp [results, Tryz.results113, go_sem]) rfl ⟨rfl, HE.out⟩
end Go.Proofs.YtpjoefekhgmlhaaGreat.Tp

namespace Go.Proofs.YtpjoefekhgmlhaaGreat.Tp
open Go.RowKit Mem

/-- Where a rule stands among others. -/
def keyR (r : RuleT) : Nat := r.a * 33 + r.len
theorem pcmp_key {r s : RuleT} (hr : r.len ≤ 32) (hs : s.len ≤ 32) (h : pcmp r.a r.len s.a s.len = 1) : keyR s < keyR r := by
  unfold pcmp cmpI at h
  unfold keyR
  split at h
  · rename_i e
    rw [e]
    split at h
    · cases h
    · split at h
      · omega
      · cases h
  · split at h
    · cases h
    · split at h
      · omega
      · cases h
theorem table_keys {nodes : Nat} {l : List RuleT} (h : TableOk nodes l) : ∀ d i (hi : i + d + 1 < l.length), keyR l[i] < keyR l[i + d + 1] := by
  intro d
  induction d with
  | zero =>
    intro i hi
    exact pcmp_key (h.rule _ (List.getElem_mem _)).len (h.rule _ (List.getElem_mem _)).len (h.asc i hi)
  | succ d ih =>
    intro i hi
    have h1 := ih i (by omega)
    have h2 := pcmp_key (h.rule _ (List.getElem_mem _)).len (h.rule _ (List.getElem_mem _)).len (h.asc (i + d + 1) (by omega))
    have e : i + (d + 1) + 1 = i + d + 1 + 1 := by omega
    simp only [e]
    omega
theorem table_lt {nodes : Nat} {l : List RuleT} (h : TableOk nodes l) {i j : Nat} (hij : i < j) (hj : j < l.length) : keyR (l[i]'(by omega)) < keyR l[j] := by
  have := table_keys h (j - i - 1) i (by omega)
  have e : i + (j - i - 1) + 1 = j := by omega
  simp only [e] at this
  exact this
theorem table_once {nodes : Nat} {l : List RuleT} (h : TableOk nodes l) : Once l := by
  intro r hr s hs ha hl
  obtain ⟨i, hi, rfl⟩ := List.mem_iff_getElem.1 hr
  obtain ⟨j, hj, rfl⟩ := List.mem_iff_getElem.1 hs
  have hk : keyR l[i] = keyR l[j] := by unfold keyR; rw [ha, hl]
  rcases Nat.lt_trichotomy i j with h1 | h1 | h1
  · have := table_lt h h1 hj; omega
  · subst h1; rfl
  · have := table_lt h h1 hi; omega
theorem table_new {nodes : Nat} {l : List RuleT} (h : TableOk nodes l) {k : Nat} (hk : k < l.length) : ∀ s ∈ l.take k, s.a = l[k].a → s.len ≠ l[k].len := by
  intro s hs ha hl
  obtain ⟨i, hi, rfl⟩ := List.mem_iff_getElem.1 hs
  rw [List.length_take] at hi
  rw [List.getElem_take] at ha hl
  have := table_lt h (show i < k by omega) hk
  unfold keyR at this
  rw [ha, hl] at this
  omega
theorem table_pre {nodes : Nat} {l : List RuleT} (h : TableOk nodes l) : ∀ r ∈ l, RulePre r := fun r hr => ⟨(h.rule r hr).a, (h.rule r hr).len, (h.rule r hr).host⟩
/-- A trie is told: the call's own. -/
def BuildPost (w : World) (l : List RuleT) (e : Ending) (w' : World) : Prop := ∃ t G F top sz, e = .returned (.pointer (some ⟨t, 0, none⟩)) ∧ TrieAt w.heap.size w' t G F top sz ∧ TrieOk F top l ∧ Below w.heap.size w w'
set_option maxRecDepth 100000 in
set_option maxHeartbeats 2000000 in
theorem tbuild_any (A : Option Addr) (c nodes : Nat) (l : List RuleT) (w : World) (hA : RulesAt w A l) (h : TableOk nodes l) (hl : l.length ≤ 4096) :
    Calls Tryz.prog 83 #[.slice A l.length c] w (BuildPost w l) := by
  obtain ⟨w1, hw1⟩ : ∃ w1, w1 = w.alloc (.cells #[.pointer none, .int .i64 0] 194) := ⟨_, rfl⟩
  have hb1 : Below w.heap.size w w1 := by rw [hw1]; exact (Below.refl _ _).alloc (Nat.le_refl _) _
  have hT1 : TrieAt w.heap.size w1 w.heap.size (fun _ => 0) [] none 0 := ⟨by rw [hw1]; exact VRow.new w #[.pointer none, .int .i64 0] _, fun i f hf => by simp at hf, fun i j hi => by simp at hi, fun i hi => by simp at hi, ⟨Nat.le_refl _, fun i hi => by simp at hi⟩, fun i f b k hf => by simp at hf, fun k e => by cases e⟩
  have HW := Lib.hid hw1
  have HB1 := Lib.hid hb1
  have HT1 := Lib.hid hT1
  have HA := Lib.hid hA
  have H := Lib.hid h
  clear hw1 hb1 hT1 hA h
  go_enter Tryz.func83, Tryz.ntmps83
  go_wp2_with fail
  rw [← HW.out]
  go_loopw [10] (fun i wr => ∃ (k : Nat) (G : Nat → Nat) (F : List ForkT) (top : Option Nat) (sz : Nat), k ≤ l.length ∧ i = .int .i64 k ∧ Hid (TrieAt w.heap.size wr w.heap.size G F top sz) ∧ Hid (TrieOk F top (l.take k)) ∧ Hid (Below w.heap.size w wr) ∧ sz ≤ 2 * k) (fun i _ => l.length - (intOf i).toNat)
  case atStart => exact ⟨0, _, _, _, _, by omega, rfl, HT1, Lib.hid .nil, HB1, by omega⟩
  case round =>
    clear HT1 HB1 HW
    obtain ⟨k, G, F, top, sz, hk, rfl, HT, HOK, HB, hsz⟩ := hrel
    by_cases hlt : k < l.length
    · obtain ⟨b, off, hAe, hbb, hc0, hc1, hc2, hc3⟩ := HA.out.at_ hlt
      have hbw := HB.out
      have hk0 := (hbw.cell (p := ⟨b, off + k * 4, none⟩) hbb).trans hc0
      have hk1 := (hbw.cell (p := ⟨b, off + k * 4 + 1, none⟩) hbb).trans hc1
      have hk2 := (hbw.cell (p := ⟨b, off + k * 4 + 2, none⟩) hbb).trans hc2
      have hk3 := (hbw.cell (p := ⟨b, off + k * 4 + 3, none⟩) hbb).trans hc3
      have hro := table_pre H.out l[k] (List.getElem_mem hlt)
      have hnew := table_new H.out hlt
      have htk : l.take (k + 1) = l.take k ++ [l[k]] := List.take_succ_eq_append_getElem hlt
      obtain ⟨r, hr⟩ : ∃ r, r = l[k] := ⟨_, rfl⟩
      rw [← hr] at hk0 hk1 hk2 hk3 hro hnew htk
      obtain ⟨w3, hw3⟩ : ∃ w3, w3 = wr.alloc (.cells #[.int .u32 (r.a : Int), .int .i64 (r.len : Int), .int .i64 (r.act : Int), .int .i64 (r.next : Int)] 43) := ⟨_, rfl⟩
      have h3 : Below wr.heap.size wr w3 := by rw [hw3]; exact (Below.refl _ _).alloc (Nat.le_refl _) _
      have hrow3 : VRow w3 wr.heap.size (rc r) := by rw [hw3]; exact VRow.new wr #[.int .u32 (r.a : Int), .int .i64 (r.len : Int), .int .i64 (r.act : Int), .int .i64 (r.next : Int)] _
      have hpm := fun w => pmay_any r.a r.len hro.a hro.len hro.host w
      have hput := tput_any w.heap.size w.heap.size G F top sz (l.take k) r w3 (HT.out.below h3) HOK.out hro hnew (by omega) (by have := hbw.size; have := h3.size; omega)
      rw [← htk] at hput
      have hb3 := hbw.trans (h3.mono hbw.size)
      have hy0 := (hrow3.get (i := 0) rfl).1
      have hy1 := (hrow3.get (i := 1) rfl).1
      have hy2 := (hrow3.get (i := 2) rfl).1
      have hy3 := (hrow3.get (i := 3) rfl).1
      have HW3 := Lib.hid hw3
      have HPM := Lib.hid hpm
      have HPUT := Lib.hid hput
      have HB3 := Lib.hid hb3
      clear hc0 hc1 hc2 hc3 hro hnew htk hr hw3 h3 hrow3 hpm hput hbw hb3
      subst hAe
      go_wp2_with fail
      rw [← HW3.out]
      clear hk0 hk1 hk2 hk3
      refine (HPM.out _).mono ?_
      rintro e w4 ⟨rfl, rfl⟩
      go_wp2_with fail
      refine (HPUT.out).mono ?_
      rintro e w5 ⟨rfl, G5, F5, top5, sz5, hT5, hOK5, hB5, hs5⟩
      have hBe := HB3.out.trans hB5
      have HT5 := Lib.hid hT5
      have HOK5 := Lib.hid hOK5
      have HB5 := Lib.hid hBe
      clear hT5 hOK5 hB5 hBe hy0 hy1 hy2 hy3 HPUT HPM HW3 HB3
      go_wp2_with fail
      refine ⟨⟨k + 1, G5, F5, top5, sz5, by omega, by go_num, HT5, HOK5, HB5, by omega⟩, by simp [intOf]; omega⟩
    · obtain rfl : k = l.length := by omega
      have hOK := HOK.out
      rw [List.take_of_length_le (Nat.le_refl _)] at hOK
      have HOK2 := Lib.hid hOK
      clear hOK
      go_wp2_with fail
      go_ret
      exact ⟨_, G, F, top, sz, rfl, HT.out, HOK2.out, HB.out⟩
end Go.Proofs.YtpjoefekhgmlhaaGreat.Tp
