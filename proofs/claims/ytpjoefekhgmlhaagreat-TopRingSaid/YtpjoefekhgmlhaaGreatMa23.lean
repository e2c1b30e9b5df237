/- CONTRACT of Trie.Find: the longest rule that holds an address. Conditions: a trie as put makes it.
CONTRACT of Trie.hang: a fork is put to a place. Conditions: a trie as put makes it, and a place on the rule's way. -/
import Derived.Test.YtpjoefekhgmlhaaGreatMa22
import Derived.Deep.DeepCutAuto
namespace Go.Proofs.YtpjoefekhgmlhaaGreat.Tp
open Go.RowKit Mem

/-- How many forks may still come. -/
def leftOf (w : World) (v : Value) : Nat := match v with
  | .pointer (some p) => match w.cell? ⟨p.block, 1, none⟩ with
    | some (.int _ n) => 34 - n.toNat
    | _ => 34
  | _ => 0
theorem leftOf_none (w : World) (G : Nat → Nat) : leftOf w (ptrV G none) = 0 := rfl
theorem leftOf_some {w : World} {G : Nat → Nat} {i : Nat} {f : ForkT} (h : VRow w (G i) (fcells G f)) : leftOf w (ptrV G (some i)) = 34 - f.n := by
  have hc := (h.get (i := 1) rfl).1
  unfold leftOf
  simp only [ptrV, Option.map_some]
  rw [hc]
  rfl
def FindPost (w : World) (o : Option RuleT) (e : Ending) (w' : World) : Prop := e = .returned (.tuple #[rv (bestOf o), .bool o.isSome]) ∧ Below w.heap.size w w'
set_option maxRecDepth 100000 in
set_option maxHeartbeats 2000000 in
theorem tfind_any (base t : Nat) (G : Nat → Nat) (F : List ForkT) (top : Option Nat) (sz : Nat) (rs : List RuleT) (a : Nat) (w : World) (hT : TrieAt base w t G F top sz) (T : TrieOk F top rs) (hr : ∀ r ∈ rs, RulePre r) (ho : Once rs) (ha : a < 4294967296) :
    Calls Tryz.prog 84 #[.pointer (some ⟨t, 0, none⟩), .int .u32 (a : Int)] w (FindPost w (findL rs a)) := by
  have hfin := trie_find T hr ho a
  obtain ⟨res, hres⟩ : ∃ res, res = findL rs a := ⟨_, rfl⟩
  rw [← hres] at hfin ⊢
  obtain ⟨wa, hwa⟩ : ∃ wa, wa = w.alloc (.cells #[.int .u32 0, .int .i64 0, .int .i64 0, .int .i64 0] 43) := ⟨_, rfl⟩
  obtain ⟨w2, hw2⟩ : ∃ w2, w2 = wa.alloc (.cells #[.int .u32 0, .int .i64 0, .int .i64 0, .int .i64 0] 43) := ⟨_, rfl⟩
  have sa : wa.heap.size = w.heap.size + 1 := by rw [hwa]; simp
  have s2 : w2.heap.size = w.heap.size + 1 + 1 := by rw [hw2]; simp [sa]
  have ba : Below w.heap.size w wa := by rw [hwa]; exact (Below.refl _ _).alloc (Nat.le_refl _) _
  have bb : Below wa.heap.size wa w2 := by rw [hw2]; exact (Below.refl _ _).alloc (Nat.le_refl _) _
  have b2 : Below w.heap.size w w2 := ba.trans (bb.mono (by omega))
  have hX : VRow w2 w.heap.size (rc rule0) := (show VRow wa w.heap.size (rc rule0) by rw [hwa]; exact VRow.new w #[.int .u32 0, .int .i64 0, .int .i64 0, .int .i64 0] _).below bb (by omega)
  have hY : VRow w2 (w.heap.size + 1) (rc rule0) := by rw [hw2, ← sa]; exact VRow.new wa #[.int .u32 0, .int .i64 0, .int .i64 0, .int .i64 0] _
  have hT2 := hT.below b2
  have hh0 := (hT2.head.get (i := 0) rfl).1
  have htop := T.topOk
  rw [hwa] at hw2
  rw [hw2] at hh0
  have HW := Lib.hid hw2
  have HX := Lib.hid hX
  have HY := Lib.hid hY
  have HB := Lib.hid b2
  have HT := Lib.hid hT
  have HOK := Lib.hid T
  have HFIN := Lib.hid hfin
  have HTOP := Lib.hid htop
  have hst : Hid (∀ i f, top = some i → F[i]? = some f → 34 ≤ 34 + f.n) := Lib.hid fun _ _ _ _ => by omega
  clear hwa hw2 hX hY b2 bb ba sa hT T hfin htop hr ho hres hT2
  go_enter Tryz.func84, Tryz.ntmps84
  go_wp2_with fail
  rw [← HW.out]
  go_loopw [7, 8] (fun fd q wr => ∃ (o best : Option RuleT) (qo : Option Nat) (k : Nat), o = best ∧ fd = .bool best.isSome ∧ q = ptrV G qo ∧ Hid (findA F a k qo best = res) ∧ Hid (∀ i f, qo = some i → F[i]? = some f → 34 ≤ k + f.n) ∧ Hid (∀ i, qo = some i → i < F.length) ∧ Hid (VRow wr w.heap.size (rc rule0)) ∧ Hid (VRow wr (w.heap.size + 1) (rc (bestOf best))) ∧ Hid (Below w.heap.size w wr)) (fun _ q wr => leftOf wr q)
  case atStart => exact ⟨none, none, top, 34, rfl, rfl, rfl, HFIN, hst, HTOP, HX, HY, HB⟩
  case round =>
    clear HX HY HB hh0 HFIN hst HTOP HW
    obtain ⟨o, best, qo, k, rfl, rfl, rfl, HF, HK, HI, HX, HY, HB⟩ := hrel
    have hend : ∀ wr : World, findA F a k qo o = o → VRow wr w.heap.size (rc rule0) → VRow wr (w.heap.size + 1) (rc (bestOf o)) → Below w.heap.size w wr → o = res ∧ VRow (((((wr.setCell ⟨w.heap.size, 0, none⟩ (.int .u32 ((bestOf o).a : Int))).setCell ⟨w.heap.size, 1, none⟩ (.int .i64 ((bestOf o).len : Int))).setCell ⟨w.heap.size, 2, none⟩ (.int .i64 ((bestOf o).act : Int))).setCell ⟨w.heap.size, 3, none⟩ (.int .i64 ((bestOf o).next : Int)))) w.heap.size (rc (bestOf o)) ∧ Below w.heap.size w (((((wr.setCell ⟨w.heap.size, 0, none⟩ (.int .u32 ((bestOf o).a : Int))).setCell ⟨w.heap.size, 1, none⟩ (.int .i64 ((bestOf o).len : Int))).setCell ⟨w.heap.size, 2, none⟩ (.int .i64 ((bestOf o).act : Int))).setCell ⟨w.heap.size, 3, none⟩ (.int .i64 ((bestOf o).next : Int)))) := fun wr h1 h2 h3 h4 =>
      ⟨h1.symm.trans HF.out, h2.set4 _ _ _ _, below4 h4 (Nat.le_refl _) _ _ _ _⟩
    have HEND := Lib.hid hend
    clear hend
    cases qo with
    | none =>
      have hfa : findA F a k none o = o := by cases k <;> rfl
      obtain ⟨h1, h2, h3⟩ := HEND.out wr hfa HX.out HY.out HB.out
      have HXe := HX
      have HYe := HY
      have H1 := Lib.hid h1
      have H2 := Lib.hid h2
      have H3 := Lib.hid h3
      have hx0 := (HXe.out.get (i := 0) rfl).1
      have hx1 := (HXe.out.get (i := 1) rfl).1
      have hx2 := (HXe.out.get (i := 2) rfl).1
      have hx3 := (HXe.out.get (i := 3) rfl).1
      have hf0 := (HXe.out.get (i := 0) rfl).2
      have hf1 := (HXe.out.get (i := 1) rfl).2
      have hf2 := (HXe.out.get (i := 2) rfl).2
      have hf3 := (HXe.out.get (i := 3) rfl).2
      have hy0 := (HYe.out.get (i := 0) rfl).1
      have hy1 := (HYe.out.get (i := 1) rfl).1
      have hy2 := (HYe.out.get (i := 2) rfl).1
      have hy3 := (HYe.out.get (i := 3) rfl).1
      clear h1 h2 h3 hfa HF HK HI HX HY HB HEND HXe HYe
      go_wp2_with fail
      have hz0 := (H2.out.get (i := 0) rfl).1
      have hz1 := (H2.out.get (i := 1) rfl).1
      have hz2 := (H2.out.get (i := 2) rfl).1
      have hz3 := (H2.out.get (i := 3) rfl).1
      exact bodyPost_ret (v := .tuple #[rv (bestOf o), .bool o.isSome]) (by simp [results, Tryz.results84, go_sem, hz0, hz1, hz2, hz3]) rfl ⟨by rw [H1.out], H3.out⟩
    | some i =>
      have hilt := HI.out i rfl
      have hF := List.getElem?_eq_getElem hilt
      obtain ⟨f, hfe⟩ : ∃ f, f = F[i] := ⟨_, rfl⟩
      rw [← hfe] at hF
      have hsp := HOK.out.span i f hF
      have hk34 := HK.out i f rfl hF
      obtain ⟨k', rfl⟩ : ∃ k', k = k' + 1 := ⟨k - 1, by omega⟩
      have hrow := (HT.out.below HB.out).fork i f hF
      have hlf := leftOf_some hrow
      have hpe : ptrV G (some i) = .pointer (some ⟨G i, 0, none⟩) := rfl
      rw [hpe] at hlf ⊢
      clear hpe
      have hfa0 : findA F a (k' + 1) (some i) o = if holdsB f.a f.n a then findA F a k' (f.kid (bitN a f.n)) (f.rule.or o) else o := by
        show (match F[i]? with
          | none => o
          | some f => if holdsB f.a f.n a then findA F a k' (f.kid (bitN a f.n)) (f.rule.or o) else o) = _
        rw [hF]
      have hho := fun w => sholds_any f.a f.n a hsp.1 ha hsp.2.1 w
      have hc0 := (hrow.get (i := 0) rfl).1
      have hc1 := (hrow.get (i := 1) rfl).1
      have HROW := Lib.hid hrow
      have HLF := Lib.hid hlf
      have HSP := Lib.hid hsp
      have HHF := Lib.hid hF
      cases hh : holdsB f.a f.n a with
      | false =>
        rw [hh] at hho hfa0
        have HHO := Lib.hid hho
        have HFA := Lib.hid hfa0
        clear hho hfa0 hh hrow hlf hsp hF hfe hk34
        go_wp2_with fail
        refine (HHO.out _).mono ?_
        rintro e w5 ⟨rfl, hb5⟩
        have hfa : findA F a (k' + 1) (some i) o = o := HFA.out
        have hX5 := HX.out.below hb5 HX.out.lt
        have hY5 := HY.out.below hb5 HY.out.lt
        have hB5 := HB.out.trans (hb5.mono HB.out.size)
        obtain ⟨h1, h2, h3⟩ := HEND.out w5 hfa hX5 hY5 hB5
        have HXe := Lib.hid hX5
        have HYe := Lib.hid hY5
        clear hX5 hY5 hB5 hb5 hc0 hc1 HFA HROW HLF HSP HHF HHO
        have H1 := Lib.hid h1
        have H2 := Lib.hid h2
        have H3 := Lib.hid h3
        have hx0 := (HXe.out.get (i := 0) rfl).1
        have hx1 := (HXe.out.get (i := 1) rfl).1
        have hx2 := (HXe.out.get (i := 2) rfl).1
        have hx3 := (HXe.out.get (i := 3) rfl).1
        have hf0 := (HXe.out.get (i := 0) rfl).2
        have hf1 := (HXe.out.get (i := 1) rfl).2
        have hf2 := (HXe.out.get (i := 2) rfl).2
        have hf3 := (HXe.out.get (i := 3) rfl).2
        have hy0 := (HYe.out.get (i := 0) rfl).1
        have hy1 := (HYe.out.get (i := 1) rfl).1
        have hy2 := (HYe.out.get (i := 2) rfl).1
        have hy3 := (HYe.out.get (i := 3) rfl).1
        clear h1 h2 h3 hfa HF HK HI HX HY HB HEND HXe HYe
        go_wp2_with fail
        have hz0 := (H2.out.get (i := 0) rfl).1
        have hz1 := (H2.out.get (i := 1) rfl).1
        have hz2 := (H2.out.get (i := 2) rfl).1
        have hz3 := (H2.out.get (i := 3) rfl).1
        exact bodyPost_ret (v := .tuple #[rv (bestOf o), .bool o.isSome]) (by simp [results, Tryz.results84, go_sem, hz0, hz1, hz2, hz3]) rfl ⟨by rw [H1.out], H3.out⟩
      | true =>
        rw [hh] at hho hfa0
        rw [if_pos rfl] at hfa0
        have HHO := Lib.hid hho
        have HFA := Lib.hid hfa0
        have h32 : f.n = 32 → f.k0 = none ∧ f.k1 = none := fun e => by
          have hno : ∀ b, b = 0 ∨ b = 1 → f.kid b = none := fun b hb => by
            cases hkb : f.kid b with
            | none => rfl
            | some k2 =>
              obtain ⟨g, hg, hlt, _⟩ := HOK.out.kid i f b k2 hF hb hkb
              have := (HOK.out.span k2 g hg).2.1
              omega
          exact ⟨hno 0 (.inl rfl), hno 1 (.inr rfl)⟩
        have hbl := fun w (hw : VRow w (G i) (fcells G f)) => below_any G (G i) a f w hw ha hsp.2.1 h32
        have hkd := HOK.out.kid i f (bitN a f.n)
        have HBL := Lib.hid hbl
        have HKD := Lib.hid hkd
        clear hho hfa0 hh hrow hlf hsp hF hfe hbl hkd h32
        obtain ⟨nx, hnx⟩ : ∃ nx, nx = f.kid (bitN a f.n) := ⟨_, rfl⟩
        have HNX := Lib.hid hnx
        have hq1 : Hid (∀ i' f', nx = some i' → F[i']? = some f' → 34 ≤ k' + f'.n) := Lib.hid fun i' f' e hf' => by
          obtain ⟨g, hg, hlt, _⟩ := HKD.out i' HHF.out (bitN_two _ _) (hnx ▸ e)
          rw [hf'] at hg
          injection hg with hg
          rw [hg]; omega
        have hq2 : Hid (∀ i', nx = some i' → i' < F.length) := Lib.hid fun i' e => HT.out.bound.1 i f _ i' HHF.out (hnx ▸ e)
        clear hnx
        go_wp2_with fail
        refine (HHO.out _).mono ?_
        rintro e w5 ⟨rfl, hb5⟩
        have hX5 := HX.out.below hb5 HX.out.lt
        have hY5 := HY.out.below hb5 HY.out.lt
        have hB5 := HB.out.trans (hb5.mono HB.out.size)
        have hR5 := HROW.out.below hb5 HROW.out.lt
        clear hc0 hc1
        have hd6 := (hR5.get (i := 6) rfl).1
        have hd2 := (hR5.get (i := 2) rfl).1
        have hd3 := (hR5.get (i := 3) rfl).1
        have hd4 := (hR5.get (i := 4) rfl).1
        have hd5 := (hR5.get (i := 5) rfl).1
        cases hru : f.rule with
        | none =>
          rw [hru] at hd6 hd2 hd3 hd4 hd5
          have hcall := HBL.out w5 hR5
          rw [← HNX.out] at hcall
          have HC := Lib.hid hcall
          have hfin : findA F a k' nx o = res := by
            have h1 := HFA.out
            rw [hru, ← HNX.out] at h1
            exact h1.symm.trans HF.out
          have HFI := Lib.hid hfin
          have HX5 := Lib.hid hX5
          have HY5 := Lib.hid hY5
          have HB5 := Lib.hid hB5
          have HR5 := Lib.hid hR5
          clear hcall hfin hX5 hY5 hB5 hR5 hb5 HX HY HB HF HK HI HEND HROW HHO HFA HBL hru
          go_wp2_with fail
          refine (HC.out).mono ?_
          rintro e w6 ⟨rfl, hb6⟩
          go_wp2_with fail
          refine ⟨⟨_, o, nx, k', rfl, rfl, rfl, HFI, hq1, hq2, Lib.hid (HX5.out.below hb6 HX5.out.lt), Lib.hid (HY5.out.below hb6 HY5.out.lt), Lib.hid (HB5.out.trans (hb6.mono HB5.out.size))⟩, ?_⟩
          rw [HLF.out]
          cases nx with
          | none => rw [leftOf_none]; have := HSP.out.2.1; omega
          | some i' =>
            obtain ⟨g, hg, hlt, _⟩ := HKD.out i' HHF.out (bitN_two _ _) HNX.out.symm
            rw [leftOf_some ((HT.out.below (HB5.out.trans (hb6.mono HB5.out.size))).fork i' g hg)]
            have := (HOK.out.span i' g hg).2.1
            omega
        | some r =>
          rw [hru] at hd6 hd2 hd3 hd4 hd5
          have hbs : bestOf (some r) = r := rfl
          rw [hbs] at hd2 hd3 hd4 hd5
          clear hbs
          have hg0 := (hY5.get (i := 0) rfl).1
          have hg1 := (hY5.get (i := 1) rfl).1
          have hg2 := (hY5.get (i := 2) rfl).1
          have hg3 := (hY5.get (i := 3) rfl).1
          have hgf0 := (hY5.get (i := 0) rfl).2
          have hgf1 := (hY5.get (i := 1) rfl).2
          have hgf2 := (hY5.get (i := 2) rfl).2
          have hgf3 := (hY5.get (i := 3) rfl).2
          have hY6 : VRow (((((w5.setCell ⟨w.heap.size + 1, 0, none⟩ (.int .u32 (r.a : Int))).setCell ⟨w.heap.size + 1, 1, none⟩ (.int .i64 (r.len : Int))).setCell ⟨w.heap.size + 1, 2, none⟩ (.int .i64 (r.act : Int))).setCell ⟨w.heap.size + 1, 3, none⟩ (.int .i64 (r.next : Int)))) (w.heap.size + 1) (rc (bestOf (some r))) := hY5.set4 _ _ _ _
          have hX6 : VRow (((((w5.setCell ⟨w.heap.size + 1, 0, none⟩ (.int .u32 (r.a : Int))).setCell ⟨w.heap.size + 1, 1, none⟩ (.int .i64 (r.len : Int))).setCell ⟨w.heap.size + 1, 2, none⟩ (.int .i64 (r.act : Int))).setCell ⟨w.heap.size + 1, 3, none⟩ (.int .i64 (r.next : Int)))) w.heap.size (rc rule0) :=
            (((hX5.other (p := ⟨w.heap.size + 1, 0, none⟩) (by show w.heap.size + 1 ≠ w.heap.size; omega) _).other (p := ⟨w.heap.size + 1, 1, none⟩) (by show w.heap.size + 1 ≠ w.heap.size; omega) _).other (p := ⟨w.heap.size + 1, 2, none⟩) (by show w.heap.size + 1 ≠ w.heap.size; omega) _).other (p := ⟨w.heap.size + 1, 3, none⟩) (by show w.heap.size + 1 ≠ w.heap.size; omega) _
          have hB6 := below4 hB5 (show w.heap.size ≤ w.heap.size + 1 by omega) (.int .u32 (r.a : Int)) (.int .i64 (r.len : Int)) (.int .i64 (r.act : Int)) (.int .i64 (r.next : Int))
          obtain ⟨w6, hw6⟩ : ∃ w6, w6 = ((((w5.setCell ⟨w.heap.size + 1, 0, none⟩ (.int .u32 (r.a : Int))).setCell ⟨w.heap.size + 1, 1, none⟩ (.int .i64 (r.len : Int))).setCell ⟨w.heap.size + 1, 2, none⟩ (.int .i64 (r.act : Int))).setCell ⟨w.heap.size + 1, 3, none⟩ (.int .i64 (r.next : Int))) := ⟨_, rfl⟩
          rw [← hw6] at hY6 hX6 hB6
          have hR6 := (HT.out.below hB6).fork i f HHF.out
          have hcall := HBL.out w6 hR6
          rw [← HNX.out] at hcall
          have HC := Lib.hid hcall
          have hfin : findA F a k' nx (some r) = res := by
            have h1 := HFA.out
            rw [hru, ← HNX.out] at h1
            exact h1.symm.trans HF.out
          have HFI := Lib.hid hfin
          have HX5 := Lib.hid hX6
          have HY5 := Lib.hid hY6
          have HB5 := Lib.hid hB6
          have HW6 := Lib.hid hw6
          clear hcall hfin hX5 hY5 hB5 hR5 hb5 hX6 hY6 hB6 hR6 hw6 HX HY HB HF HK HI HEND HROW HHO HFA HBL hru
          go_wp2_with fail
          rw [← HW6.out]
          clear hd6 hd2 hd3 hd4 hd5 hg0 hg1 hg2 hg3 hgf0 hgf1 hgf2 hgf3
          refine (HC.out).mono ?_
          rintro e w7 ⟨rfl, hb6⟩
          go_wp2_with fail
          refine ⟨⟨_, some r, nx, k', rfl, rfl, rfl, HFI, hq1, hq2, Lib.hid (HX5.out.below hb6 HX5.out.lt), Lib.hid (HY5.out.below hb6 HY5.out.lt), Lib.hid (HB5.out.trans (hb6.mono HB5.out.size))⟩, ?_⟩
          rw [HLF.out]
          cases nx with
          | none => rw [leftOf_none]; have := HSP.out.2.1; omega
          | some i' =>
            obtain ⟨g, hg, hlt, _⟩ := HKD.out i' HHF.out (bitN_two _ _) HNX.out.symm
            rw [leftOf_some ((HT.out.below (HB5.out.trans (hb6.mono HB5.out.size))).fork i' g hg)]
            have := (HOK.out.span i' g hg).2.1
            omega
end Go.Proofs.YtpjoefekhgmlhaaGreat.Tp

namespace Go.Proofs.YtpjoefekhgmlhaaGreat.Tp
open Go.RowKit Mem

theorem setP_app {F : List ForkT} {k : Option Nat} {p : Place} {f : ForkT} (hp : PlaceOk F p) : setP (F ++ [f]) k p = setP F k p ++ [f] := by
  cases p with
  | top => rfl
  | kid i b =>
    obtain ⟨f0, hf⟩ : ∃ f0, F[i]? = some f0 := ⟨_, List.getElem?_eq_getElem hp.1⟩
    rw [setP_kid hf, setP_kid (show (F ++ [f])[i]? = some f0 by rw [List.getElem?_append_left hp.1]; exact hf), List.set_append_left _ _ hp.1]
theorem getP_app {F : List ForkT} {top : Option Nat} {p : Place} {f : ForkT} (hp : PlaceOk F p) : getP (F ++ [f]) top p = getP F top p := by
  cases p with
  | top => rfl
  | kid i b =>
    obtain ⟨f0, hf⟩ : ∃ f0, F[i]? = some f0 := ⟨_, List.getElem?_eq_getElem hp.1⟩
    rw [getP_kid hf, getP_kid (show (F ++ [f])[i]? = some f0 by rw [List.getElem?_append_left hp.1]; exact hf)]
theorem PlaceOk.app {F : List ForkT} {p : Place} {f : ForkT} (hp : PlaceOk F p) : PlaceOk (F ++ [f]) p := by
  cases p with
  | top => trivial
  | kid i b => exact ⟨by have := hp.1; simp; omega, hp.2⟩
theorem addr_push {F : List ForkT} {p : Place} {t g : Nat} {G : Nat → Nat} (hp : PlaceOk F p) : addrP t (pushG G F.length g) p = addrP t G p := by
  cases p with
  | top => rfl
  | kid i b => unfold addrP; simp only; rw [push_old hp.1]
/-- A trie stands there, with one rule more. -/
def Hung3 (base : Nat) (W : World) (t : Nat) (rs : List RuleT) (sz : Nat) (e : Ending) (W' : World) : Prop := e = .returned (.tuple #[]) ∧ ∃ G F top sz', TrieAt base W' t G F top sz' ∧ TrieOk F top rs ∧ Below base W W' ∧ sz' ≤ sz + 2
theorem addr_low {base : Nat} {W : World} {t : Nat} {G : Nat → Nat} {F : List ForkT} {top : Option Nat} {sz : Nat} (h : TrieAt base W t G F top sz) {p : Place} (hp : PlaceOk F p) : base ≤ (addrP t G p).block := by
  cases p with
  | top => exact h.low.1
  | kid i b => exact h.low.2 i hp.1

set_option maxRecDepth 100000 in
set_option maxHeartbeats 2000000 in
theorem hang_none (base t g : Nat) (G : Nat → Nat) (F : List ForkT) (top : Option Nat) (sz : Nat) (rs : List RuleT) (r : RuleT) (p : Place) (w : World) (hT : TrieAt base w t G F top sz) (T : TrieOk F top rs) (hr : RulePre r) (hp : Path F top r p) (hg : VRow w g (fcells G (fork0 r))) (hgb : base ≤ g) (hgt : g ≠ t) (hgn : ∀ i, i < F.length → G i ≠ g) (hn : getP F top p = none) (hsz : sz ≤ 1000000) :
    Calls Tryz.prog 136 #[.pointer (some ⟨t, 0, none⟩), .pointer (some (addrP t G p)), .pointer (some ⟨g, 0, none⟩)] w (Hung3 base w t (rs ++ [r]) sz) := by
  have hok := hp.ok
  have hpush := hT.push hg (fun b k h => absurd h kid_fork) hgt hgb hgn
  have hset := hpush.setP (p := p) hok.app (some F.length) (fun i e => by injection e with e; simp; omega)
  rw [addr_push hok, ptr_new, setP_app hok] at hset
  have hsize := hset.size_ (sz + 1)
  have hbase := addr_low hT hok
  have hb1 := ((Below.refl base w).setCell hbase (.pointer (some ⟨g, 0, none⟩))).setCell (p := ⟨t, 1, none⟩) hT.low.1 (.int .i64 ((sz + 1 : Nat) : Int))
  obtain ⟨hc0, hf0⟩ := hT.place hok
  rw [hn] at hc0
  have hc1 := (hset.head.get (i := 1) rfl)
  have hfin : Hung3 base w t (rs ++ [r]) sz (.returned (.tuple #[])) ((w.setCell (addrP t G p) (.pointer (some ⟨g, 0, none⟩))).setCell ⟨t, 1, none⟩ (.int .i64 ((sz + 1 : Nat) : Int))) := ⟨rfl, _, _, _, _, hsize, put_none T hr hp hn, hb1, by omega⟩
  obtain ⟨pa, hpa⟩ : ∃ pa, pa = addrP t G p := ⟨_, rfl⟩
  rw [← hpa] at hc0 hf0 hc1 hfin ⊢
  obtain ⟨hs1, hs2⟩ := hc1
  have HF := Lib.hid hfin
  clear hok hpush hset hsize hbase hb1 hpa hfin hT T hr hp hg hgn
  go_enter Tryz.func136, Tryz.ntmps136
  go_wp2_with fail
  exact bodyPost_end (v := .tuple #[]) (by simp [results, Tryz.results136, go_sem]) rfl HF.out

theorem VRow.drew {w : World} {g : Nat} {xs : List Value} (h : VRow w g xs) : VRow w.drew g xs := ⟨h.lt, h.cell, h.free⟩
/-- What lies at a place, whatever it is. -/
def valAt (w : World) (p : Addr) : Value := (w.cell? p).getD undef
theorem valAt_of {w : World} {p : Addr} {v : Value} (h : w.cell? p = some v) : w.cell? p = some (valAt w p) := by unfold valAt; rw [h]; rfl
theorem getP_set {F new : List ForkT} {top k : Option Nat} {p : Place} (hp : PlaceOk F p) : getP (setP F k p ++ new) (setT top k p) p = k := by
  cases p with
  | top => rfl
  | kid i b =>
    obtain ⟨f0, hf⟩ : ∃ f0, F[i]? = some f0 := ⟨_, List.getElem?_eq_getElem hp.1⟩
    rw [setP_kid hf, getP_kid (show (F.set i (f0.setKid b k) ++ new)[i]? = some (f0.setKid b k) by
      rw [List.getElem?_append_left (by rw [List.length_set]; exact hp.1), List.getElem?_set_self hp.1])]
    exact setKid_same f0 b k
theorem setP_ok {F new : List ForkT} {k : Option Nat} {p : Place} (hp : PlaceOk F p) : PlaceOk (setP F k p ++ new) p := by
  cases p with
  | top => trivial
  | kid i b => exact ⟨by rw [List.length_append, setP_len]; have := hp.1; omega, hp.2⟩
theorem meet_above {a n b m : Nat} (ha : a < 4294967296) (hb : b < 4294967296) (hn : n ≤ 32) (h : agree a b n) (hm : n ≤ m) : meetN a n b m = n := by
  have := (le_common ha hb hn).2 h
  unfold meetN; omega
theorem low_self {a n : Nat} (h : a % wid n = 0) : lowN a n = a := by
  unfold lowN
  have := Nat.div_add_mod a (wid n)
  rw [h, Nat.mul_comm] at this
  exact this

/-- What is there when what was at the place has been put away, and is a fork: the words of the two other ways. -/
structure HangSt (base t g : Nat) (G : Nat → Nat) (F : List ForkT) (top : Option Nat) (sz : Nat) (r : RuleT) (p : Place) (o : Nat) (fo : ForkT) (W : World) : Prop where
  trie : TrieAt base W t (pushG G F.length g) (setP F (some F.length) p ++ [fork0 r]) (setT top (some F.length) p) (sz + 1)
  ga : W.cell? ⟨g, 0, none⟩ = some (.int .u32 (r.a : Int))
  gn : W.cell? ⟨g, 1, none⟩ = some (.int .i64 (r.len : Int))
  oa : W.cell? ⟨G o, 0, none⟩ = some (.int .u32 (fo.a : Int))
  on : W.cell? ⟨G o, 1, none⟩ = some (.int .i64 (fo.n : Int))
  pc : W.cell? (addrP t G p) = some (.pointer (some ⟨g, 0, none⟩))
  pf : W.frozen? (addrP t G p) = false
  below : Below base W W
theorem HangSt.below_ {base t g : Nat} {G : Nat → Nat} {F : List ForkT} {top : Option Nat} {sz : Nat} {r : RuleT} {p : Place} {o : Nat} {fo : ForkT} {W W' : World} (hg : g < W.heap.size) (ho : G o < W.heap.size) (hpl : (addrP t G p).block < W.heap.size) (h : HangSt base t g G F top sz r p o fo W) (hb : Below W.heap.size W W') : HangSt base t g G F top sz r p o fo W' :=
  ⟨h.trie.below hb, (hb.cell (p := ⟨g, 0, none⟩) hg).trans h.ga, (hb.cell (p := ⟨g, 1, none⟩) hg).trans h.gn, (hb.cell (p := ⟨G o, 0, none⟩) ho).trans h.oa, (hb.cell (p := ⟨G o, 1, none⟩) ho).trans h.on, (hb.cell hpl).trans h.pc, (hb.frozen hpl).trans h.pf, Below.refl _ _⟩
theorem hang_start {base t g : Nat} {G : Nat → Nat} {F : List ForkT} {top : Option Nat} {sz : Nat} {r : RuleT} {p : Place} {w : World} {o : Nat} {fo : ForkT} (hT : TrieAt base w t G F top sz) (hok : PlaceOk F p) (hp2 : p = .top ∨ ∃ i b, p = .kid i b ∧ (b = 0 ∨ b = 1)) (hg : VRow w g (fcells G (fork0 r))) (hgb : base ≤ g) (hgt : g ≠ t) (hgn : ∀ i, i < F.length → G i ≠ g) (hfo : F[o]? = some fo) :
    HangSt base t g G F top sz r p o fo ((w.setCell (addrP t G p) (.pointer (some ⟨g, 0, none⟩))).setCell ⟨t, 1, none⟩ (.int .i64 ((sz : Int) + 1))) := by
  have hpush := hT.push hg (fun b k h => absurd h kid_fork) hgt hgb hgn
  have hset := hpush.setP (p := p) hok.app (some F.length) (fun i e => by injection e with e; simp; omega)
  rw [addr_push hok, ptr_new, setP_app hok] at hset
  have hsize := hset.size_ (sz + 1)
  have ho : o < F.length := (List.getElem?_eq_some_iff.1 hfo).1
  have hgr := hsize.fork F.length (fork0 r) (by
    have := new_at (F := F) (p := p) (k := some F.length) (new := [fork0 r]) (i := 0)
    simpa using this)
  rw [push_new] at hgr
  obtain ⟨fo', hfo', hoa, hon, _⟩ := setP_get (k := some F.length) hfo hp2
  have hor := hsize.fork o fo' (by rw [List.getElem?_append_left (by rw [setP_len]; exact ho)]; exact hfo')
  rw [push_old ho] at hor
  have hpl := hsize.place (p := p) (setP_ok hok)
  rw [addr_push hok, getP_set hok, ptr_new] at hpl
  exact ⟨hsize, (hgr.get (i := 0) rfl).1, (hgr.get (i := 1) rfl).1, by rw [← hoa]; exact (hor.get (i := 0) rfl).1, by rw [← hon]; exact (hor.get (i := 1) rfl).1, hpl.1, hpl.2, Below.refl _ _⟩

set_option maxRecDepth 100000 in
set_option maxHeartbeats 4000000 in
theorem hang_above (base t g : Nat) (G : Nat → Nat) (F : List ForkT) (top : Option Nat) (sz : Nat) (rs : List RuleT) (r : RuleT) (p : Place) (w : World) (o : Nat) (fo : ForkT) (hT : TrieAt base w t G F top sz) (T : TrieOk F top rs) (hr : RulePre r) (hp : Path F top r p) (hg : VRow w g (fcells G (fork0 r))) (hgb : base ≤ g) (hgt : g ≠ t) (hgn : ∀ i, i < F.length → G i ≠ g) (hn : getP F top p = some o) (hfo : F[o]? = some fo) (hlt : r.len < fo.n) (hag : agree r.a fo.a r.len) (hsz : sz ≤ 1000000) (hbw : base ≤ w.heap.size) :
    Calls Tryz.prog 136 #[.pointer (some ⟨t, 0, none⟩), .pointer (some (addrP t G p)), .pointer (some ⟨g, 0, none⟩)] w (Hung3 base w t (rs ++ [r]) sz) := by
  have hok := hp.ok
  have hst := hang_start hT hok hp.two hg hgb hgt hgn hfo
  have hbase := addr_low hT hok
  have hb1 := ((Below.refl base w).setCell hbase (.pointer (some ⟨g, 0, none⟩))).setCell (p := ⟨t, 1, none⟩) hT.low.1 (.int .i64 ((sz : Int) + 1))
  obtain ⟨hc0, hf0⟩ := hT.place hok
  rw [hn] at hc0
  have ho : o < F.length := (List.getElem?_eq_some_iff.1 hfo).1
  have hspo := T.span o fo hfo
  have hmt := fun w => meet3_any r.a r.len fo.a fo.n hr.a hspo.1 w
  rw [meet_above hr.a hspo.1 hr.len hag (by omega), low_self hr.host] at hmt
  have hbit := fun w => bit_any fo.a r.len hspo.1 (by omega) w
  have hput := put_above T hr hp hn hfo hlt hag
  have hb2 := bitN_two fo.a r.len
  generalize bitN fo.a r.len = b at *
  have hplt : (addrP t G p).block < w.heap.size := by
    cases p with
    | top => exact hT.head.lt
    | kid i c => exact (hT.fork i _ (List.getElem?_eq_getElem hok.1)).lt
  have hglt := hg.lt
  have holt := (hT.fork o fo hfo).lt
  have htlt := hT.head.lt
  obtain ⟨W1, hW1⟩ : ∃ W1, W1 = (w.setCell (addrP t G p) (.pointer (some ⟨g, 0, none⟩))).setCell ⟨t, 1, none⟩ (.int .i64 ((sz : Int) + 1)) := ⟨_, rfl⟩
  have hW1s : W1.heap.size = w.heap.size := by rw [hW1]; simp
  have hc1 : (w.setCell (addrP t G p) (.pointer (some ⟨g, 0, none⟩))).cell? ⟨t, 1, none⟩ = some (.int .i64 (sz : Int)) ∧ (w.setCell (addrP t G p) (.pointer (some ⟨g, 0, none⟩))).frozen? ⟨t, 1, none⟩ = false := by
    have hpush := hT.push hg (fun b k h => absurd h kid_fork) hgt hgb hgn
    have hset := hpush.setP (p := p) hok.app (some F.length) (fun i e => by injection e with e; simp; omega)
    rw [addr_push hok, ptr_new, setP_app hok] at hset
    exact hset.head.get (i := 1) rfl
  rw [← hW1] at hst hb1
  obtain ⟨hs1, hs2⟩ := hc1
  have hKS : ∀ W, Below W1.heap.size W1 W → HangSt base t g G F top sz r p o fo W := fun W hW => hst.below_ (by omega) (by omega) (by omega) hW
  have HKS := Lib.hid hKS
  have hbW : base ≤ W1.heap.size := by omega
  have hgW : g < W1.heap.size := by omega
  clear hW1s
  have HB1 := Lib.hid hb1
  have HW1 := Lib.hid hW1
  have HMT := Lib.hid hmt
  have HBIT := Lib.hid hbit
  have HPUT := Lib.hid hput
  have HB2 := Lib.hid hb2
  obtain ⟨pa, hpa⟩ : ∃ pa, pa = addrP t G p := ⟨_, rfl⟩
  rw [← hpa] at hc0 hf0 hs1 hs2 HW1 ⊢
  have HPA := Lib.hid hpa
  obtain ⟨go, hgo⟩ : ∃ go, go = G o := ⟨_, rfl⟩
  have hc0' : w.cell? pa = some (.pointer (some ⟨go, 0, none⟩)) := by rw [hc0, hgo]; rfl
  have HGO := Lib.hid hgo
  have b0 : (0 : Int) ≤ (b : Int) := by omega
  have b1 : (b : Int) < 2 := by have := HB2.out; omega
  clear hok hst hbase hb1 hspo hmt hbit hput hb2 hW1 hKS hpa hgo hc0 hT T hr hp hg hgn hfo hn hag hlt
  go_enter Tryz.func136, Tryz.ntmps136
  go_wp2_with fail
  rw [← HW1.out]
  clear hc0' hf0 hs1 hs2
  have hK1 : ∀ W, Below W1.heap.size W1 W → (W.cell? ⟨g, 0, none⟩ = some (.int .u32 (r.a : Int)) ∧ W.cell? ⟨g, 1, none⟩ = some (.int .i64 (r.len : Int)) ∧ W.cell? ⟨go, 0, none⟩ = some (.int .u32 (fo.a : Int)) ∧ W.cell? ⟨go, 1, none⟩ = some (.int .i64 (fo.n : Int))) ∧ Below W1.heap.size W1 W := fun W hW => by
    have := HKS.out W hW
    rw [HGO.out]
    exact ⟨⟨this.ga, this.gn, this.oa, this.on⟩, hW⟩
  have KS := Lib.hid hK1
  clear hK1
  go_upto_region 4 with fail
  go_cut [7] (fun s7 wx => ∃ q : Nat, s7 = .pointer (some ⟨q, 0, none⟩) ∧ q < wx.heap.size ∧ wx.cell? ⟨q, 0, none⟩ = some (.int .u32 (r.a : Int)) ∧ wx.cell? ⟨q, 1, none⟩ = some (.int .i64 (r.len : Int)) ∧ Below W1.heap.size W1 wx)
  case first =>
    go_region_held3 (fun W => (W.cell? ⟨g, 0, none⟩ = some (.int .u32 (r.a : Int)) ∧ W.cell? ⟨g, 1, none⟩ = some (.int .i64 (r.len : Int)) ∧ W.cell? ⟨go, 0, none⟩ = some (.int .u32 (fo.a : Int)) ∧ W.cell? ⟨go, 1, none⟩ = some (.int .i64 (fo.n : Int))) ∧ Below W1.heap.size W1 W)
      ((refine KS.out _ ?_; first
        | exact below_drew (Below.refl _ _)
        | exact (below_drew (Below.refl W1.heap.size W1)).trans hb5
        | exact ((below_drew (Below.refl W1.heap.size W1)).trans hb5).alloc hb5.size _
        | exact (below_drew (Below.refl W1.heap.size W1)).alloc (Nat.le_refl _) _
        | exact ((below_drew (Below.refl W1.heap.size W1)).alloc (Nat.le_refl _) _).trans (hb5.mono (by simp))
        | exact ((((below_drew (Below.refl W1.heap.size W1)).alloc (Nat.le_refl _) _).trans (hb5.mono (by simp))).setCell (p := ⟨W1.heap.size, 0, none⟩) (Nat.le_refl _) _).setCell (p := ⟨W1.heap.size, 1, none⟩) (Nat.le_refl _) _))
      (first | (go_at_call 134; refine (HMT.out _).mono ?_; rintro e w5 ⟨rfl, hb5⟩; (try (have hv5 : VRow w5 W1.heap.size [.int .u32 0, .int .i64 0] := VRow.below (w := (W1.alloc (.cells #[.int .u32 0, .int .i64 0] 199)).drew) (VRow.new W1 #[.int .u32 0, .int .i64 0] 199).drew hb5 (by simp); have hq0 := (hv5.get (i := 0) rfl).1; have hq1 := (hv5.get (i := 1) rfl).1; have hq2 := (hv5.get (i := 0) rfl).2; have hq3 := (hv5.get (i := 1) rfl).2))))
    · have hv := VRow.new w5 #[.int .u32 (r.a : Int), .int .i64 (r.len : Int)] 199
      go_wp2_with fail
      go_meet
      exact ⟨w5.heap.size, rfl, hv.lt, (hv.get (i := 0) rfl).1, (hv.get (i := 1) rfl).1, ((below_drew (Below.refl W1.heap.size W1)).trans hb5).alloc hb5.size _⟩
    · have hv := (hv5.set_ 0 (.int .u32 (r.a : Int))).set_ 1 (.int .i64 (r.len : Int))
      have hbe := ((((below_drew (Below.refl W1.heap.size W1)).alloc (Nat.le_refl _) _).trans (hb5.mono (by simp))).setCell (p := ⟨W1.heap.size, 0, none⟩) (Nat.le_refl _) (.int .u32 (r.a : Int))).setCell (p := ⟨W1.heap.size, 1, none⟩) (Nat.le_refl _) (.int .i64 (r.len : Int))
      go_wp2_with fail
      go_meet
      exact ⟨W1.heap.size, rfl, hv.lt, (hv.get (i := 0) rfl).1, (hv.get (i := 1) rfl).1, hbe⟩
  case rest =>
    obtain ⟨q, rfl, hql, hq0, hq1, hbx⟩ := hcut
    have hS := HKS.out wc hbx
    have hga := hS.ga
    have hgn := hS.gn
    have HS := Lib.hid hS
    have HBX := Lib.hid hbx
    clear hS hbx KS
    go_wp2_with fail
    go_big_quiet (fail)
    obtain ⟨w6, hw6⟩ : ∃ w6, w6 = wc.drewN nq := ⟨_, rfl⟩
    rw [← hw6]
    have hb6 : Below wc.heap.size wc w6 := by rw [hw6]; exact below_drawn (Below.refl _ _) nq
    have hB6 := HBX.out.trans (hb6.mono HBX.out.size)
    have hS6 := HKS.out w6 hB6
    have ha6 := hS6.oa
    have hp6 := hS6.pc
    rw [← HPA.out] at hp6
    rw [← HGO.out] at ha6
    have hq6 := (hb6.cell (p := ⟨q, 1, none⟩) hql).trans hq1
    have hkr := hS6.trie.fork F.length (fork0 r) (by
      have := new_at (F := F) (p := p) (k := some F.length) (new := [fork0 r]) (i := 0)
      simpa using this)
    rw [push_new] at hkr
    obtain ⟨hk6, hkf6⟩ := hkr.get (fcells_kid HB2.out)
    have hT6 := hS6.trie.setP (p := .kid F.length b) ⟨by rw [List.length_append, setP_len]; simp, HB2.out⟩ (some o) (fun i e => by injection e with e; rw [List.length_append, setP_len]; omega)
    have hadr : addrP t (pushG G F.length g) (.kid F.length b) = ⟨g, 7 + b, none⟩ := by unfold addrP; simp only; rw [push_new]
    have hptr : ptrV (pushG G F.length g) (some o) = .pointer (some ⟨go, 0, none⟩) := by simp only [ptrV, Option.map_some]; rw [push_old ho, HGO.out]
    rw [hadr, hptr] at hT6
    have hsetF : setP (setP F (some F.length) p ++ [fork0 r]) (some o) (.kid F.length b) = setP F (some F.length) p ++ [(fork0 r).setKid b (some o)] := by
      have hn := new_at (F := F) (p := p) (k := some F.length) (new := [fork0 r]) (i := 0)
      rw [setP_kid (f := fork0 r) (by simpa using hn), List.set_append_right _ _ (by rw [setP_len]; exact Nat.le_refl _), setP_len]
      simp
    rw [hsetF] at hT6
    have hBf := ((HB1.out.trans (hB6.mono hbW)).setCell (p := ⟨g, 7 + b, none⟩) hgb (.pointer (some ⟨go, 0, none⟩)))
    have HFIN : Hid (Hung3 base w t (rs ++ [r]) sz (.returned (.tuple #[])) (w6.setCell ⟨g, 7 + b, none⟩ (.pointer (some ⟨go, 0, none⟩))).drew) := Lib.hid ⟨rfl, _, _, _, _, hT6.below (below_drew (Below.refl _ _)), HPUT.out, below_drew hBf, by omega⟩
    obtain ⟨kv, hkv⟩ : ∃ kv, kv = ptrV (pushG G F.length g) ((fork0 r).kid b) := ⟨_, rfl⟩
    rw [← hkv] at hk6
    clear hw6 hb6 hB6 hS6 hkr hT6 hadr hptr hsetF hBf hkv hq0 hq1 hga hgn HBX HS HKS HB1 HW1 HMT HPUT
    go_wp2_with fail
    go_region_with (first | (go_at_call 135; refine (HBIT.out _).mono ?_; rintro e w' ⟨rfl, rfl⟩))
    all_goals
      clear ha6 hp6 hq6 hk6 hkf6
      go_wp2_with fail
      exact bodyPost_end (v := .tuple #[]) (by simp [results, Tryz.results136, go_sem]) rfl HFIN.out
end Go.Proofs.YtpjoefekhgmlhaaGreat.Tp
