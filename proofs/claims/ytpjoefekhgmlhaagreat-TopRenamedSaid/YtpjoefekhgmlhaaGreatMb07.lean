/- CONTRACTS: table.Find, table.Next. Conditions: the rules' prefixes are addresses and lengths. -/
import Derived.Test.YtpjoefekhgmlhaaGreatMb06
namespace Go.Proofs.YtpjoefekhgmlhaaGreat.Tp
open Go.RowKit Mem

def pickR (a : Nat) (best : Option RuleT) (r : RuleT) : Option RuleT :=
  if holdsB r.a r.len a then
    match best with
    | none => some r
    | some b => if r.len ≤ b.len then some b else some r
  else best
/-- The longest rule that holds an address, the first one of several. -/
def findL (l : List RuleT) (a : Nat) : Option RuleT := l.foldl (pickR a) none
theorem find_next {l : List RuleT} {a k : Nat} (h : k < l.length) : findL (l.take (k + 1)) a = pickR a (findL (l.take k) a) l[k] := by
  unfold findL; rw [List.take_succ_eq_append_getElem h, List.foldl_append]; rfl
def rule0 : RuleT := ⟨0, 0, 0, 0⟩
def bestOf (o : Option RuleT) : RuleT := o.getD rule0
/-- A prefix's numbers fit. -/
def PreOk (r : RuleT) : Prop := r.a < 4294967296 ∧ r.len ≤ 32
theorem VRow.set4 {w : World} {g : Nat} {x0 x1 x2 x3 : Value} (h : VRow w g [x0, x1, x2, x3]) (y0 y1 y2 y3 : Value) :
    VRow ((((w.setCell ⟨g, 0, none⟩ y0).setCell ⟨g, 1, none⟩ y1).setCell ⟨g, 2, none⟩ y2).setCell ⟨g, 3, none⟩ y3) g [y0, y1, y2, y3] := by
  have := (((h.set_ 0 y0).set_ 1 y1).set_ 2 y2).set_ 3 y3
  simpa using this

theorem VRow.other {w : World} {g : Nat} {xs : List Value} (h : VRow w g xs) {p : Addr} (hne : p.block ≠ g) (v : Value) : VRow (w.setCell p v) g xs := by
  refine ⟨by have := h.lt; simpa [World.setCell] using this, fun i hi => ?_, fun i hi => ?_⟩
  · rw [World.cell?_setCell_other (h := by intro e; rw [e] at hne; exact hne rfl)]; exact h.cell i hi
  · rw [World.frozen?_setCell]; exact h.free i hi
theorem VRow.other4 {w : World} {g g' : Nat} {xs : List Value} (h : VRow w g' xs) (hne : g ≠ g') (y0 y1 y2 y3 : Value) :
    VRow ((((w.setCell ⟨g, 0, none⟩ y0).setCell ⟨g, 1, none⟩ y1).setCell ⟨g, 2, none⟩ y2).setCell ⟨g, 3, none⟩ y3) g' xs :=
  (((h.other hne y0).other hne y1).other hne y2).other hne y3
theorem below4 {B : Nat} {w w' : World} (h : Below B w w') {g : Nat} (hg : B ≤ g) (y0 y1 y2 y3 : Value) :
    Below B w ((((w'.setCell ⟨g, 0, none⟩ y0).setCell ⟨g, 1, none⟩ y1).setCell ⟨g, 2, none⟩ y2).setCell ⟨g, 3, none⟩ y3) :=
  (((h.setCell hg y0).setCell hg y1).setCell hg y2).setCell hg y3

set_option maxRecDepth 100000 in
set_option maxHeartbeats 1000000 in
theorem find_any (A : Option Addr) (c : Nat) (l : List RuleT) (a : Nat) (w : World) (hA : RulesAt w A l) (h : ∀ r ∈ l, PreOk r) (ha : a < 4294967296) (hl : l.length ≤ 4096) :
    Calls Tryz.prog 102 #[.slice A l.length c, .int .u32 (a : Int)] w fun e w' => e = .returned (.tuple #[rv (bestOf (findL l a)), .bool (findL l a).isSome]) ∧ Below w.heap.size w w' := by
  have H := Lib.hid h
  clear h
  go_enter Tryz.func102, Tryz.ntmps102
  go_wp2_with fail
  go_step3
  go_wp2_with fail
  have hr1 := (VRow.new w #[.int .u32 0, .int .i64 0, .int .i64 0, .int .i64 0] 43)
  have hb1 : Below w.heap.size w (w.alloc (.cells #[.int .u32 0, .int .i64 0, .int .i64 0, .int .i64 0] 43)) := (Below.refl _ w).alloc (Nat.le_refl _) _
  have hr2 := VRow.new (w.alloc (.cells #[.int .u32 0, .int .i64 0, .int .i64 0, .int .i64 0] 43)) #[.int .u32 0, .int .i64 0, .int .i64 0, .int .i64 0] 43
  have hr1' := hr1.below ((Below.refl _ _).alloc (Nat.le_refl _) (.cells #[.int .u32 0, .int .i64 0, .int .i64 0, .int .i64 0] 43)) hr1.lt
  have hb2 : Below w.heap.size w ((w.alloc (.cells #[.int .u32 0, .int .i64 0, .int .i64 0, .int .i64 0] 43)).alloc (.cells #[.int .u32 0, .int .i64 0, .int .i64 0, .int .i64 0] 43)) := hb1.alloc hb1.size _
  rw [show (w.alloc (.cells #[.int .u32 0, .int .i64 0, .int .i64 0, .int .i64 0] 43)).heap.size = w.heap.size + 1 by simp] at hr2
  clear hr1 hb1
  go_step3
  go_wp2_with fail
  go_loopg [7, 12] l.length (fun g f i wr => ∃ (k : Nat) (o : Option RuleT), k + g = l.length ∧ i = .int .i64 k ∧ Hid (o = findL (l.take k) a) ∧ f = .bool o.isSome ∧ VRow wr w.heap.size (rc rule0) ∧ VRow wr (w.heap.size + 1) (rc (bestOf o)) ∧ Below w.heap.size w wr)
  case atStart => exact ⟨0, none, by omega, rfl, Lib.hid (by simp [findL]), rfl, hr1', hr2, hb2⟩
  case round =>
    clear hr1' hr2 hb2
    obtain ⟨k, o, hk, rfl, HO, rfl, hR1, hR2, hbr⟩ := hrel
    have hkl : k ≤ l.length := by omega
    by_cases hlt : k < l.length
    · obtain ⟨b, off, hAe, hb, hc0, hc1, hc2, hc3⟩ := RulesAt.at_ hA hlt
      have hd0 := (hbr.cell (p := ⟨b, off + k * 4, none⟩) hb).trans hc0
      have hd1 := (hbr.cell (p := ⟨b, off + k * 4 + 1, none⟩) hb).trans hc1
      have hd2 := (hbr.cell (p := ⟨b, off + k * 4 + 2, none⟩) hb).trans hc2
      have hd3 := (hbr.cell (p := ⟨b, off + k * 4 + 3, none⟩) hb).trans hc3
      have hnx := find_next (a := a) hlt
      rw [← HO.out] at hnx
      obtain ⟨r, hr⟩ : ∃ r, r = l[k] := ⟨_, rfl⟩
      have hok : PreOk r := by rw [hr]; exact H.out _ (List.getElem_mem hlt)
      rw [← hr] at hd0 hd1 hd2 hd3 hnx
      have hho := fun W => holds_any r.a r.len a hok.1 ha hok.2 W
      have HA := Lib.hid hA
      obtain ⟨ra, rlen, ract, rnext⟩ := r
      simp only at hho hd0 hd1 hd2 hd3
      clear hc0 hc1 hc2 hc3 hr hA hok
      subst hAe
      have hsz1 := hR2.lt
      have hRb1 := hR1.below ((Below.refl _ _).alloc (Nat.le_refl _) (.cells #[.int .u32 (ra : Int), .int .i64 (rlen : Int), .int .i64 (ract : Int), .int .i64 (rnext : Int)] 43)) hR1.lt
      have hRb2 := hR2.below ((Below.refl _ _).alloc (Nat.le_refl _) (.cells #[.int .u32 (ra : Int), .int .i64 (rlen : Int), .int .i64 (ract : Int), .int .i64 (rnext : Int)] 43)) hR2.lt
      have hbb := hbr.alloc hbr.size (.cells #[.int .u32 (ra : Int), .int .i64 (rlen : Int), .int .i64 (ract : Int), .int .i64 (rnext : Int)] 43)
      cases hh : holdsB ra rlen a with
      | false =>
        rw [hh] at hho
        have hpk : pickR a o ⟨ra, rlen, ract, rnext⟩ = o := by unfold pickR; rw [hh]; rfl
        rw [hpk] at hnx
        have HNX := Lib.hid hnx
        have HHO := Lib.hid hho
        clear hnx hho hpk hh
        go_wp2_with (go_at_call 123; refine (HHO.out _).mono ?_; rintro e w' ⟨rfl, rfl⟩)
        go_roundg (l.length - (k + 1))
        case measure => omega
        case rel => exact ⟨k + 1, o, by omega, by go_num, Lib.hid HNX.out.symm, rfl, hRb1, hRb2, hbb⟩
      | true =>
        rw [hh] at hho
        have HHO := Lib.hid hho
        have hs0 := hR2.set4 (.int .u32 (ra : Int)) (.int .i64 (rlen : Int)) (.int .i64 (ract : Int)) (.int .i64 (rnext : Int))
        have ho0 := hR1.other4 (show w.heap.size + 1 ≠ w.heap.size by omega) (.int .u32 (ra : Int)) (.int .i64 (rlen : Int)) (.int .i64 (ract : Int)) (.int .i64 (rnext : Int))
        have hbs0 := below4 hbr (show w.heap.size ≤ w.heap.size + 1 by omega) (.int .u32 (ra : Int)) (.int .i64 (rlen : Int)) (.int .i64 (ract : Int)) (.int .i64 (rnext : Int))
        have hs := hs0.below ((Below.refl _ _).alloc (Nat.le_refl _) (.cells #[.int .u32 (ra : Int), .int .i64 (rlen : Int), .int .i64 (ract : Int), .int .i64 (rnext : Int)] 43)) hs0.lt
        have ho := ho0.below ((Below.refl _ _).alloc (Nat.le_refl _) (.cells #[.int .u32 (ra : Int), .int .i64 (rlen : Int), .int .i64 (ract : Int), .int .i64 (rnext : Int)] 43)) ho0.lt
        have hbs := hbs0.alloc hbs0.size (.cells #[.int .u32 (ra : Int), .int .i64 (rlen : Int), .int .i64 (ract : Int), .int .i64 (rnext : Int)] 43)
        clear hs0 ho0 hbs0
        have hq0 := hR2.cell 0 (by simp)
        have hq1 := hR2.cell 1 (by simp)
        have hq2 := hR2.cell 2 (by simp)
        have hq3 := hR2.cell 3 (by simp)
        have hf0 := hR2.free 0 (by simp)
        have hf1 := hR2.free 1 (by simp)
        have hf2 := hR2.free 2 (by simp)
        have hf3 := hR2.free 3 (by simp)
        simp only [List.getElem_cons_zero, List.getElem_cons_succ] at hq0 hq1 hq2 hq3
        have HS := Lib.hid hs
        have HOO := Lib.hid ho
        have HBS := Lib.hid hbs
        have HR1 := Lib.hid hRb1
        have HR2 := Lib.hid hRb2
        have HBB := Lib.hid hbb
        clear hho hs ho hbs hRb1 hRb2 hbb hR1 hR2
        cases o with
        | none =>
          have hpk : pickR a none ⟨ra, rlen, ract, rnext⟩ = some ⟨ra, rlen, ract, rnext⟩ := by unfold pickR; rw [hh]; rfl
          rw [hpk] at hnx
          have HNX := Lib.hid hnx
          clear hnx hpk hh
          go_wp2_with (go_at_call 123; refine (HHO.out _).mono ?_; rintro e w' ⟨rfl, rfl⟩)
          go_roundg (l.length - (k + 1))
          case measure => omega
          case rel => exact ⟨k + 1, _, by omega, by go_num, Lib.hid HNX.out.symm, rfl, HOO.out, HS.out, HBS.out⟩
        | some bo =>
          obtain ⟨ba, bl, bc, bn⟩ := bo
          simp only [bestOf, Option.getD_some, Option.isSome_some] at hq0 hq1 hq2 hq3 ⊢
          by_cases hle : rlen ≤ bl
          · have hpk : pickR a (some ⟨ba, bl, bc, bn⟩) ⟨ra, rlen, ract, rnext⟩ = some ⟨ba, bl, bc, bn⟩ := by unfold pickR; rw [hh]; simp [hle]
            rw [hpk] at hnx
            have HNX := Lib.hid hnx
            clear hnx hpk hh
            go_wp2_with (go_at_call 123; refine (HHO.out _).mono ?_; rintro e w' ⟨rfl, rfl⟩)
            go_roundg (l.length - (k + 1))
            case measure => omega
            case rel => exact ⟨k + 1, some ⟨ba, bl, bc, bn⟩, by omega, by go_num, Lib.hid HNX.out.symm, rfl, HR1.out, HR2.out, HBB.out⟩
          · have hpk : pickR a (some ⟨ba, bl, bc, bn⟩) ⟨ra, rlen, ract, rnext⟩ = some ⟨ra, rlen, ract, rnext⟩ := by unfold pickR; rw [hh]; simp [hle]
            rw [hpk] at hnx
            have HNX := Lib.hid hnx
            clear hnx hpk hh
            go_wp2_with (go_at_call 123; refine (HHO.out _).mono ?_; rintro e w' ⟨rfl, rfl⟩)
            go_roundg (l.length - (k + 1))
            case measure => omega
            case rel => exact ⟨k + 1, some ⟨ra, rlen, ract, rnext⟩, by omega, by go_num, Lib.hid HNX.out.symm, rfl, HOO.out, HS.out, HBS.out⟩
    · have ek : k = l.length := by omega
      have hfin := HO.out
      rw [ek, List.take_of_length_le (Nat.le_refl _)] at hfin
      have HFIN := Lib.hid hfin
      have hq0 := hR2.cell 0 (by simp)
      have hq1 := hR2.cell 1 (by simp)
      have hq2 := hR2.cell 2 (by simp)
      have hq3 := hR2.cell 3 (by simp)
      have hp0 := hR1.cell 0 (by simp)
      have hp1 := hR1.cell 1 (by simp)
      have hp2 := hR1.cell 2 (by simp)
      have hp3 := hR1.cell 3 (by simp)
      have hf0 := hR1.free 0 (by simp)
      have hf1 := hR1.free 1 (by simp)
      have hf2 := hR1.free 2 (by simp)
      have hf3 := hR1.free 3 (by simp)
      simp only [List.getElem_cons_zero, List.getElem_cons_succ] at hq0 hq1 hq2 hq3 hp0 hp1 hp2 hp3
      obtain ⟨bo, hbo⟩ : ∃ bo, bo = bestOf o := ⟨_, rfl⟩
      rw [← hbo] at hq0 hq1 hq2 hq3
      obtain ⟨ba, bl, bc, bn⟩ := bo
      simp only at hq0 hq1 hq2 hq3
      have hs := hR1.set4 (.int .u32 (ba : Int)) (.int .i64 (bl : Int)) (.int .i64 (bc : Int)) (.int .i64 (bn : Int))
      have hbs := below4 hbr (Nat.le_refl _) (.int .u32 (ba : Int)) (.int .i64 (bl : Int)) (.int .i64 (bc : Int)) (.int .i64 (bn : Int))
      have HS := Lib.hid hs
      have HBS := Lib.hid hbs
      have HBO := Lib.hid hbo
      clear hs hbs hfin hbo hR1 hR2 hbr ek
      go_wp2_with fail
      rw [Exit.noGoto_ret]
      have hz0 := HS.out.cell 0 (by simp)
      have hz1 := HS.out.cell 1 (by simp)
      have hz2 := HS.out.cell 2 (by simp)
      have hz3 := HS.out.cell 3 (by simp)
      simp only [List.getElem_cons_zero, List.getElem_cons_succ] at hz0 hz1 hz2 hz3
      refine bodyPost_ret (v := .tuple #[.agg #[.int .u32 (ba : Int), .int .i64 (bl : Int), .int .i64 (bc : Int), .int .i64 (bn : Int)], .bool o.isSome]) (by simp [results, Tryz.results102, go_sem, hz0, hz1, hz2, hz3]) rfl ⟨?_, HBS.out⟩
      rw [← HFIN.out, ← HBO.out]
end Go.Proofs.YtpjoefekhgmlhaaGreat.Tp
