/- CONTRACT: the least loop of a vector (graph.Loop). Condition: the slice reads as a row of numbers. · PLAIN LAWS of the ranks that are found from the ends on; and of who steps to whom. No program in sight. Conditions: the vector may be. -/
import Derived.Test.YtpjoefekhgmlhaaGreatMb02
import Derived.Deep.OwnRows
import Derived.WalkMore
namespace Go.Proofs.YtpjoefekhgmlhaaGreat.Gr
open Go.RowKit Mem

/-- A row of the call's own that holds the numbers ls. -/
def Row (w : World) (g : Nat) (ls : List Nat) : Prop := w.heap[g]? = some (.cells (ints (nats ls)).toArray 3 (0, 0))
theorem Row.cell {w : World} {g : Nat} {ls : List Nat} (h : Row w g ls) {x : Nat} (hx : x < ls.length) : w.cell? ⟨g, x, none⟩ = some (.int .i64 ((lab ls x : Nat) : Int)) := by
  rw [cell_of_row w g x _ 3 (0, 0) h, lab_at hx]
  simp [ints, nats, hx]
theorem Row.free {w : World} {g : Nat} {ls : List Nat} (h : Row w g ls) (x : Nat) : w.frozen? ⟨g, x, none⟩ = false := frozen_of_row w g x _ 3 h
theorem Row.set_ {w : World} {g : Nat} {ls : List Nat} (h : Row w g ls) (x a : Nat) : Row (w.setCell ⟨g, x, none⟩ (.int .i64 (a : Int))) g (ls.set x a) := by
  have := heap_setCell_same w g x _ 3 (.int .i64 (a : Int)) h
  unfold Row
  rw [this]
  congr 2
  apply Array.ext'
  simp [ints, nats, List.map_set]
theorem Row.below {B : Nat} {w w' : World} {g : Nat} {ls : List Nat} (h : Row w g ls) (hb : Below B w w') (hg : g < B) : Row w' g ls := (hb.block g hg).trans h
theorem Row.lt {w : World} {g : Nat} {ls : List Nat} (h : Row w g ls) : g < w.heap.size := by
  rcases Nat.lt_or_ge g w.heap.size with h' | h'
  · exact h'
  · unfold Row at h; rw [Array.getElem?_eq_none h'] at h; cases h
theorem Row.made (w : World) (n : Nat) : Row (w.alloc (.cells (madeCells #[.int .i64 0] n) 3)) w.heap.size (List.replicate n 0) := by
  unfold Row
  rw [heap_alloc_new]
  congr 2
  apply Array.ext'
  apply List.ext_getElem?
  intro i
  by_cases hi : i < n
  · simp [madeCells, ints, nats, Nat.mod_one, hi]
  · simp [madeCells, ints, nats, hi]
theorem errno_zero {v : List Int} (he : errno v = 0) : v.length ≤ 256 ∧ goodB v = true := by
  have hl : v.length ≤ 256 := by unfold errno at he; split at he <;> omega
  refine ⟨hl, ?_⟩
  unfold errno at he
  rw [if_neg (by omega)] at he
  cases h : goodB v with
  | true => rfl
  | false => rw [h] at he; simp at he
/-- A slice and an errno are told; the slice is new, and reads as l; nothing that was there has turned. -/
def PairPost (w : World) (l : List Int) (en : Int) (e : Ending) (w' : World) : Prop := ∃ R m, e = .returned (.tuple #[.slice R l.length m, .int .i64 en]) ∧ Lies w' R (ints l) ∧ Below w.heap.size w w'

def PairPostN (w : World) (l : List Int) (en : Int) (e : Ending) (w' : World) : Prop := ∃ R m, e = .returned (.tuple #[.slice R l.length m, .int .i64 en]) ∧ Lies w' R (ints l) ∧ Below w.heap.size w w' ∧ New w R
theorem loop_no (A : Option Addr) (c : Nat) (v : List Int) (w : World) (hA : Lies w A (ints v)) (hl : v.length ≤ 9223372036854775807) (he : errno v ≠ 0) :
    Calls Tryz.prog 18 #[.slice A v.length c] w fun e w' => e = .returned (.tuple #[.slice none 0 0, .int .i64 (errno v)]) ∧ w = w' := by
  have hc := Lib.hid (may_any A c v w hA hl)
  have t : (errno v != 0) = true := by simpa using he
  generalize errno v = en at *
  clear he
  go_enter Tryz.func18, Tryz.ntmps18
  go_wp2_with fail
  go_step3
  go_wp2_with (go_at_call 50; refine (hc.out).mono ?_; rintro e w' ⟨rfl, rfl⟩)
  rw [Exit.noGoto_ret]
  go_ret2
  exact ⟨rfl, rfl⟩

set_option maxRecDepth 100000 in
set_option maxHeartbeats 2000000 in
theorem loop_yesN (A : Option Addr) (c : Nat) (v : List Int) (w : World) (hA : Lies w A (ints v)) (he : errno v = 0) :
    Calls Tryz.prog 18 #[.slice A v.length c] w (PairPostN w (loopL v) 0) := by
  obtain ⟨hl, hg⟩ := errno_zero he
  have hc := (may_any A c v w hA (by omega))
  rw [he] at hc
  have HC := Lib.hid hc
  have HG := Lib.hid hg
  have hmk := run_make_row' (P := Tryz.prog) 29 3 (.int .i64 0) 8 Tryz.underlying29 int_info rfl .i64 .i64 v.length (by omega) (by omega)
  clear hc he hg
  go_enter Tryz.func18, Tryz.ntmps18
  go_wp2_with fail
  go_step3
  go_wp2_with (go_at_call 50; refine (HC.out).mono ?_; rintro e w' ⟨rfl, rfl⟩)
  clear hmk
  have hrow0 := Row.made w v.length
  have hb0 : Below w.heap.size w (w.alloc (.cells (madeCells #[.int .i64 0] v.length) 3)) := (Below.refl _ w).alloc (Nat.le_refl _) _
  go_step3
  go_wp2_with fail
  go_loopg [5, 20] v.length (fun gn m i wr => ∃ (k : Nat) (ls : List Nat) (l : Int), k + gn = v.length ∧ i = .int .i64 k ∧ m = .int .i64 l ∧ Row wr w.heap.size ls ∧ Lab v ls k ∧ Least v ls l ∧ Below w.heap.size w wr)
  case atStart => exact ⟨0, List.replicate v.length 0, -1, by omega, rfl, rfl, hrow0, ⟨by simp, fun x => by simp [lab, List.getElem?_replicate]; split <;> simp, fun x y h => absurd (by simp [lab, List.getElem?_replicate]; split <;> simp) h, fun x h => absurd h (by omega)⟩, .inl ⟨rfl, fun x h => absurd (by simp [lab, List.getElem?_replicate]; split <;> simp) h⟩, hb0⟩
  case round =>
    obtain ⟨k, ls, l, hk, rfl, rfl, hR, hL, hM, hbr⟩ := hrel
    have hkl : k ≤ v.length := by omega
    have HL := Lib.hid hL
    have HM := Lib.hid hM
    by_cases hlt : k < v.length
    · obtain ⟨wo, rfl⟩ : ∃ wo : World, wo = wr := ⟨_, rfl⟩
      have hp0 := Path.zero hL
      have HP0 := Lib.hid hp0
      clear hL hM hp0
      go_wp2_with fail
      go_loopg [8] (v.length + 1) (fun gi x wr => ∃ (i y : Nat) (ls' : List Nat), i + gi = v.length + 1 ∧ x = .int .i64 (y : Int) ∧ y < v.length ∧ iter v i k = some y ∧ Row wr w.heap.size ls' ∧ Path v ls k i ls' ∧ Below w.heap.size w wr)
      case atStart => exact ⟨0, k, ls, by omega, rfl, hlt, rfl, hR, HP0.out, hbr⟩
      case round =>
        obtain ⟨i, y, ls', hig, rfl, hy, hit, hRr, hP, hbi⟩ := hrel
        have hyl : y < ls'.length := by rw [hP.len]; exact hy
        have hcw := hRr.cell hyl
        have hfw := hRr.free y
        obtain ⟨b, off, rfl, hb, hcell0⟩ := hA.at_map hy
        have hgy := good_at HG.out hy
        obtain ⟨x, hx⟩ : ∃ x, x = v[y] := ⟨_, rfl⟩
        rw [← hx] at hcell0 hgy
        obtain ⟨hx1, hx2⟩ := hgy
        obtain ⟨q, hq⟩ : ∃ q, q = lab ls' y := ⟨_, rfl⟩
        rw [← hq] at hcw
        have HX := Lib.hid hx
        have HQ := Lib.hid hq
        have HIT := Lib.hid hit
        have HP := Lib.hid hP
        clear hx hq hit hP
        by_cases hq0 : q = 0
        · have tq : ((q : Int) == 0) = true := by simp [hq0]
          have hPs := Path.step HP.out HIT.out hy (by rw [← HQ.out, hq0])
          have hRs := hRr.set_ y (k + 1)
          have hbs := hbi.setCell (p := ⟨w.heap.size, y, none⟩) (Nat.le_refl _) (.int .i64 ((k + 1 : Nat) : Int))
          have hcell1 := (hbs.cell (p := ⟨b, off + y, none⟩) hb).trans hcell0
          have hbound := hPs.bound
          have HPS := Lib.hid hPs
          have HQ0 := Lib.hid hq0
          have ek : ((k + 1 : Nat) : Int) = (k : Int) + 1 := by omega
          rw [ek] at hRs hbs hcell1
          clear hPs hq0 ek hRr
          by_cases hneg : x = -1
          · have tn : (x == -1) = true := by simp [hneg]
            have hend : iter v (i + 1) k = none := by
              rw [iter_succ HIT.out]
              exact nxt_of_neg hy (by rw [← HX.out, hneg]; decide)
            have hL2 := HPS.out.done HL.out (fun z hz => by rw [hend] at hz; cases hz) (HPS.out.begun (.inl (by omega)))
            have hM2 := HPS.out.no_loop HL.out (.inl hend) HM.out
            have HL2 := Lib.hid hL2
            have HM2 := Lib.hid hM2
            have HN := Lib.hid hneg
            clear hend hL2 hM2 hneg
            go_wp2_with fail
            go_roundg (v.length - (k + 1))
            case measure => omega
            case rel => exact ⟨k + 1, _, l, by omega, by go_num, rfl, hRs, HL2.out, HM2.out, hbs⟩
          · have tn : (x == -1) = false := by simp [hneg]
            have hx0 : 0 ≤ x := by omega
            obtain ⟨z, rfl⟩ := Int.eq_ofNat_of_zero_le hx0
            have hzl : z < v.length := by omega
            have hnext : iter v (i + 1) k = some z := by
              rw [iter_succ HIT.out, nxt_of_nonneg hy (by rw [← HX.out]; omega), ← HX.out]; simp
            have HNX := Lib.hid hnext
            have HN := Lib.hid hneg
            clear hnext hneg
            go_wp2_with fail
            go_roundg (v.length - i)
            case measure => omega
            case rel => exact ⟨i + 1, z, _, by omega, rfl, hzl, HNX.out, hRs, HPS.out, hbs⟩
        · have tq : ((q : Int) == 0) = false := by simp; omega
          by_cases hold : q = k + 1
          · have to : ((q : Int) != (k : Int) + 1) = false := by simp; omega
            have hj : ∃ j, j < i ∧ iter v j k = some y := by
              rcases HP.out.cases (by rw [← HQ.out]; exact hq0) with h | h
              · have h1 := HP.out.old y h
                have h2 := HL.out.le y
                have h3 := HQ.out
                omega
              · exact h
            have hcy : Cyc v y := by
              obtain ⟨j, hj, e⟩ := hj
              exact HP.out.back hj HIT.out e
            have hi0 : 0 < i ∨ lab ls k ≠ 0 := .inl (by obtain ⟨j, hj, _⟩ := hj; omega)
            have hL2 := HP.out.done HL.out (fun z hz => by rw [HIT.out] at hz; injection hz with hz; rw [← hz, ← HQ.out]; exact hq0) (HP.out.begun hi0)
            have hM2 := fun lo => HP.out.loop HG.out hy hcy HIT.out (l := lo) (hm := HM.out)
            obtain ⟨rl, hrl⟩ : ∃ rl, rl = nats (ringOf v y) := ⟨_, rfl⟩
            have hr1 := round_any (some ⟨b, off, none⟩) c v wr (hA.keep hbi.size fun p hp => hbi.cell hp) hl HG.out y hy hcy
            rw [← hrl] at hr1
            have hr0 : 0 < rl.length := by rw [hrl]; simp [nats, ringOf]
            have hr2 : rl.length ≤ 256 := by
              obtain ⟨p, hp, hpn⟩ := hcy.per HG.out hy
              rw [hrl, ringOf_eq HG.out hy hcy hp hpn]
              simp [nats, ringTo_len]; omega
            have HR1 := Lib.hid hr1
            have HRL := Lib.hid hrl
            have HL2 := Lib.hid hL2
            have HM2 := Lib.hid hM2
            have HO := Lib.hid hold
            have HQ0 := Lib.hid hq0
            clear hL2 hM2 hold hq0 hi0 hj hr1 hrl hcy
            go_wp2_with fail
            refine (HR1.out).mono ?_
            rintro e w2 ⟨R, m2, rfl, hLR, hb2⟩
            have hR2 := hRr.below hb2 hRr.lt
            have hb2' := hbi.trans (hb2.mono hbi.size)
            go_wp2_with fail
            refine (min_any R m2 rl w2 hLR (by omega) hr0).mono ?_
            rintro e w3 ⟨lo, rfl, hlo, rfl⟩
            have hM3 := HM2.out lo (by have := hlo; rw [HRL.out] at this; exact this)
            have HM3 := Lib.hid hM3
            clear hM3
            by_cases hl1 : l = -1
            · have t1 : (l == -1) = true := by simp [hl1]
              have hif : (if l = -1 ∨ lo < l then lo else l) = lo := if_pos (.inl hl1)
              have HIF := Lib.hid hif
              have HL1 := Lib.hid hl1
              clear hif hl1
              go_wp2_with fail
              go_roundg (v.length - (k + 1))
              case measure => omega
              case rel => exact ⟨k + 1, _, lo, by omega, by go_num, rfl, hR2, HL2.out, by have := HM3.out; rw [HIF.out] at this; exact this, hb2'⟩
            · have t1 : (l == -1) = false := by simp [hl1]
              have HL1 := Lib.hid hl1
              by_cases hlt2 : lo < l
              · have hif : (if l = -1 ∨ lo < l then lo else l) = lo := if_pos (.inr hlt2)
                have HIF := Lib.hid hif
                clear hif hl1
                go_wp2_with fail
                go_roundg (v.length - (k + 1))
                case measure => omega
                case rel => exact ⟨k + 1, _, lo, by omega, by go_num, rfl, hR2, HL2.out, by have := HM3.out; rw [HIF.out] at this; exact this, hb2'⟩
              · have hif : (if l = -1 ∨ lo < l then lo else l) = l := if_neg (by rintro (h | h); exact hl1 h; exact hlt2 h)
                have HIF := Lib.hid hif
                clear hif hl1
                go_wp2_with fail
                go_roundg (v.length - (k + 1))
                case measure => omega
                case rel => exact ⟨k + 1, _, l, by omega, by go_num, rfl, hR2, HL2.out, by have := HM3.out; rw [HIF.out] at this; exact this, hb2'⟩
          · have to : ((q : Int) != (k : Int) + 1) = true := by simp; omega
            have hne : lab ls y ≠ 0 := by
              rcases HP.out.cases (by rw [← HQ.out]; exact hq0) with h | ⟨j, hj, e⟩
              · exact h
              · have := HP.out.new j y hj e
                rw [← HQ.out] at this
                exact absurd this hold
            have hi0 : 0 < i ∨ lab ls k ≠ 0 := by
              rcases Nat.eq_zero_or_pos i with h0 | h0
              · right
                have := HIT.out
                rw [h0] at this
                simp only [iter] at this
                injection this with this
                rw [this]; exact hne
              · exact .inl h0
            have hL2 := HP.out.done HL.out (fun z hz => by rw [HIT.out] at hz; injection hz with hz; rw [← hz, ← HQ.out]; exact hq0) (HP.out.begun hi0)
            have hM2 := HP.out.no_loop HL.out (.inr ⟨y, HIT.out, hne⟩) HM.out
            have HL2 := Lib.hid hL2
            have HM2 := Lib.hid hM2
            have HO := Lib.hid hold
            have HQ0 := Lib.hid hq0
            clear hL2 hM2 hold hq0 hne hi0
            go_wp2_with fail
            go_roundg (v.length - (k + 1))
            case measure => omega
            case rel => exact ⟨k + 1, _, l, by omega, by go_num, rfl, hRr, HL2.out, HM2.out, hbi⟩
    · have ek : k = v.length := by omega
      rw [ek] at hL
      have hfin := Least.all HG.out hL hM
      have HW := Lib.hid hR
      clear hL hM hR ek
      rcases hfin with ⟨rfl, hlo⟩ | ⟨cy, rfl, hcl, hcc, hlo⟩
      · have HLO := Lib.hid hlo
        clear hlo
        go_wp2_with fail
        rw [Exit.noGoto_ret]
        go_ret2
        have e : loopL v = [] := by unfold loopL; rw [HLO.out]; rfl
        exact ⟨none, 0, by rw [e]; rfl, by rw [e]; exact Lies.nil _ _, hbr, fun a ha => by cases ha⟩
      · have HLO := Lib.hid hlo
        have hr1 := round_anyN A c v wr (hA.keep hbr.size fun p hp => hbr.cell hp) hl HG.out cy hcl hcc
        rw [← hlo] at hr1
        have t1 : ((cy : Int) == -1) = false := by rw [beq_eq_false_iff_ne]; omega
        have HR1 := Lib.hid hr1
        have HCC := Lib.hid hcc
        clear hlo hr1 hcc
        go_wp2_with fail
        refine (HR1.out).mono ?_
        rintro e w2 ⟨R, m2, rfl, hLR, hb2, hnew⟩
        go_wp2_with fail
        rw [Exit.noGoto_ret]
        go_ret2
        exact ⟨R, m2, by simp [loopL], hLR, hbr.trans (hb2.mono hbr.size), fun a ha => Nat.le_trans hbr.size (hnew a ha)⟩
theorem loop_yes (A : Option Addr) (c : Nat) (v : List Int) (w : World) (hA : Lies w A (ints v)) (he : errno v = 0) :
    Calls Tryz.prog 18 #[.slice A v.length c] w (PairPost w (loopL v) 0) :=
  (loop_yesN A c v w hA he).mono fun _ _ ⟨R, m, h1, h2, h3, _⟩ => ⟨R, m, h1, h2, h3⟩
end Go.Proofs.YtpjoefekhgmlhaaGreat.Gr

namespace Go.Proofs.YtpjoefekhgmlhaaGreat.Gr

/-- Those of the first k nodes that step to x. -/
def predsTo (v : List Int) (x k : Nat) : List Nat := (List.range k).filter fun u => decide (nxt v u = some x)
def preds (v : List Int) (x : Nat) : List Nat := predsTo v x v.length
theorem mem_predsTo {v : List Int} {x k u : Nat} : u ∈ predsTo v x k ↔ u < k ∧ nxt v u = some x := by
  unfold predsTo; rw [List.mem_filter, List.mem_range]; simp
theorem predsTo_hit {v : List Int} {x k : Nat} (h : nxt v k = some x) : predsTo v x (k + 1) = predsTo v x k ++ [k] := by
  unfold predsTo; rw [List.range_succ, List.filter_append]; simp [h]
theorem predsTo_miss {v : List Int} {x k : Nat} (h : nxt v k ≠ some x) : predsTo v x (k + 1) = predsTo v x k := by
  unfold predsTo; rw [List.range_succ, List.filter_append]; simp [h]
theorem predsTo_le {v : List Int} {x : Nat} : ∀ {k m : Nat}, k ≤ m → (predsTo v x k).length ≤ (predsTo v x m).length
  | k, 0, h => by have : k = 0 := by omega
                  subst this; exact Nat.le_refl _
  | k, m + 1, h => by
    by_cases e : k = m + 1
    · subst e; exact Nat.le_refl _
    · have h1 := predsTo_le (v := v) (x := x) (show k ≤ m by omega)
      by_cases hh : nxt v m = some x
      · rw [predsTo_hit hh, List.length_append]; omega
      · rw [predsTo_miss hh]; exact h1
theorem predsTo_nodup (v : List Int) (x k : Nat) : (predsTo v x k).Nodup := List.nodup_range.filter _

/-- How many nodes step to a node below x. -/
def lowB (v : List Int) (x u : Nat) : Bool := match nxt v u with
  | some y => decide (y < x)
  | none => false
def off (v : List Int) (x : Nat) : Nat := ((List.range v.length).filter (lowB v x)).length
theorem filter_split (p q r : Nat → Bool) : ∀ (l : List Nat), (∀ a ∈ l, r a = (p a || q a)) → (∀ a ∈ l, ¬ (p a = true ∧ q a = true)) → (l.filter r).length = (l.filter p).length + (l.filter q).length
  | [], _, _ => rfl
  | a :: l, h, hd => by
    have h1 := h a (by simp)
    have h2 := hd a (by simp)
    have ih := filter_split p q r l (fun b hb => h b (by simp [hb])) (fun b hb => hd b (by simp [hb]))
    simp only [List.filter_cons, h1]
    cases hp : p a <;> cases hq : q a <;> simp_all <;> omega
theorem off_zero (v : List Int) : off v 0 = 0 := by
  unfold off
  have : (List.range v.length).filter (lowB v 0) = [] := by
    rw [List.filter_eq_nil_iff]
    intro u _
    unfold lowB
    split <;> simp
  rw [this]; rfl
theorem off_succ (v : List Int) (x : Nat) : off v (x + 1) = off v x + (preds v x).length := by
  unfold off preds predsTo
  refine filter_split _ _ _ _ (fun u _ => ?_) (fun u _ => ?_)
  · unfold lowB
    cases nxt v u with
    | none => simp
    | some y =>
      simp only [Option.some.injEq]
      by_cases h1 : y < x <;> by_cases h2 : y = x <;> simp [h1, h2] <;> omega
  · unfold lowB
    cases nxt v u with
    | none => simp
    | some y => simp; omega
theorem off_le (v : List Int) (x : Nat) : off v x ≤ v.length := by
  unfold off
  exact Nat.le_trans (List.length_filter_le _ _) (by simp)
theorem off_mono (v : List Int) : ∀ {x y : Nat}, x ≤ y → off v x ≤ off v y
  | x, 0, h => by
    have : x = 0 := by omega
    subst this; exact Nat.le_refl _
  | x, y + 1, h => by
    by_cases e : x = y + 1
    · subst e; exact Nat.le_refl _
    · have := off_mono v (show x ≤ y by omega)
      rw [off_succ]; omega
/-- The places of different nodes do not meet. -/
theorem off_apart {v : List Int} {x y a b : Nat} (ha : a < (preds v x).length) (hb : b < (preds v y).length) (h : off v x + a = off v y + b) : x = y := by
  rcases Nat.lt_trichotomy x y with h' | h' | h'
  · have := off_mono v (show x + 1 ≤ y by omega)
    rw [off_succ] at this; omega
  · exact h'
  · have := off_mono v (show y + 1 ≤ x by omega)
    rw [off_succ] at this; omega
theorem off_end (v : List Int) (x : Nat) : off v x + (preds v x).length ≤ v.length := by rw [← off_succ]; exact off_le v _

/-! ### ranks from the ends on -/
/-- D has been taken, Q waits, E is still to be put. -/
structure Kahn (v : List Int) (D Q E rs : List Nat) : Prop where
  len : rs.length = v.length
  nodup : (D ++ Q).Nodup
  lt : ∀ x ∈ D ++ Q, x < v.length
  rank : ∀ x ∈ D ++ Q, IsRank v (lab rs x) x
  from_ : ∀ x ∈ D ++ Q, nxt v x = none ∨ ∃ y ∈ D, nxt v x = some y
  ends : ∀ x, x < v.length → nxt v x = none → x ∈ D ++ Q
  into : ∀ x y, y ∈ D → nxt v x = some y → x ∈ D ++ Q ∨ x ∈ E
  enodup : E.Nodup
  pend : ∀ u ∈ E, u < v.length ∧ u ∉ D ++ Q ∧ ∃ y ∈ D, nxt v u = some y
theorem Kahn.take {v : List Int} {D Q rs : List Nat} {x : Nat} (h : Kahn v D (x :: Q) [] rs) (hg : goodB v = true) : Kahn v (D ++ [x]) Q (preds v x) rs := by
  have e : D ++ [x] ++ Q = D ++ x :: Q := by simp
  have hx : x ∈ D ++ x :: Q := by simp
  have hxD : x ∉ D := by
    have := h.nodup
    rw [List.nodup_append] at this
    intro hx
    exact this.2.2 x hx x (by simp) rfl
  refine ⟨h.len, by rw [e]; exact h.nodup, by rw [e]; exact h.lt, by rw [e]; exact h.rank, fun y hy => ?_, fun y hy hn => by rw [e]; exact h.ends y hy hn, fun y z hz hn => ?_, predsTo_nodup _ _ _, fun u hu => ?_⟩
  · rw [e] at hy
    rcases h.from_ y hy with h1 | ⟨z, hz, h1⟩
    · exact .inl h1
    · exact .inr ⟨z, List.mem_append_left _ hz, h1⟩
  · rcases List.mem_append.1 hz with hz | hz
    · rcases h.into y z hz hn with h1 | h1
      · rw [e]; exact .inl h1
      · cases h1
    · rw [List.mem_singleton] at hz
      subst hz
      exact .inr (mem_predsTo.2 ⟨(nxt_lt hg hn).1, hn⟩)
  · obtain ⟨hul, hun⟩ := mem_predsTo.1 hu
    refine ⟨hul, ?_, x, by simp, hun⟩
    rw [e]
    intro hin
    rcases h.from_ u hin with h1 | ⟨z, hz, h1⟩
    · rw [hun] at h1; cases h1
    · rw [hun] at h1; injection h1 with h1; subst h1; exact hxD hz
theorem Kahn.put {v : List Int} {D Q E rs : List Nat} {u x : Nat} (h : Kahn v D Q (u :: E) rs) (hx : x ∈ D) (hn : nxt v u = some x) : Kahn v D (Q ++ [u]) E (rs.set u (lab rs x + 1)) := by
  obtain ⟨hul, hnot, _⟩ := h.pend u (by simp)
  have e : D ++ (Q ++ [u]) = (D ++ Q) ++ [u] := by simp
  have hset : ∀ y, lab (rs.set u (lab rs x + 1)) y = if y = u then lab rs x + 1 else lab rs y := fun y => lab_set (by rw [h.len]; exact hul) _ _
  have hen := h.enodup
  rw [List.nodup_cons] at hen
  refine ⟨by simpa using h.len, ?_, ?_, ?_, ?_, fun y hy hyn => ?_, fun y z hz hyz => ?_, hen.2, fun w hw => ?_⟩
  · rw [e, List.nodup_append]
    refine ⟨h.nodup, by simp, fun a ha b hb => ?_⟩
    rw [List.mem_singleton] at hb
    subst hb
    rintro rfl
    exact hnot ha
  · rw [e]
    intro y hy
    rcases List.mem_append.1 hy with hy | hy
    · exact h.lt y hy
    · rw [List.mem_singleton] at hy; subst hy; exact hul
  · rw [e]
    intro y hy
    rw [hset]
    rcases List.mem_append.1 hy with hy' | hy
    · rw [if_neg (show ¬ y = u from fun e' => hnot (e' ▸ hy'))]
      exact h.rank y hy'
    · rw [List.mem_singleton] at hy
      subst hy
      rw [if_pos rfl]
      exact ⟨x, hn, h.rank x (List.mem_append_left _ hx)⟩
  · rw [e]
    intro y hy
    rcases List.mem_append.1 hy with hy | hy
    · exact h.from_ y hy
    · rw [List.mem_singleton] at hy
      subst hy
      exact .inr ⟨x, hx, hn⟩
  · rw [e]; exact List.mem_append_left _ (h.ends y hy hyn)
  · rw [e]
    rcases h.into y z hz hyz with h1 | h1
    · exact .inl (List.mem_append_left _ h1)
    · rcases List.mem_cons.1 h1 with rfl | h1
      · exact .inl (by simp)
      · exact .inr h1
  · obtain ⟨h1, h2, h3⟩ := h.pend w (by simp [hw])
    refine ⟨h1, ?_, h3⟩
    rw [e]
    intro hin
    rcases List.mem_append.1 hin with hin | hin
    · exact h2 hin
    · rw [List.mem_singleton] at hin
      subst hin
      exact hen.1 hw
/-- There is room for one more. -/
theorem Kahn.room {v : List Int} {D Q E rs : List Nat} {u : Nat} (h : Kahn v D Q (u :: E) rs) : D.length + Q.length < v.length := by
  obtain ⟨hul, hnot, _⟩ := h.pend u (by simp)
  have := nodup_len v.length (u :: (D ++ Q)) (by rw [List.nodup_cons]; exact ⟨hnot, h.nodup⟩) (by
    intro x hx
    rcases List.mem_cons.1 hx with rfl | hx
    · exact hul
    · exact h.lt x hx)
  simp at this
  omega
theorem Kahn.few {v : List Int} {D Q E rs : List Nat} (h : Kahn v D Q E rs) : D.length + Q.length ≤ v.length := by
  have := nodup_len v.length (D ++ Q) h.nodup h.lt
  simpa using this
theorem Kahn.ranked {v : List Int} {D rs : List Nat} (h : Kahn v D [] [] rs) (hg : goodB v = true) : ∀ {k x : Nat}, IsRank v k x → x ∈ D
  | 0, x, hx => by simpa using h.ends x hx.1 hx.2
  | k + 1, x, ⟨y, hy, hr⟩ => by
    have := h.into x y (h.ranked hg hr) hy
    simpa using this
theorem Kahn.end_no {v : List Int} {D rs : List Nat} (h : Kahn v D [] [] rs) (hg : goodB v = true) (hd : D.length < v.length) : allRanked v = false := by
  cases ha : allRanked v with
  | false => rfl
  | true =>
    exfalso
    rw [allRanked_iff hg] at ha
    have hall : ∀ x, x < v.length → x ∈ D := fun x hx => by
      obtain ⟨k, hk⟩ := ha x hx
      exact h.ranked hg hk
    obtain ⟨i, j, hij, hj, e⟩ := pigeon (n := D.length) (m := v.length) (fun x => D.idxOf x) (fun i hi => List.idxOf_lt_length_of_mem (hall i hi)) hd
    have h1 := List.getElem_idxOf (List.idxOf_lt_length_of_mem (hall i (by omega)))
    have h2 := List.getElem_idxOf (List.idxOf_lt_length_of_mem (hall j hj))
    have e' : D.idxOf i = D.idxOf j := e
    simp only [e'] at h1
    rw [h1] at h2
    omega
theorem Kahn.end_yes {v : List Int} {D rs : List Nat} (h : Kahn v D [] [] rs) (hg : goodB v = true) (hd : ¬ D.length < v.length) : allRanked v = true ∧ rs.map (fun x : Nat => (x : Int)) = ranksL v := by
  have hn : D.Nodup := by simpa using h.nodup
  have hlt : ∀ x ∈ D, x < v.length := fun x hx => h.lt x (by simpa using hx)
  have hall : ∀ x, x < v.length → x ∈ D := fun x hx => by
    by_cases hin : x ∈ D
    · exact hin
    · have := nodup_len v.length (x :: D) (by rw [List.nodup_cons]; exact ⟨hin, hn⟩) (by
        intro y hy
        rcases List.mem_cons.1 hy with rfl | hy
        · exact hx
        · exact hlt y hy)
      simp at this
      omega
  refine ⟨(allRanked_iff hg).2 fun x hx => ⟨_, h.rank x (by simpa using hall x hx)⟩, ?_⟩
  unfold ranksL
  apply List.ext_getElem
  · simp [h.len]
  · intro i h1 h2
    simp at h1
    have hi : i < v.length := by rw [← h.len]; exact h1
    have := rankOf_eq hg (h.rank i (by simpa using hall i hi))
    rw [lab_at h1] at this
    simp [this]
end Go.Proofs.YtpjoefekhgmlhaaGreat.Gr
