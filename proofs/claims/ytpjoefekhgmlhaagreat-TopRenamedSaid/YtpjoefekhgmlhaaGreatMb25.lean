/- CONTRACTS: cover.points, cover.All, out of what cuts.Of tells. · CONTRACT of cuts.Of: where something may change. Conditions: a network that may be; what slices.Sort is known to sort. -/
import Derived.Test.YtpjoefekhgmlhaaGreatMb24
import Derived.Test.YtpjoefekhgmlhaaGreatMb10
import Derived.Maps.OwnOps
import Derived.Maps.Views
namespace Go.Proofs.YtpjoefekhgmlhaaGreat.Tp
open Go.RowKit Mem

/-- What cuts.Of tells of a network: some numbers, by whatever slice. -/
def CutsOf (net : List (List RuleT)) (l : List Nat) : Prop := ∀ (A : Option Addr) (c : Nat) (w : World), NetAt w A net → Calls Tryz.prog 46 #[.agg #[.slice A net.length c]] w (U32Post w l)
def PtsPost (w : World) (ls : List (List Nat)) (e : Ending) (w' : World) : Prop := ∃ R m, e = .returned (.slice R ls.length m) ∧ RowsAt w' R ls ∧ Below w.heap.size w w'
theorem points_next {l : List Nat} {ps : List PartT} {k : Nat} (h : k < ps.length) : pointsL l (ps.take (k + 1)) = pointsL l (ps.take k) ++ [insideL l ps[k].f ps[k].t] := by
  unfold pointsL; rw [List.take_succ_eq_append_getElem h, List.map_append]; rfl

set_option maxRecDepth 100000 in
set_option maxHeartbeats 1000000 in
theorem points_any (N A : Option Addr) (cN cA : Nat) (net : List (List RuleT)) (l : List Nat) (ps : List PartT) (w : World) (hc : CutsOf net l) (hN : NetAt w N net) (hA : PartsAt w A ps) (hl : l.length ≤ 1000000) (hb : ∀ a ∈ l, a < 4294967296) (hps : ps.length ≤ 8193) :
    Calls Tryz.prog 100 #[.agg #[.slice N net.length cN], .slice A ps.length cA] w (PtsPost w (pointsL l ps)) := by
  have hb0 : Below w.heap.size w (w.alloc (.cells #[.slice N net.length cN] 24)) := (Below.refl _ _).alloc (Nat.le_refl _) _
  have hcu := hc N cN _ (hN.below hb0)
  have hin := fun B k lo hi W (hW : Lies W B (u32s l)) => inside_any B k lo hi l W hW hl hb
  have hmk := run_make_room (P := Tryz.prog) 118 39 (.slice none 0 0) 24 Tryz.underlying118 rows_info rfl .i64 .i64 ps.length (by omega) (by omega)
  have hmown := fun (W : World) => World.ownsRow_made W (madeCells #[.slice none 0 0] ps.length) ps.length (e := 39) (size := 1) (base := W.heap.size) (Nat.le_refl W.heap.size) (by simp only [maxLen]; omega) (by simp [madeCells])
  have HCU := Lib.hid hcu
  have HB0 := Lib.hid hb0
  have HIN := Lib.hid hin
  have HM := Lib.hid hmown
  have HA := Lib.hid hA
  have HN := Lib.hid hN
  clear hc hcu hb0 hin hmown hA hN hb
  go_enter Tryz.func100, Tryz.ntmps100
  go_wp2_with fail
  refine (HCU.out).mono ?_
  rintro e w2 ⟨R, m, rfl, hR, hb2, hm1, hm2, _⟩
  have hb2w := HB0.out.trans (hb2.mono HB0.out.size)
  obtain ⟨mk, hmkd⟩ : ∃ mk, mk = Obj.cells (madeCells #[.slice none 0 0] ps.length) 39 := ⟨_, rfl⟩
  have hown0 := HM.out w2
  rw [← hmkd] at hmk hown0
  have hbm2 : Below w2.heap.size w2 (w2.alloc mk) := (Below.refl _ _).alloc (Nat.le_refl _) _
  have HBM2 := Lib.hid hbm2
  have HOWN := Lib.hid hown0
  have HR := Lib.hid hR
  have HB2W := Lib.hid hb2w
  clear hb2 hb2w hmkd hown0 hR HM HB0 HCU hbm2
  go_wp2_with fail
  clear hmk
  go_loopw [6, 16] (fun s i wr => ∃ (k : Nat) (S : Option Addr) (cp : Nat) (vs : List Value), k ≤ ps.length ∧ i = .int .i64 k ∧ s = .slice S k cp ∧ wr.ownsRow w2.heap.size 39 1 (.slice S k cp) k vs ∧ RowsU wr (Value.slice S k cp).ownBlock vs (pointsL l (ps.take k)) ∧ Below w2.heap.size w2 wr) (fun _ i _ => ps.length - (intOf i).toNat)
  case atStart => exact ⟨0, _, _, [], by omega, rfl, rfl, HOWN.out, ⟨by simp [pointsL], fun i hi => absurd hi (by simp [pointsL])⟩, HBM2.out⟩
  case round =>
    clear HOWN HBM2
    obtain ⟨k, S, cp, vs, hk, rfl, rfl, hown, hrows, hbr⟩ := hrel
    have hbrw := HB2W.out.trans (hbr.mono HB2W.out.size)
    by_cases hlt : k < ps.length
    · obtain ⟨b, off, R', cR, hAe, hbb, hc0, hc1, hc2, -, -⟩ := HA.out.at_ hlt
      have hk0 := (hbrw.cell (p := ⟨b, off + k * 3, none⟩) hbb).trans hc0
      have hk1 := (hbrw.cell (p := ⟨b, off + k * 3 + 1, none⟩) hbb).trans hc1
      have hk2 := (hbrw.cell (p := ⟨b, off + k * 3 + 2, none⟩) hbb).trans hc2
      have hnx := points_next (l := l) hlt
      obtain ⟨p, hp⟩ : ∃ p, p = ps[k] := ⟨_, rfl⟩
      rw [← hp] at hk0 hk1 hk2 hnx
      obtain ⟨w3, hw3⟩ : ∃ w3, w3 = wr.alloc (.cells #[.int .u32 (p.f : Int), .int .u32 (p.t : Int), .slice R' p.ranks.length cR] 51) := ⟨_, rfl⟩
      have hal : Below wr.heap.size wr w3 := by rw [hw3]; exact (Below.refl _ _).alloc (Nat.le_refl _) _
      have hb3 : Below w2.heap.size w2 w3 := hbr.trans (hal.mono hbr.size)
      have hin := HIN.out R m p.f p.t w3 (HR.out.below hb3)
      have hown3 := own_below hown hal
      have hrows3 := hrows.below hal
      have hgo : ∀ g, (Value.slice S k cp).ownBlock = some g → g < w3.heap.size := fun g hg => (hown3.lt g hg).2
      have hkn : k = vs.length := by have := hown.1; omega
      have hvl := hrows.1
      rw [hw3] at hin
      have HINN := Lib.hid hin
      have HOW3 := Lib.hid hown3
      have HRW3 := Lib.hid hrows3
      have HB3 := Lib.hid hb3
      have HGO := Lib.hid hgo
      have HW3 := Lib.hid hw3
      have HNX := Lib.hid hnx
      have HAA := Lib.hid HA.out
      have HKN := Lib.hid hkn
      have HVL := Lib.hid hvl
      clear hc0 hc1 hc2 hp hal hb3 hin hown3 hrows3 hgo hw3 hnx hown hrows hbr hbrw hkn hvl
      subst hAe
      go_wp2_with fail
      rw [← HW3.out] at HINN ⊢
      refine (HINN.out).mono ?_
      rintro e w4 ⟨R4, m4, rfl, hL4, hb4, hm4, hm4', hnew4⟩
      have hown4 := own_below HOW3.out hb4
      have hrows4 := HRW3.out.below hb4
      have hheld4 : Held w4 (Value.slice S k cp).ownBlock R4 (u32s (insideL l p.f p.t)) := Held.fresh hL4 hnew4 HGO.out
      have hb4w := HB3.out.trans (hb4.mono HB3.out.size)
      obtain ⟨L, hL⟩ : ∃ L, L = (insideL l p.f p.t).length := ⟨_, rfl⟩
      rw [← hL]
      have hal : Below w4.heap.size w4 (w4.alloc (.cells #[.slice R4 L m4] 39)) := (Below.refl _ _).alloc (Nat.le_refl _) _
      have hown5 := own_below hown4 hal
      have hrows5 := hrows4.below hal
      have hheld5 := hheld4.below hal
      have hb5w := hb4w.trans (hal.mono hb4w.size)
      have hone := Lies.new w4 #[.slice R4 L m4] 39
      have hsn := hrows5.snoc (c := m4) hheld5
      rw [← hL, ← HNX.out] at hsn
      have HSN := Lib.hid hsn
      have HONE := Lib.hid hone
      have HB5 := Lib.hid hb5w
      have hkk : k ≤ 8193 := by omega
      clear hown4 hrows4 hheld4 hb4w hal hrows5 hheld5 hb5w hone hL hL4 hb4 hm4 hm4' hnew4 hsn HINN
      go_wp2_with (at_builtin; refine wpList_appN rfl (.tmp 20) (.tmp 27) _ rfl Tryz.underlying118 rows_info rfl (by omega) (by omega) w2 _ HB5.out _ _ _ _ rfl hown5 _ 1 1 _ rfl rfl HONE.out (by intro u hu; simp at hu; subst hu; rfl) (by omega) ?_; intro S6 c6 w6 hown6 hc6 hc6' hb6 hg6 hat6)
      go_roundw
      case rel => exact ⟨k + 1, S6, c6, _, by omega, by go_num, rfl, hown6, HSN.out.step hg6 hat6, hb6⟩
      case measure => simp [intOf]; omega
    · have ek : k = ps.length := by omega
      subst ek
      rw [List.take_of_length_le (Nat.le_refl _)] at hrows
      go_wp2_with fail
      go_ret
      refine ⟨S, cp, ret_slice (by simp [pointsL]), ⟨vs, .of_own hown, ?_⟩, hbrw⟩
      exact ⟨hrows.1, fun i hi => by
        obtain ⟨B, c, e, hh⟩ := hrows.2 i hi
        exact ⟨B, c, e, hh.none⟩⟩
end Go.Proofs.YtpjoefekhgmlhaaGreat.Tp

namespace Go.Proofs.YtpjoefekhgmlhaaGreat.Tp
open Go.RowKit Mem

theorem wpList_insert_own {H : Type} {P : Program} (w : World) {ops : Array Oper} {rest : List Oper} {o : Oper} {a : Act} {Q : Exit → Act → World → Prop}
    (hg : o.guard = none) (m x v : Operand) (t : TypeId) (hop : o.op = Op.insert t m x v)
    (k e : TypeId) (K : Go.Maps.Keyed P k) (ht : P.underlying t = some (.map k e)) (R : Value → Option (DataW H × List MemPlace)) (b n : Nat) (D : DataW H)
    (hm : a.eval m = .map (some b)) (hown : w.ownsMap P k R b n D) (hn : n < maxLen) (key val : Value) (kl : Lit) (hx : a.eval x = key) (hv : a.eval v = val) (hkey : keyOf P k key = some kl)
    (d : DataW H) (ps : List MemPlace) (hval : R val = some (d, ps))
    (hK : ∀ w', w'.ownsMap P k R b (n + 1) (D.put kl d) → w.grownBy w' (some b) → wpList P ops Q rest (a.put o.dst undef) w') :
    wpList P ops Q (o :: rest) a w := by
  refine wpList_plain hg fun K' hK' => ?_
  obtain ⟨w', hrun, r1, r2⟩ := hown.update K ht hn hkey hval
  unfold Oper.wp
  simp [execOp, hop, hm, hx, hv, hrun, Result.andThen]
  exact hK' _ _ (hK w' r1 r2)
theorem map_below {H : Type} {P : Program} {k : TypeId} {R : Value → Option (DataW H × List MemPlace)} {w w' : World} {b n : Nat} {D : DataW H} (h : w.ownsMap P k R b n D) (hb : RowKit.Below w.heap.size w w') : w'.ownsMap P k R b n D := by
  have hbl := h.lt
  obtain ⟨es, clock, hh, F, hs, hD⟩ := h
  exact ⟨es, clock, (hb.block b hbl).trans hh, F, hs, hD⟩

/-- Each number once. -/
def dedN : List Nat → List Nat
  | [] => []
  | x :: l => if x ∈ dedN l then dedN l else x :: dedN l
theorem mem_dedN {l : List Nat} {y : Nat} : y ∈ dedN l ↔ y ∈ l := by
  induction l with
  | nil => simp [dedN]
  | cons x l ih =>
    unfold dedN
    split
    · rename_i h
      rw [ih, List.mem_cons]
      constructor
      · exact .inr
      · rintro (rfl | h2)
        · exact ih.1 h
        · exact h2
    · rw [List.mem_cons, List.mem_cons, ih]
theorem nodup_dedN (l : List Nat) : (dedN l).Nodup := by
  induction l with
  | nil => exact List.nodup_nil
  | cons x l ih =>
    unfold dedN
    split
    · exact ih
    · rename_i h
      exact List.nodup_cons.2 ⟨h, ih⟩
/-- The points that a rule, a table, a network make. -/
def ptsR (r : RuleT) : List Nat := lowN r.a r.len :: (if highN r.a r.len = 4294967295 then [] else [highN r.a r.len + 1])
def ptsT (l : List RuleT) : List Nat := l.flatMap ptsR
def ptsN (net : List (List RuleT)) : List Nat := 0 :: net.flatMap ptsT
def cutsL (net : List (List RuleT)) : List Nat := (dedN (ptsN net)).mergeSort fun x y => decide (x ≤ y)
/-- The map has just these keys. -/
structure HasAt (D : DataW Unit) (l : List Nat) : Prop where
  map : Go.Maps.IsMap D
  has : ∀ x : Int, Go.Maps.has D (.int .u32 x) = true ↔ ∃ n ∈ l, x = (n : Int)
theorem HasAt.put {D : DataW Unit} {l : List Nat} (h : HasAt D l) (x : Nat) (d : DataW Unit) : HasAt (D.put (.int .u32 (x : Int)) d) (l ++ [x]) := by
  refine ⟨h.map.put _ _, fun y => ?_⟩
  by_cases e : y = (x : Int)
  · subst e
    rw [Go.Maps.has_put_same h.map (by trivial)]
    simp
  · rw [Go.Maps.has_put_other (by intro e2; injection e2 with _ e2; exact e e2), h.has y]
    constructor
    · rintro ⟨n, hn, rfl⟩; exact ⟨n, by simp [hn], rfl⟩
    · rintro ⟨n, hn, rfl⟩
      rcases List.mem_append.1 hn with h1 | h1
      · exact ⟨n, h1, rfl⟩
      · simp at h1; subst h1; exact absurd rfl e
theorem cuts_perm {D : DataW Unit} {net : List (List RuleT)} (h : HasAt D (ptsN net)) {ss : List Int} (hs : So.KeysCame D ss) : ss.Perm ((dedN (ptsN net)).map fun n : Nat => (n : Int)) := by
  refine (List.perm_ext_iff_of_nodup hs.1 ?_).2 fun x => ?_
  · refine List.pairwise_map.2 ((nodup_dedN _).imp ?_)
    intro a b hne e
    exact hne (by omega)
  · rw [hs.2 x, h.has x, List.mem_map]
    constructor
    · rintro ⟨n, hn, rfl⟩; exact ⟨n, by simpa [mem_dedN] using hn, rfl⟩
    · rintro ⟨n, hn, rfl⟩; exact ⟨n, by simpa [mem_dedN] using hn, rfl⟩
theorem cuts_sorted {net : List (List RuleT)} {ss : List Int} (h : ss.Perm ((dedN (ptsN net)).map fun n : Nat => (n : Int))) : ss.mergeSort So.leZ = (cutsL net).map fun n : Nat => (n : Int) := by
  have tr : ∀ a b c : Int, So.leZ a b = true → So.leZ b c = true → So.leZ a c = true := fun a b c h1 h2 => by simp only [So.leZ, decide_eq_true_eq] at *; omega
  have tot : ∀ a b : Int, (So.leZ a b || So.leZ b a) = true := fun a b => by simp only [So.leZ, Bool.or_eq_true, decide_eq_true_eq]; omega
  have trn : ∀ a b c : Nat, decide (a ≤ b) = true → decide (b ≤ c) = true → decide (a ≤ c) = true := fun a b c h1 h2 => by simp only [decide_eq_true_eq] at *; omega
  have ton : ∀ a b : Nat, (decide (a ≤ b) || decide (b ≤ a)) = true := fun a b => by simp only [Bool.or_eq_true, decide_eq_true_eq]; omega
  refine List.Perm.eq_of_pairwise (le := fun a b => So.leZ a b = true) (fun a b _ _ h1 h2 => ?_) (List.pairwise_mergeSort tr tot ss) ?_ ?_
  · simp only [So.leZ, decide_eq_true_eq] at h1 h2; omega
  · refine List.pairwise_map.2 ((List.pairwise_mergeSort trn ton (dedN (ptsN net))).imp ?_)
    intro a b hab
    simp only [decide_eq_true_eq] at hab
    simp only [So.leZ, decide_eq_true_eq]
    omega
  · exact ((List.mergeSort_perm ss _).trans h).trans ((List.mergeSort_perm (dedN (ptsN net)) _).symm.map _)
theorem mapu : Tryz.prog.underlying 157 = some (.map 25 4) := by kernel_rfl
theorem keyu (x : Nat) (hx : x < 4294967296) : keyOf Tryz.prog 25 (.int .u32 (x : Int)) = some (.int .u32 (x : Int)) := Go.Maps.keyOf_int_mk Tryz.underlying25 (by simp [Lit.wf, IntKind.min, IntKind.max, IntKind.bits, IntKind.signed]; omega)
theorem keys_call (mb : Nat) (w : World) : Calls Tryz.prog 87 #[.map (some mb)] w fun e w' => e = .returned (.func (.func 119) #[] #[.pointer (some ⟨w.heap.size, 0, none⟩)]) ∧ w' = w.alloc (.cells #[.map (some mb)] 157) := by
  have hmf : ∀ (fn : Fn) (first cap : Array Value) (w : World), (Instr.makeFunc fn first cap).run Tryz.prog w = .ok (.func fn first cap) w := fun _ _ _ _ => rfl
  go_enter Tryz.func87, Tryz.ntmps87
  go_wp2_with fail
  go_ret
  exact ⟨rfl, rfl⟩
/-- The points of so many nodes. -/
def ptsTo (net : List (List RuleT)) (k : Nat) : List Nat := 0 :: (net.take k).flatMap ptsT
theorem ptsTo_next {net : List (List RuleT)} {k : Nat} (h : k < net.length) : ptsTo net (k + 1) = ptsTo net k ++ ptsT net[k] := by
  unfold ptsTo; rw [List.take_succ_eq_append_getElem h, List.flatMap_append]; simp
theorem ptsT_next {l : List RuleT} {j : Nat} (h : j < l.length) : ptsT (l.take (j + 1)) = ptsT (l.take j) ++ ptsR l[j] := by
  unfold ptsT; rw [List.take_succ_eq_append_getElem h, List.flatMap_append]; simp
theorem cutHigh_lt {x n : Nat} (hx : x < 4294967296) (hn : n ≤ 32) : highN x n < 4294967296 := by
  unfold highN
  have h1 := wid_le n (by omega)
  have h2 := wid_pos n
  have h3 : wid n ∣ 4294967296 := by
    unfold wid
    exact ⟨2 ^ n, by rw [← Nat.pow_add, show 32 - n + n = 32 by omega]⟩
  obtain ⟨m, hm⟩ := h3
  have h4 : x / wid n < m := by
    rw [Nat.div_lt_iff_lt_mul h2, Nat.mul_comm, ← hm]; exact hx
  have h5 : (x / wid n + 1) * wid n ≤ m * wid n := Nat.mul_le_mul_right _ h4
  rw [Nat.add_mul, Nat.mul_comm m, ← hm] at h5
  omega
theorem cutLow_lt {x n : Nat} (hx : x < 4294967296) : lowN x n < 4294967296 := Nat.lt_of_le_of_lt (Nat.div_mul_le_self _ _) hx

set_option maxRecDepth 100000 in
set_option maxHeartbeats 4000000 in
theorem cuts_any (M : Nat) (hM : So.SortsTo M) (N : Option Addr) (cN : Nat) (net : List (List RuleT)) (w : World) (hN : NetAt w N net) (h : NetOk net) (hfew : (cutsL net).length ≤ M) :
    Calls Tryz.prog 46 #[.agg #[.slice N net.length cN]] w (U32Post w (cutsL net)) := by
  have hnn := h.nodes
  have hrr := h.rules
  obtain ⟨wa, hwa⟩ : ∃ wa, wa = w.alloc (.cells #[.slice N net.length cN] 24) := ⟨_, rfl⟩
  obtain ⟨wb, hwb⟩ : ∃ wb, wb = wa.alloc (.map #[] 0) := ⟨_, rfl⟩
  have sa : wa.heap.size = w.heap.size + 1 := by rw [hwa]; simp
  have sb : wb.heap.size = w.heap.size + 1 + 1 := by rw [hwb]; simp [sa]
  have ba : Below w.heap.size w wa := by rw [hwa]; exact (Below.refl _ _).alloc (Nat.le_refl _) _
  have bb : Below wa.heap.size wa wb := by rw [hwb]; exact (Below.refl _ _).alloc (Nat.le_refl _) _
  have hown0 : wb.ownsMap Tryz.prog 25 (plainElem (H := Unit) Tryz.prog 4) (w.heap.size + 1) 0 (.map []) := by rw [hwb, ← sa]; exact World.ownsMap_made _ _ _ _
  have hset0 : HasAt (.map [] : DataW Unit) [] := ⟨⟨[], rfl⟩, fun x => by simp [Go.Maps.has]⟩
  have hx0 : wb.cell? ⟨w.heap.size, 0, none⟩ = some (.slice N net.length cN) := (bb.cell (p := ⟨w.heap.size, 0, none⟩) (by rw [sa]; exact Nat.lt_succ_self _)).trans (by rw [hwa, cell_of_row _ _ 0 _ _ (0, 0) (heap_alloc_new w _)]; rfl)
  have hb1 : Below w.heap.size w wb := ba.trans (bb.mono ba.size)
  have hmm := @run_makeMap Tryz.prog
  have g0 : w.heap.size < wb.heap.size := by omega
  rw [hwa] at hwb
  have HW := Lib.hid hwb
  have HN := Lib.hid hN
  have H := Lib.hid h
  have HM := Lib.hid hM
  have HFEW := Lib.hid hfew
  have HB1 := Lib.hid hb1
  have HX0 := Lib.hid hx0
  have HSET := Lib.hid hset0
  have hk0 := keyu 0 (by omega)
  rw [show ((0 : Nat) : Int) = 0 from rfl] at hk0
  have HK0 := Lib.hid hk0
  have HO0 := Lib.hid hown0
  rw [hwb] at hown0
  clear hwa hwb sa sb ba bb hN h hM hfew hb1 hx0 hset0 hk0
  go_enter Tryz.func46, Tryz.ntmps46
  go_wp2_with (refine wpList_insert_own _ rfl _ _ _ 157 rfl 25 4 (Go.Maps.int_keyed Tryz.underlying25) mapu (plainElem Tryz.prog 4) (w.heap.size + 1) 0 _ rfl hown0 (by unfold maxLen; omega) _ _ _ rfl rfl HK0.out _ [] (plainElem_bool Tryz.underlying4 true) ?_; intro w3 hown3 hg3; rw [← HW.out] at hg3; have hx3 : w3.cell? ⟨w.heap.size, 0, none⟩ = some (.slice N net.length cN) := (World.cell?_of_block (w := wb) (hg3.block _ g0 (by intro e; injection e with e; have e' : w.heap.size = w.heap.size + 1 := e; omega))).trans HX0.out; clear hown0)
  clear hmm
  have hb3 := HB1.out.grown hg3 HB1.out.size (fun g e => by injection e with e; omega)
  have hs3 := HSET.out.put 0 (.lit (.bool true))
  rw [show ((0 : Nat) : Int) = 0 from rfl, show ([] ++ [0] : List Nat) = ptsTo net 0 by simp [ptsTo]] at hs3
  have g3 : w.heap.size + 1 < w3.heap.size := Nat.lt_of_lt_of_le HO0.out.lt hg3.size
  have HO3 := Lib.hid hown3
  have HB3 := Lib.hid hb3
  have HS3 := Lib.hid hs3
  clear hg3 hown3 hb3 hs3 HSET HB1 HO0 HX0 HK0 HW hx3
  go_loopw [15] (fun i wr => ∃ (k n : Nat) (D : DataW Unit), k ≤ net.length ∧ i = .int .i64 k ∧ Hid (wr.ownsMap Tryz.prog 25 (plainElem Tryz.prog 4) (w.heap.size + 1) n D) ∧ Hid (HasAt D (ptsTo net k)) ∧ n ≤ 1 + 2 * sizeTo net k ∧ Hid (Below w.heap.size w wr) ∧ w.heap.size + 1 < wr.heap.size) (fun i _ => net.length - (intOf i).toNat)
  case atStart => exact ⟨0, 1, _, by omega, rfl, HO3, HS3, by simp [sizeTo], HB3, g3⟩
  case round =>
    clear HO3 HB3 HS3 g3
    obtain ⟨k, n, D, hk, rfl, HO, HS, hn, HB, hgr⟩ := hrel
    by_cases hlt : k < net.length
    · obtain ⟨b, off, B, c, hAe, hbb, hc0, hrl, -, -⟩ := (HN.out).at_ hlt
      have hk0 := (HB.out.cell (p := ⟨b, off + k, none⟩) hbb).trans hc0
      have hmem := List.getElem_mem hlt
      have hpre := H.out.pre hmem
      have hnx := ptsTo_next hlt
      have hsn := sizeTo_next hlt
      have hsl := sizeTo_le net (k + 1)
      obtain ⟨l, hl⟩ : ∃ l, l = net[k] := ⟨_, rfl⟩
      rw [← hl] at hk0 hrl hpre hnx hsn
      obtain ⟨wo, rfl⟩ : ∃ wo : World, wo = wr := ⟨_, rfl⟩
      have hll : l.length ≤ 4096 := by omega
      have HRL := Lib.hid hrl
      have HPRE := Lib.hid hpre
      have HNX := Lib.hid hnx
      have HSN : Hid (sizeTo net (k + 1) = sizeTo net k + l.length ∧ sizeTo net (k + 1) ≤ 4096) := Lib.hid ⟨hsn, by omega⟩
      have hsk : sizeTo net k ≤ 4096 := by omega
      have HS0 : Hid (HasAt D (ptsTo net k ++ ptsT (l.take 0))) := Lib.hid (by simpa [ptsT] using HS.out)
      clear hc0 hrl hmem hpre hnx hsn hsl hl HS
      subst hAe
      go_wp2_with fail
      clear hk0
      go_loopw [21] (fun i wr => ∃ (j m : Nat) (E : DataW Unit), j ≤ l.length ∧ i = .int .i64 j ∧ Hid (wr.ownsMap Tryz.prog 25 (plainElem Tryz.prog 4) (w.heap.size + 1) m E) ∧ Hid (HasAt E (ptsTo net k ++ ptsT (l.take j))) ∧ m ≤ 1 + 2 * (sizeTo net k + j) ∧ Hid (Below w.heap.size w wr) ∧ w.heap.size + 1 < wr.heap.size) (fun i _ => l.length - (intOf i).toNat)
      case atStart => exact ⟨0, n, D, by omega, rfl, HO, HS0, by omega, HB, hgr⟩
      case round =>
        clear HO HS0 HB hgr
        obtain ⟨j, m, E, hj, rfl, HO, HS, hm, HB, hgr⟩ := hrel
        by_cases hlj : j < l.length
        · obtain ⟨b2, off2, hBe, hbb2, hd0, hd1, hd2, hd3⟩ := HRL.out.at_ hlj
          have hj0 := (HB.out.cell (p := ⟨b2, off2 + j * 4, none⟩) hbb2).trans hd0
          have hj1 := (HB.out.cell (p := ⟨b2, off2 + j * 4 + 1, none⟩) hbb2).trans hd1
          have hj2 := (HB.out.cell (p := ⟨b2, off2 + j * 4 + 2, none⟩) hbb2).trans hd2
          have hj3 := (HB.out.cell (p := ⟨b2, off2 + j * 4 + 3, none⟩) hbb2).trans hd3
          obtain ⟨hpa, hpl⟩ := HPRE.out _ (List.getElem_mem hlj)
          have htn := ptsT_next hlj
          obtain ⟨r, hr⟩ : ∃ r, r = l[j] := ⟨_, rfl⟩
          rw [← hr] at hj0 hj1 hj2 hj3 hpa hpl htn
          have hpe := fun w => pends_any r.a r.len hpa hpl w
          have hlo := cutLow_lt (n := r.len) hpa
          have hhi := cutHigh_lt hpa hpl
          obtain ⟨w5, hw5⟩ : ∃ w5, w5 = wr.alloc (.cells #[.int .u32 (r.a : Int), .int .i64 (r.len : Int), .int .i64 (r.act : Int), .int .i64 (r.next : Int)] 43) := ⟨_, rfl⟩
          have h5 : Below wr.heap.size wr w5 := by rw [hw5]; exact (Below.refl _ _).alloc (Nat.le_refl _) _
          have hO5 := map_below HO.out h5
          have hB5 := HB.out.trans (h5.mono HB.out.size)
          have hrow5 : VRow w5 wr.heap.size (rc r) := by rw [hw5]; exact VRow.new wr #[.int .u32 (r.a : Int), .int .i64 (r.len : Int), .int .i64 (r.act : Int), .int .i64 (r.next : Int)] _
          have hp1 := HS.out.put (lowN r.a r.len) (.lit (.bool true))
          have hptr : ptsR r = lowN r.a r.len :: (if highN r.a r.len = 4294967295 then [] else [highN r.a r.len + 1]) := rfl
          have hk1 := keyu _ hlo
          have hy0 := (hrow5.get (i := 0) rfl).1
          have hy1 := (hrow5.get (i := 1) rfl).1
          generalize lowN r.a r.len = lo at *
          generalize highN r.a r.len = hi at *
          have HW5 := Lib.hid hw5
          have HPE := Lib.hid hpe
          have HP1 := Lib.hid hp1
          have HK1 := Lib.hid hk1
          have HTN := Lib.hid htn
          have HPT := Lib.hid hptr
          have HB5 := Lib.hid hB5
          have hg5 : w.heap.size + 1 < w5.heap.size := Nat.lt_of_lt_of_le hgr h5.size
          have hm2 : m + 1 < maxLen := by unfold maxLen; have := HSN.out; omega
          clear hd0 hd1 hd2 hd3 hr hpe hpa hpl htn hw5 h5 hB5 hrow5 hp1 hptr hk1
          subst hBe
          by_cases htop : hi = 4294967295
          · have t1 : ((hi : Int) != 4294967295) = false := by rw [htop]; rfl
            have HTOP := Lib.hid htop
            clear htop
            go_wp2_with fail
            rw [← HW5.out]
            clear hj0 hj1 hj2 hj3
            refine (HPE.out _).mono ?_
            rintro e w' ⟨rfl, rfl⟩
            go_wp2_with (at_mapUpdate; refine wpList_mapUpdate_own _ rfl (.tmp 33) (.tmp 34) _ 157 rfl 25 4 (Go.Maps.int_keyed Tryz.underlying25) mapu (plainElem Tryz.prog 4) (w.heap.size + 1) m E rfl hO5 (by omega) _ _ _ rfl rfl HK1.out _ [] (plainElem_bool Tryz.underlying4 true) ?_; intro w6 hO6 hg6; clear hO5)
            have hB6 := HB5.out.grown hg6 HB5.out.size (fun g e => by injection e with e; omega)
            refine ⟨⟨j + 1, m + 1, _, by omega, by go_num, Lib.hid hO6, Lib.hid ?_, by omega, Lib.hid hB6, Nat.lt_of_lt_of_le hg5 hg6.size⟩, by simp [intOf]; omega⟩
            rw [HTN.out, HPT.out, if_pos HTOP.out, ← List.append_assoc]
            exact HP1.out
          · have t1 : ((hi : Int) != 4294967295) = true := by simp; omega
            have hi1 : (hi : Int) < 4294967295 := by omega
            have hi0 : (0 : Int) ≤ (hi : Int) := by omega
            have hk2 := keyu (hi + 1) (by omega)
            have hp2 := HP1.out.put (hi + 1) (.lit (.bool true))
            have HTOP := Lib.hid htop
            have HK2 := Lib.hid hk2
            have HP2 := Lib.hid hp2
            clear htop hk2 hp2
            go_wp2_with fail
            rw [← HW5.out]
            clear hj0 hj1 hj2 hj3
            refine (HPE.out _).mono ?_
            rintro e w' ⟨rfl, rfl⟩
            go_wp2_with (first
              | (at_mapUpdate; refine wpList_mapUpdate_own _ rfl (.tmp 33) (.tmp 34) _ 157 rfl 25 4 (Go.Maps.int_keyed Tryz.underlying25) mapu (plainElem Tryz.prog 4) (w.heap.size + 1) m E rfl hO5 (by omega) _ _ _ rfl rfl HK1.out _ [] (plainElem_bool Tryz.underlying4 true) ?_; intro w6 hO6 hg6; clear hO5; have hB6 := Lib.hid (HB5.out.grown hg6 HB5.out.size (fun g e => by injection e with e; omega)); have hg6s : w.heap.size + 1 < w6.heap.size := Nat.lt_of_lt_of_le hg5 hg6.size; clear hg6)
              | (at_mapUpdate; refine wpList_mapUpdate_own _ rfl (.tmp 37) (.tmp 39) _ 157 rfl 25 4 (Go.Maps.int_keyed Tryz.underlying25) mapu (plainElem Tryz.prog 4) (w.heap.size + 1) (m + 1) _ rfl hO6 (by omega) _ _ _ rfl rfl HK2.out _ [] (plainElem_bool Tryz.underlying4 true) ?_; intro w7 hO7 hg7; clear hO6))
            have hB7 := hB6.out.grown hg7 hB6.out.size (fun g e => by injection e with e; omega)
            refine ⟨⟨j + 1, m + 1 + 1, _, by omega, by go_num, Lib.hid hO7, Lib.hid ?_, by omega, Lib.hid hB7, Nat.lt_of_lt_of_le hg6s hg7.size⟩, by simp [intOf]; omega⟩
            rw [HTN.out, HPT.out, if_neg HTOP.out, ← List.append_assoc]
            have := HP2.out
            rw [List.append_assoc] at this
            simpa using this
        · obtain rfl : j = l.length := by omega
          have hS := HS.out
          rw [List.take_of_length_le (Nat.le_refl _), ← HNX.out] at hS
          have HS2 := Lib.hid hS
          clear hS
          go_wp2_with fail
          refine ⟨⟨k + 1, m, E, by omega, by go_num, HO, HS2, by have := HSN.out.1; omega, HB, hgr⟩, by simp [intOf]; omega⟩
    · obtain rfl : k = net.length := by omega
      have hS := HS.out
      rw [show ptsTo net net.length = ptsN net by unfold ptsTo ptsN; rw [List.take_of_length_le (Nat.le_refl _)]] at hS
      obtain ⟨w8, hw8⟩ : ∃ w8, w8 = wr.alloc (.cells #[.map (some (w.heap.size + 1))] 157) := ⟨_, rfl⟩
      have h8 : Below wr.heap.size wr w8 := by rw [hw8]; exact (Below.refl _ _).alloc (Nat.le_refl _) _
      have hx8 : w8.cell? ⟨wr.heap.size, 0, none⟩ = some (.map (some (w.heap.size + 1))) := by rw [hw8, cell_of_row _ _ 0 _ _ (0, 0) (heap_alloc_new wr _)]; rfl
      have hO8 := map_below HO.out h8
      have hsz := hO8.size_le
      have hsl := sizeTo_le net net.length
      have hB8 := HB.out.trans (h8.mono HB.out.size)
      have hlen : ∀ ss : List Int, So.KeysCame D ss → ss.length = (cutsL net).length := fun ss hss => by
        have := (cuts_perm hS hss).length_eq
        rw [List.length_map] at this
        rw [this]
        unfold cutsL
        rw [List.length_mergeSort]
      have hsrt := So.sorted_any M HM.out 119 #[.pointer (some ⟨wr.heap.size, 0, none⟩)] (enters_of Tryz.func119 (by kernel_rfl) rfl) (So.KeysCame D) (fun _ => True) (Go.Maps.size D) (by omega)
        (fun xs hx => by rw [hlen xs hx]; exact HFEW.out) (fun xs hx e => by
          have h0 := (hx.2 0).2 ((hS.has 0).2 ⟨0, by simp [ptsN], rfl⟩)
          rw [e] at h0
          simp at h0) w8 (So.keys_stops Fence.wide 9 trivial rfl (by omega) wr.heap.size (w.heap.size + 1) n D w8 (by rw [hw8]; simp) hx8 hO8)
      have HSRT := Lib.hid hsrt
      have HW8 := Lib.hid hw8
      have HB8 := Lib.hid hB8
      have HSS := Lib.hid hS
      have HLEN := Lib.hid hlen
      clear hS hw8 h8 hx8 hO8 hB8 hsrt hlen HO HS HB hn
      go_wp2_with fail
      refine (keys_call (w.heap.size + 1) _).mono ?_
      rintro e w' ⟨rfl, rfl⟩
      go_wp2_with fail
      rw [← HW8.out]
      refine (HSRT.out).mono ?_
      rintro e w9 ⟨R, m, xs, rfl, hxs, hL, hb9, hm1, hm2, hnew⟩
      have hl9 := HLEN.out xs hxs
      have he : (xs.mergeSort So.leZ).map So.encU = u32s (cutsL net) := by
        rw [cuts_sorted (cuts_perm HSS.out hxs), List.map_map]; rfl
      rw [he] at hL
      have hb9' := HB8.out.trans (hb9.mono HB8.out.size)
      have hnew' := new_mono hnew HB8.out.size
      rw [hl9] at hm1 ⊢
      have HL := Lib.hid hL
      have HB9 := Lib.hid hb9'
      have HNEW := Lib.hid hnew'
      have HM1 := Lib.hid (And.intro hm1 hm2)
      clear hL hb9 hb9' hnew hnew' he hl9 hxs hm1 hm2 HSRT HW8 HB8 HSS HLEN
      go_wp2_with fail
      go_ret
      exact ⟨R, m, rfl, HL.out, HB9.out, HM1.out.1, HM1.out.2, HNEW.out⟩
theorem cutsOf_few (M : Nat) (hM : So.SortsTo M) {net : List (List RuleT)} (h : NetOk net) (hfew : (cutsL net).length ≤ M) : CutsOf net (cutsL net) := fun A c w hA => cuts_any M hM A c net w hA h hfew
end Go.Proofs.YtpjoefekhgmlhaaGreat.Tp
