/- PLAIN LAWS of the walks that look for loops: what labels say when so many nodes have been begun from. No program in sight. Conditions: the vector may be.
CONTRACT: the least loop of a vector (graph.Loop). Condition: the slice reads as a row of numbers. -/
import Derived.Test.YtpjoefekhgmlhaaGreatMa02
import Derived.Deep.OwnRows
import Derived.WalkMore
namespace Go.Proofs.YtpjoefekhgmlhaaGreat.Gr

/-- The label of a node, 0 if none. -/
def lab (ls : List Nat) (x : Nat) : Nat := ls.getD x 0
theorem lab_at {ls : List Nat} {x : Nat} (h : x < ls.length) : lab ls x = ls[x] := by simp [lab, List.getElem?_eq_getElem h]
theorem lab_lt {ls : List Nat} {x : Nat} (h : lab ls x ≠ 0) : x < ls.length := by
  rcases Nat.lt_or_ge x ls.length with h' | h'
  · exact h'
  · exact absurd (by simp [lab, List.getElem?_eq_none h']) h
theorem lab_set {ls : List Nat} {x : Nat} (h : x < ls.length) (a y : Nat) : lab (ls.set x a) y = if y = x then a else lab ls y := by
  unfold lab
  rw [List.getD_eq_getElem?_getD, List.getElem?_set, List.getD_eq_getElem?_getD]
  by_cases e : y = x
  · subst e; simp [h]
  · rw [if_neg (fun e' => e e'.symm), if_neg e]

/-- Behind k walks. -/
structure Lab (v : List Int) (ls : List Nat) (k : Nat) : Prop where
  len : ls.length = v.length
  le : ∀ x, lab ls x ≤ k
  closed : ∀ x y, lab ls x ≠ 0 → nxt v x = some y → lab ls y ≠ 0
  begun : ∀ x, x < k → lab ls x ≠ 0
/-- The least node of a loop among those that have labels, -1 if there is none. -/
def Least (v : List Int) (ls : List Nat) (m : Int) : Prop :=
  (m = -1 ∧ ∀ x, lab ls x ≠ 0 → ¬ Cyc v x) ∨ ∃ c : Nat, m = (c : Int) ∧ c < v.length ∧ Cyc v c ∧ ∀ x, lab ls x ≠ 0 → Cyc v x → c ≤ x
/-- In the midst of the walk from k: i nodes have been labelled, old labels stand. -/
structure Path (v : List Int) (ls : List Nat) (k i : Nat) (ls' : List Nat) : Prop where
  len : ls'.length = v.length
  fresh : ∀ j, j < i → ∃ y, iter v j k = some y ∧ y < v.length ∧ lab ls y = 0
  old : ∀ y, lab ls y ≠ 0 → lab ls' y = lab ls y
  new : ∀ j y, j < i → iter v j k = some y → lab ls' y = k + 1
  bare : ∀ y, lab ls y = 0 → (∀ j, j < i → iter v j k ≠ some y) → lab ls' y = 0
  inj : ∀ a b, a < i → b < i → iter v a k = iter v b k → a = b

section
variable {v : List Int} {ls ls' : List Nat} {k i x : Nat}
theorem Path.zero (h : Lab v ls k) : Path v ls k 0 ls :=
  ⟨h.len, fun _ h => absurd h (by omega), fun _ _ => rfl, fun _ _ h => absurd h (by omega), fun _ h _ => h, fun _ _ h => absurd h (by omega)⟩
theorem Path.step (h : Path v ls k i ls') (hx : iter v i k = some x) (hl : x < v.length) (h0 : lab ls' x = 0) : Path v ls k (i + 1) (ls'.set x (k + 1)) := by
  have hxl : x < ls'.length := by rw [h.len]; exact hl
  have hold : lab ls x = 0 := by
    by_cases e : lab ls x = 0
    · exact e
    · have := h.old x e; omega
  have hnot : ∀ j, j < i → iter v j k ≠ some x := fun j hj e => by have := h.new j x hj e; omega
  refine ⟨by simpa using h.len, fun j hj => ?_, fun y hy => ?_, fun j y hj e => ?_, fun y hy hn => ?_, fun a b ha hb e => ?_⟩
  · by_cases e : j = i
    · subst e; exact ⟨x, hx, hl, hold⟩
    · exact h.fresh j (by omega)
  · rw [lab_set hxl, if_neg (by rintro rfl; exact hy hold)]
    exact h.old y hy
  · rw [lab_set hxl]
    by_cases ey : y = x
    · rw [if_pos ey]
    · rw [if_neg ey]
      have : j ≠ i := by rintro rfl; rw [hx] at e; injection e with e; exact ey e.symm
      exact h.new j y (by omega) e
  · rw [lab_set hxl, if_neg (by rintro rfl; exact hn i (by omega) hx)]
    exact h.bare y hy (fun j hj => hn j (by omega))
  · by_cases ea : a = i <;> by_cases eb : b = i
    · omega
    · subst ea; rw [hx] at e; exact absurd e.symm (hnot b (by omega))
    · subst eb; rw [hx] at e; exact absurd e (hnot a (by omega))
    · exact h.inj a b (by omega) (by omega) e
theorem Path.bound (h : Path v ls k i ls') : i ≤ v.length := by
  rcases Nat.lt_or_ge v.length i with h' | h'
  · obtain ⟨a, b, hab, hb, e⟩ := pigeon (n := v.length) (m := v.length + 1) (fun j => (iter v j k).getD 0) (fun j hj => by
      obtain ⟨y, hy, hl, _⟩ := h.fresh j (by omega)
      simp only [hy, Option.getD_some]; exact hl) (by omega)
    obtain ⟨y, hy, _⟩ := h.fresh a (by omega)
    obtain ⟨z, hz, _⟩ := h.fresh b (by omega)
    simp only [hy, hz, Option.getD_some] at e
    have := h.inj a b (by omega) (by omega) (by rw [hy, hz, e])
    omega
  · exact h'
/-- Who has a label behind the walk. -/
theorem Path.cases (h : Path v ls k i ls') {y : Nat} (hy : lab ls' y ≠ 0) : lab ls y ≠ 0 ∨ ∃ j, j < i ∧ iter v j k = some y := by
  by_cases e : lab ls y = 0
  · right
    by_cases hj : ∃ j, j < i ∧ iter v j k = some y
    · exact hj
    · exact absurd (h.bare y e (fun j hji ej => hj ⟨j, hji, ej⟩)) hy
  · exact .inl e
theorem Path.labelled (h : Path v ls k i ls') {y : Nat} (hy : lab ls y ≠ 0 ∨ ∃ j, j < i ∧ iter v j k = some y) : lab ls' y ≠ 0 := by
  rcases hy with hy | ⟨j, hj, e⟩
  · rw [h.old y hy]; exact hy
  · rw [h.new j y hj e]; omega
theorem iter_succ {j y : Nat} (h : iter v j k = some y) : iter v (j + 1) k = nxt v y := by
  rw [iter_add, h]
  simp only [Option.bind_some, iter]
  cases nxt v y <;> rfl
/-- The walk has ended well: at an end, or at a node that has a label. -/
theorem Path.done (hL : Lab v ls k) (h : Path v ls k i ls') (hend : ∀ y, iter v i k = some y → lab ls' y ≠ 0) (hk : lab ls' k ≠ 0) : Lab v ls' (k + 1) := by
  refine ⟨h.len, fun y => ?_, fun y z hy hz => ?_, fun y hy => ?_⟩
  · by_cases e : lab ls y = 0
    · by_cases hj : ∃ j, j < i ∧ iter v j k = some y
      · obtain ⟨j, hj, ej⟩ := hj
        rw [h.new j y hj ej]; omega
      · rw [h.bare y e (fun j hji ej => hj ⟨j, hji, ej⟩)]; omega
    · rw [h.old y e]; have := hL.le y; omega
  · rcases h.cases hy with hy | ⟨j, hj, e⟩
    · exact h.labelled (.inl (hL.closed y z hy hz))
    · have e2 : iter v (j + 1) k = some z := (iter_succ e).trans hz
      by_cases hji : j + 1 < i
      · exact h.labelled (.inr ⟨j + 1, hji, e2⟩)
      · rw [show j + 1 = i by omega] at e2
        exact hend z e2
  · by_cases e : y = k
    · subst e; exact hk
    · exact h.labelled (.inl (hL.begun y (by omega)))
theorem Path.begun (h : Path v ls k i ls') (hi : 0 < i ∨ lab ls k ≠ 0) : lab ls' k ≠ 0 := by
  rcases hi with hi | hi
  · exact h.labelled (.inr ⟨0, hi, rfl⟩)
  · exact h.labelled (.inl hi)
/-- No new node is on a loop, if the walk ends, or comes to an old one. -/
theorem Path.no_loop (hL : Lab v ls k) (h : Path v ls k i ls') (hend : iter v i k = none ∨ ∃ x, iter v i k = some x ∧ lab ls x ≠ 0) {m : Int} (hm : Least v ls m) : Least v ls' m := by
  have hno : ∀ j y, j < i → iter v j k = some y → ¬ Cyc v y := by
    intro j y hj e hc
    have hi : iter v (j + (i - j)) k = iter v i k := by rw [show j + (i - j) = i by omega]
    rw [iter_add, e] at hi
    simp only [Option.bind_some] at hi
    rcases hend with hn | ⟨x, hx, hlx⟩
    · rw [hn] at hi
      obtain ⟨q, hq, hqy⟩ := hc
      have hmul : ∀ t, iter v (q * t) y = some y := by
        intro t
        induction t with
        | zero => rfl
        | succ t ih => rw [Nat.mul_succ, iter_add, ih]; exact hqy
      have : iter v ((i - j) + (q * (i - j) - (i - j))) y = some y := by
        have : i - j ≤ q * (i - j) := Nat.le_mul_of_pos_left _ hq
        rw [show (i - j) + (q * (i - j) - (i - j)) = q * (i - j) by omega]; exact hmul _
      rw [iter_add, hi] at this
      cases this
    · rw [hx] at hi
      obtain ⟨b, hb⟩ := cyc_back hc hi
      have := closed_iter (S := fun z => lab ls z ≠ 0) hL.closed hlx hb
      obtain ⟨y', hy', _, h0⟩ := h.fresh j hj
      rw [e] at hy'; injection hy' with hy'; subst hy'
      exact this h0
  rcases hm with ⟨rfl, hm⟩ | ⟨c, rfl, hc1, hc2, hc3⟩
  · refine .inl ⟨rfl, fun y hy => ?_⟩
    rcases h.cases hy with hy | ⟨j, hj, e⟩
    · exact hm y hy
    · exact hno j y hj e
  · refine .inr ⟨c, rfl, hc1, hc2, fun y hy hcy => ?_⟩
    rcases h.cases hy with hy | ⟨j, hj, e⟩
    · exact hc3 y hy hcy
    · exact absurd hcy (hno j y hj e)
/-- The walk has come back to its own way. -/
theorem Path.back (_h : Path v ls k i ls') {j : Nat} (hj : j < i) (hx : iter v i k = some x) (hjx : iter v j k = some x) : Cyc v x := by
  refine ⟨i - j, by omega, ?_⟩
  have : iter v (j + (i - j)) k = some x := by rw [show j + (i - j) = i by omega]; exact hx
  rw [iter_add, hjx] at this
  exact this
theorem Path.loop (hg : goodB v = true) (h : Path v ls k i ls') (hxl : x < v.length) (hc : Cyc v x) (hx : iter v i k = some x) {l m : Int}
    (hl : l ∈ (ringOf v x).map (fun y : Nat => (y : Int)) ∧ ∀ y ∈ (ringOf v x).map (fun y : Nat => (y : Int)), l ≤ y) (hm : Least v ls m) : Least v ls' (if m = -1 ∨ l < m then l else m) := by
  obtain ⟨p, hp, hpn⟩ := hc.per hg hxl
  rw [ringOf_eq hg hxl hc hp hpn] at hl
  obtain ⟨hl1, hl2⟩ := hl
  obtain ⟨c, hcm, rfl⟩ := List.mem_map.1 hl1
  obtain ⟨hcc, hcl⟩ := ring_cyc hg hxl hc hcm
  have hnew : ∀ a y, a < i → iter v a k = some y → Cyc v y → c ≤ y := by
    intro a y ha e hy
    have hi : iter v (a + (i - a)) k = some x := by rw [show a + (i - a) = i by omega]; exact hx
    rw [iter_add, e] at hi
    obtain ⟨b, hb⟩ := cyc_back hy hi
    have := hl2 (y : Int) (List.mem_map.2 ⟨y, mem_ring hp hb, rfl⟩)
    omega
  rcases hm with ⟨rfl, hm⟩ | ⟨d, rfl, hd1, hd2, hd3⟩
  · rw [if_pos (.inl rfl)]
    refine .inr ⟨c, rfl, hcl, hcc, fun y hy hcy => ?_⟩
    rcases h.cases hy with hy | ⟨a, ha, e⟩
    · exact absurd hcy (hm y hy)
    · exact hnew a y ha e hcy
  · by_cases hlt : (c : Int) < (d : Int)
    · rw [if_pos (.inr hlt)]
      refine .inr ⟨c, rfl, hcl, hcc, fun y hy hcy => ?_⟩
      rcases h.cases hy with hy | ⟨a, ha, e⟩
      · have := hd3 y hy hcy; omega
      · exact hnew a y ha e hcy
    · rw [if_neg (by omega)]
      refine .inr ⟨d, rfl, hd1, hd2, fun y hy hcy => ?_⟩
      rcases h.cases hy with hy | ⟨a, ha, e⟩
      · exact hd3 y hy hcy
      · have := hnew a y ha e hcy; omega
end
/-- Behind all walks the least node is the least of all. -/
theorem Least.all {v : List Int} {ls : List Nat} {m : Int} (hg : goodB v = true) (hL : Lab v ls v.length) (h : Least v ls m) :
    (m = -1 ∧ loopOf v = []) ∨ ∃ c : Nat, m = (c : Int) ∧ c < v.length ∧ Cyc v c ∧ loopOf v = ringOf v c := by
  rcases h with ⟨rfl, h⟩ | ⟨c, rfl, h1, h2, h3⟩
  · exact .inl ⟨rfl, loopOf_none hg fun u hu => h u (hL.begun u hu)⟩
  · exact .inr ⟨c, rfl, h1, h2, loopOf_some hg h1 h2 fun x hx hc => by have := h3 x (hL.begun x (by omega)) hc; omega⟩
end Go.Proofs.YtpjoefekhgmlhaaGreat.Gr

namespace Go.Proofs.YtpjoefekhgmlhaaGreat.Gr
open Go.RowKit Mem

/-- A row of the call's own that holds the numbers ls. -/
def Row (w : World) (g : Nat) (ls : List Nat) : Prop := w.heap[g]? = some (.cells (ints (nats ls)).toArray 3 (0, 0))
theorem Row.cell {w : World} {g : Nat} {ls : List Nat} (h : Row w g ls) {x : Nat} (hx : x < ls.length) : w.cell? ⟨g, x, none⟩ = some (.int .i64 ((lab ls x : Nat) : Int)) := by
  rw [cell_of_row w g x _ 3 (0, 0) h, lab_at hx]
  simp [ints, nats, hx]
theorem Row.free {w : World} {g : Nat} {ls : List Nat} (h : Row w g ls) (x : Nat) : w.frozen? ⟨g, x, none⟩ = false := frozen_of_row w g x _ 3 h
theorem Row.set_ {w : World} {g : Nat} {ls : List Nat} (h : Row w g ls) (x a : Nat) : Row (w.setCell ⟨g, x, none⟩ (.int .i64 (a : Int))) g (ls.set x a) := by
  have := heap_setCell_same w g x _ 3 (.int .i64 (a : Int)) h
  unfold Row
  rw [this]
  congr 2
  apply Array.ext'
  simp [ints, nats, List.map_set]
theorem Row.below {B : Nat} {w w' : World} {g : Nat} {ls : List Nat} (h : Row w g ls) (hb : Below B w w') (hg : g < B) : Row w' g ls := (hb.block g hg).trans h
theorem Row.lt {w : World} {g : Nat} {ls : List Nat} (h : Row w g ls) : g < w.heap.size := by
  rcases Nat.lt_or_ge g w.heap.size with h' | h'
  · exact h'
  · unfold Row at h; rw [Array.getElem?_eq_none h'] at h; cases h
theorem Row.made (w : World) (n : Nat) : Row (w.alloc (.cells (madeCells #[.int .i64 0] n) 3)) w.heap.size (List.replicate n 0) := by
  unfold Row
  rw [heap_alloc_new]
  congr 2
  apply Array.ext'
  apply List.ext_getElem?
  intro i
  by_cases hi : i < n
  · simp [madeCells, ints, nats, Nat.mod_one, hi]
  · simp [madeCells, ints, nats, hi]
theorem errno_zero {v : List Int} (he : errno v = 0) : v.length ≤ 256 ∧ goodB v = true := by
  have hl : v.length ≤ 256 := by unfold errno at he; split at he <;> omega
  refine ⟨hl, ?_⟩
  unfold errno at he
  rw [if_neg (by omega)] at he
  cases h : goodB v with
  | true => rfl
  | false => rw [h] at he; simp at he
/-- A slice and an errno are told; the slice is new, and reads as l; nothing that was there has turned. -/
def PairPost (w : World) (l : List Int) (en : Int) (e : Ending) (w' : World) : Prop := ∃ R m, e = .returned (.tuple #[.slice R l.length m, .int .i64 en]) ∧ Lies w' R (ints l) ∧ Below w.heap.size w w'

def PairPostN (w : World) (l : List Int) (en : Int) (e : Ending) (w' : World) : Prop := ∃ R m, e = .returned (.tuple #[.slice R l.length m, .int .i64 en]) ∧ Lies w' R (ints l) ∧ Below w.heap.size w w' ∧ New w R
theorem loop_no (A : Option Addr) (c : Nat) (v : List Int) (w : World) (hA : Lies w A (ints v)) (hl : v.length ≤ 9223372036854775807) (he : errno v ≠ 0) :
    Calls Tryz.prog 18 #[.slice A v.length c] w fun e w' => e = .returned (.tuple #[.slice none 0 0, .int .i64 (errno v)]) ∧ w = w' := by
  have hc := Lib.hid (may_any A c v w hA hl)
  have t : (errno v != 0) = true := by simpa using he
  generalize errno v = en at *
  clear he
  go_enter Tryz.func18, Tryz.ntmps18
  go_wp2_with fail
  go_step3
  go_wp2_with (go_at_call 50; refine (hc.out).mono ?_; rintro e w' ⟨rfl, rfl⟩)
  rw [Exit.noGoto_ret]
  go_ret2
  exact ⟨rfl, rfl⟩

set_option maxRecDepth 100000 in
set_option maxHeartbeats 2000000 in
theorem loop_yesN (A : Option Addr) (c : Nat) (v : List Int) (w : World) (hA : Lies w A (ints v)) (he : errno v = 0) :
    Calls Tryz.prog 18 #[.slice A v.length c] w (PairPostN w (loopL v) 0) := by
  obtain ⟨hl, hg⟩ := errno_zero he
  have hc := (may_any A c v w hA (by omega))
  rw [he] at hc
  have HC := Lib.hid hc
  have HG := Lib.hid hg
  have hmk := run_make_row' (P := Tryz.prog) 29 3 (.int .i64 0) 8 Tryz.underlying29 int_info rfl .i64 .i64 v.length (by omega) (by omega)
  clear hc he hg
  go_enter Tryz.func18, Tryz.ntmps18
  go_wp2_with fail
  go_step3
  go_wp2_with (go_at_call 50; refine (HC.out).mono ?_; rintro e w' ⟨rfl, rfl⟩)
  clear hmk
  have hrow0 := Row.made w v.length
  have hb0 : Below w.heap.size w (w.alloc (.cells (madeCells #[.int .i64 0] v.length) 3)) := (Below.refl _ w).alloc (Nat.le_refl _) _
  go_step3
  go_wp2_with fail
  go_loopg [5, 20] v.length (fun gn m i wr => ∃ (k : Nat) (ls : List Nat) (l : Int), k + gn = v.length ∧ i = .int .i64 k ∧ m = .int .i64 l ∧ Row wr w.heap.size ls ∧ Lab v ls k ∧ Least v ls l ∧ Below w.heap.size w wr)
  case atStart => exact ⟨0, List.replicate v.length 0, -1, by omega, rfl, rfl, hrow0, ⟨by simp, fun x => by simp [lab, List.getElem?_replicate]; split <;> simp, fun x y h => absurd (by simp [lab, List.getElem?_replicate]; split <;> simp) h, fun x h => absurd h (by omega)⟩, .inl ⟨rfl, fun x h => absurd (by simp [lab, List.getElem?_replicate]; split <;> simp) h⟩, hb0⟩
  case round =>
    obtain ⟨k, ls, l, hk, rfl, rfl, hR, hL, hM, hbr⟩ := hrel
    have hkl : k ≤ v.length := by omega
    have HL := Lib.hid hL
    have HM := Lib.hid hM
    by_cases hlt : k < v.length
    · obtain ⟨wo, rfl⟩ : ∃ wo : World, wo = wr := ⟨_, rfl⟩
      have hp0 := Path.zero hL
      have HP0 := Lib.hid hp0
      clear hL hM hp0
      go_wp2_with fail
      go_loopg [8] (v.length + 1) (fun gi x wr => ∃ (i y : Nat) (ls' : List Nat), i + gi = v.length + 1 ∧ x = .int .i64 (y : Int) ∧ y < v.length ∧ iter v i k = some y ∧ Row wr w.heap.size ls' ∧ Path v ls k i ls' ∧ Below w.heap.size w wr)
      case atStart => exact ⟨0, k, ls, by omega, rfl, hlt, rfl, hR, HP0.out, hbr⟩
      case round =>
        obtain ⟨i, y, ls', hig, rfl, hy, hit, hRr, hP, hbi⟩ := hrel
        have hyl : y < ls'.length := by rw [hP.len]; exact hy
        have hcw := hRr.cell hyl
        have hfw := hRr.free y
        obtain ⟨b, off, rfl, hb, hcell0⟩ := hA.at_map hy
        have hgy := good_at HG.out hy
        obtain ⟨x, hx⟩ : ∃ x, x = v[y] := ⟨_, rfl⟩
        rw [← hx] at hcell0 hgy
        obtain ⟨hx1, hx2⟩ := hgy
        obtain ⟨q, hq⟩ : ∃ q, q = lab ls' y := ⟨_, rfl⟩
        rw [← hq] at hcw
        have HX := Lib.hid hx
        have HQ := Lib.hid hq
        have HIT := Lib.hid hit
        have HP := Lib.hid hP
        clear hx hq hit hP
        by_cases hq0 : q = 0
        · have tq : ((q : Int) == 0) = true := by simp [hq0]
          have hPs := Path.step HP.out HIT.out hy (by rw [← HQ.out, hq0])
          have hRs := hRr.set_ y (k + 1)
          have hbs := hbi.setCell (p := ⟨w.heap.size, y, none⟩) (Nat.le_refl _) (.int .i64 ((k + 1 : Nat) : Int))
          have hcell1 := (hbs.cell (p := ⟨b, off + y, none⟩) hb).trans hcell0
          have hbound := hPs.bound
          have HPS := Lib.hid hPs
          have HQ0 := Lib.hid hq0
          have ek : ((k + 1 : Nat) : Int) = (k : Int) + 1 := by omega
          rw [ek] at hRs hbs hcell1
          clear hPs hq0 ek hRr
          by_cases hneg : x = -1
          · have tn : (x == -1) = true := by simp [hneg]
            have hend : iter v (i + 1) k = none := by
              rw [iter_succ HIT.out]
              exact nxt_of_neg hy (by rw [← HX.out, hneg]; decide)
            have hL2 := HPS.out.done HL.out (fun z hz => by rw [hend] at hz; cases hz) (HPS.out.begun (.inl (by omega)))
            have hM2 := HPS.out.no_loop HL.out (.inl hend) HM.out
            have HL2 := Lib.hid hL2
            have HM2 := Lib.hid hM2
            have HN := Lib.hid hneg
            clear hend hL2 hM2 hneg
            go_wp2_with fail
            go_roundg (v.length - (k + 1))
            case measure => omega
            case rel => exact ⟨k + 1, _, l, by omega, by go_num, rfl, hRs, HL2.out, HM2.out, hbs⟩
          · have tn : (x == -1) = false := by simp [hneg]
            have hx0 : 0 ≤ x := by omega
            obtain ⟨z, rfl⟩ := Int.eq_ofNat_of_zero_le hx0
            have hzl : z < v.length := by omega
            have hnext : iter v (i + 1) k = some z := by
              rw [iter_succ HIT.out, nxt_of_nonneg hy (by rw [← HX.out]; omega), ← HX.out]; simp
            have HNX := Lib.hid hnext
            have HN := Lib.hid hneg
            clear hnext hneg
            go_wp2_with fail
            go_roundg (v.length - i)
            case measure => omega
            case rel => exact ⟨i + 1, z, _, by omega, rfl, hzl, HNX.out, hRs, HPS.out, hbs⟩
        · have tq : ((q : Int) == 0) = false := by simp; omega
          by_cases hold : q = k + 1
          · have to : ((q : Int) != (k : Int) + 1) = false := by simp; omega
            have hj : ∃ j, j < i ∧ iter v j k = some y := by
              rcases HP.out.cases (by rw [← HQ.out]; exact hq0) with h | h
              · have h1 := HP.out.old y h
                have h2 := HL.out.le y
                have h3 := HQ.out
                omega
              · exact h
            have hcy : Cyc v y := by
              obtain ⟨j, hj, e⟩ := hj
              exact HP.out.back hj HIT.out e
            have hi0 : 0 < i ∨ lab ls k ≠ 0 := .inl (by obtain ⟨j, hj, _⟩ := hj; omega)
            have hL2 := HP.out.done HL.out (fun z hz => by rw [HIT.out] at hz; injection hz with hz; rw [← hz, ← HQ.out]; exact hq0) (HP.out.begun hi0)
            have hM2 := fun lo => HP.out.loop HG.out hy hcy HIT.out (l := lo) (hm := HM.out)
            obtain ⟨rl, hrl⟩ : ∃ rl, rl = nats (ringOf v y) := ⟨_, rfl⟩
            have hr1 := round_any (some ⟨b, off, none⟩) c v wr (hA.keep hbi.size fun p hp => hbi.cell hp) hl HG.out y hy hcy
            rw [← hrl] at hr1
            have hr0 : 0 < rl.length := by rw [hrl]; simp [nats, ringOf]
            have hr2 : rl.length ≤ 256 := by
              obtain ⟨p, hp, hpn⟩ := hcy.per HG.out hy
              rw [hrl, ringOf_eq HG.out hy hcy hp hpn]
              simp [nats, ringTo_len]; omega
            have HR1 := Lib.hid hr1
            have HRL := Lib.hid hrl
            have HL2 := Lib.hid hL2
            have HM2 := Lib.hid hM2
            have HO := Lib.hid hold
            have HQ0 := Lib.hid hq0
            clear hL2 hM2 hold hq0 hi0 hj hr1 hrl hcy
            go_wp2_with fail
            refine (HR1.out).mono ?_
            rintro e w2 ⟨R, m2, rfl, hLR, hb2⟩
            have hR2 := hRr.below hb2 hRr.lt
            have hb2' := hbi.trans (hb2.mono hbi.size)
            go_wp2_with fail
            refine (min_any R m2 rl w2 hLR (by omega) hr0).mono ?_
            rintro e w3 ⟨lo, rfl, hlo, rfl⟩
            have hM3 := HM2.out lo (by have := hlo; rw [HRL.out] at this; exact this)
            have HM3 := Lib.hid hM3
            clear hM3
            by_cases hl1 : l = -1
            · have t1 : (l == -1) = true := by simp [hl1]
              have hif : (if l = -1 ∨ lo < l then lo else l) = lo := if_pos (.inl hl1)
              have HIF := Lib.hid hif
              have HL1 := Lib.hid hl1
              clear hif hl1
              go_wp2_with fail
              go_roundg (v.length - (k + 1))
              case measure => omega
              case rel => exact ⟨k + 1, _, lo, by omega, by go_num, rfl, hR2, HL2.out, by have := HM3.out; rw [HIF.out] at this; exact this, hb2'⟩
            · have t1 : (l == -1) = false := by simp [hl1]
              have HL1 := Lib.hid hl1
              by_cases hlt2 : lo < l
              · have hif : (if l = -1 ∨ lo < l then lo else l) = lo := if_pos (.inr hlt2)
                have HIF := Lib.hid hif
                clear hif hl1
                go_wp2_with fail
                go_roundg (v.length - (k + 1))
                case measure => omega
                case rel => exact ⟨k + 1, _, lo, by omega, by go_num, rfl, hR2, HL2.out, by have := HM3.out; rw [HIF.out] at this; exact this, hb2'⟩
              · have hif : (if l = -1 ∨ lo < l then lo else l) = l := if_neg (by rintro (h | h); exact hl1 h; exact hlt2 h)
                have HIF := Lib.hid hif
                clear hif hl1
                go_wp2_with fail
                go_roundg (v.length - (k + 1))
                case measure => omega
                case rel => exact ⟨k + 1, _, l, by omega, by go_num, rfl, hR2, HL2.out, by have := HM3.out; rw [HIF.out] at this; exact this, hb2'⟩
          · have to : ((q : Int) != (k : Int) + 1) = true := by simp; omega
            have hne : lab ls y ≠ 0 := by
              rcases HP.out.cases (by rw [← HQ.out]; exact hq0) with h | ⟨j, hj, e⟩
              · exact h
              · have := HP.out.new j y hj e
                rw [← HQ.out] at this
                exact absurd this hold
            have hi0 : 0 < i ∨ lab ls k ≠ 0 := by
              rcases Nat.eq_zero_or_pos i with h0 | h0
              · right
                have := HIT.out
                rw [h0] at this
                simp only [iter] at this
                injection this with this
                rw [this]; exact hne
              · exact .inl h0
            have hL2 := HP.out.done HL.out (fun z hz => by rw [HIT.out] at hz; injection hz with hz; rw [← hz, ← HQ.out]; exact hq0) (HP.out.begun hi0)
            have hM2 := HP.out.no_loop HL.out (.inr ⟨y, HIT.out, hne⟩) HM.out
            have HL2 := Lib.hid hL2
            have HM2 := Lib.hid hM2
            have HO := Lib.hid hold
            have HQ0 := Lib.hid hq0
            clear hL2 hM2 hold hq0 hne hi0
            go_wp2_with fail
            go_roundg (v.length - (k + 1))
            case measure => omega
            case rel => exact ⟨k + 1, _, l, by omega, by go_num, rfl, hRr, HL2.out, HM2.out, hbi⟩
    · have ek : k = v.length := by omega
      rw [ek] at hL
      have hfin := Least.all HG.out hL hM
      have HW := Lib.hid hR
      clear hL hM hR ek
      rcases hfin with ⟨rfl, hlo⟩ | ⟨cy, rfl, hcl, hcc, hlo⟩
      · have HLO := Lib.hid hlo
        clear hlo
        go_wp2_with fail
        rw [Exit.noGoto_ret]
        go_ret2
        have e : loopL v = [] := by unfold loopL; rw [HLO.out]; rfl
        exact ⟨none, 0, by rw [e]; rfl, by rw [e]; exact Lies.nil _ _, hbr, fun a ha => by cases ha⟩
      · have HLO := Lib.hid hlo
        have hr1 := round_anyN A c v wr (hA.keep hbr.size fun p hp => hbr.cell hp) hl HG.out cy hcl hcc
        rw [← hlo] at hr1
        have t1 : ((cy : Int) == -1) = false := by rw [beq_eq_false_iff_ne]; omega
        have HR1 := Lib.hid hr1
        have HCC := Lib.hid hcc
        clear hlo hr1 hcc
        go_wp2_with fail
        refine (HR1.out).mono ?_
        rintro e w2 ⟨R, m2, rfl, hLR, hb2, hnew⟩
        go_wp2_with fail
        rw [Exit.noGoto_ret]
        go_ret2
        exact ⟨R, m2, by simp [loopL], hLR, hbr.trans (hb2.mono hbr.size), fun a ha => Nat.le_trans hbr.size (hnew a ha)⟩
theorem loop_yes (A : Option Addr) (c : Nat) (v : List Int) (w : World) (hA : Lies w A (ints v)) (he : errno v = 0) :
    Calls Tryz.prog 18 #[.slice A v.length c] w (PairPost w (loopL v) 0) :=
  (loop_yesN A c v w hA he).mono fun _ _ ⟨R, m, h1, h2, h3, _⟩ => ⟨R, m, h1, h2, h3⟩
end Go.Proofs.YtpjoefekhgmlhaaGreat.Gr
