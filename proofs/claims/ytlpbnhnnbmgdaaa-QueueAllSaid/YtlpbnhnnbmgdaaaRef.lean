/- CONTRACTS of the reference's queue: a row that is put to and taken from. Conditions: the queue is one that was made so; fewer than 2^40 numbers wait. -/
import Derived.Test.YtlpbnhnnbmgdaaaLaws
import Derived.Test.YtlpbnhnnbmgdaaaRow
import Derived.ArgAppend
import Derived.Laws.IdiomCopy
namespace Go.Proofs.Ytlpbnhnnbmgdaaa.Q
open Go.Conc Go.RowKit Mem

/-- A slice of the call's own that reads as l, its head anywhere in its row. -/
def Slid (w : World) (B : Nat) (v : Value) (l : List Int) : Prop :=
  (v = .slice none 0 0 ∧ l = []) ∨
  ∃ g off cap cur, v = .slice (some ⟨g, off, none⟩) l.length cap ∧ B ≤ g ∧ w.heap[g]? = some (.cells cur 3 (0, 0)) ∧ off + cap ≤ cur.size ∧ l.length ≤ cap ∧ cap ≤ 9223372036854775807 ∧ ∀ i u, l[i]? = some u → cur[off + i]? = some (vi u)
/-- Block y is the reference's queue: how much room, and the row of what waits. -/
def RAt (w : World) (B y n : Nat) (l : List Int) : Prop := ∃ v, w.heap[y]? = some (.cells #[.int .i64 (n : Int), v] 37 (0, 0)) ∧ Slid w B v l ∧ B ≤ y
/-- Channels and the program's queues have not turned. -/
def Keeps (w w' : World) : Prop := ∀ (k : Nat) (o : Obj), w.heap[k]? = some o → (∀ cs t fr, o = Obj.cells cs t fr → t = 45) → w'.heap[k]? = some o

theorem Keeps.refl (w : World) : Keeps w w := fun _ _ h _ => h
theorem Keeps.trans {a b c : World} (h : Keeps a b) (k : Keeps b c) : Keeps a c := fun i o ho ht => k i o (h i o ho ht) ht
theorem Keeps.qat {w w' : World} {q c cap : Nat} {l : List Value} (h : Keeps w w') (hQ : QAt w q c cap l) : QAt w' q c cap l := by
  obtain ⟨h1, h2, s, r, h3⟩ := hQ
  exact ⟨h q _ h1 (by rintro cs t fr ⟨⟩; rfl), h2, s, r, h c _ h3 (by rintro cs t fr ⟨⟩)⟩
theorem Slid.keep {w w' : World} {B : Nat} {v : Value} {l : List Int} (h : Slid w B v l) (hk : ∀ (g : Nat) (cur : Array Value), w.heap[g]? = some (Obj.cells cur 3 (0, 0)) → w'.heap[g]? = w.heap[g]?) : Slid w' B v l := by
  rcases h with h | ⟨g, off, cap, cur, h1, h2, h3, h4⟩
  · exact .inl h
  · exact .inr ⟨g, off, cap, cur, h1, h2, (hk g cur h3).trans h3, h4⟩
theorem RAt.keep {w w' : World} {B y n : Nat} {l : List Int} (h : RAt w B y n l) (hk : ∀ (g : Nat) (cur : Array Value) (t : TypeId), w.heap[g]? = some (Obj.cells cur t (0, 0)) → w'.heap[g]? = w.heap[g]?) : RAt w' B y n l := by
  obtain ⟨v, h1, h2, h3⟩ := h
  exact ⟨v, (hk y _ _ h1).trans h1, h2.keep fun g cur hg => hk g cur 3 hg, h3⟩
theorem RAt.only {w w' : World} {B y n q c cap : Nat} {l : List Int} {m : List Value} (h : RAt w B y n l) (hQ : QAt w q c cap m) (ho : Only c w w') : RAt w' B y n l :=
  h.keep fun g cur t hg => ho.block g (by rintro rfl; obtain ⟨_, _, s, r, hc⟩ := hQ; rw [hg] at hc; cases hc)
theorem RAt.grown {w w' : World} {B y n q c cap : Nat} {l : List Int} {m : List Value} (h : RAt w B y n l) (hQ : QAt w q c cap m) (ho : w.grownBy w' (some c)) : RAt w' B y n l :=
  h.keep fun g cur t hg => ho.block g (by
    rcases Nat.lt_or_ge g w.heap.size with h' | h'
    · exact h'
    · rw [Array.getElem?_eq_none h'] at hg; cases hg) (by rintro e; injection e with e; subst e; obtain ⟨_, _, s, r, hc⟩ := hQ; rw [hg] at hc; cases hc)
theorem RAt.drewN {w : World} {B y n : Nat} {l : List Int} (h : RAt w B y n l) (k : Nat) : RAt (w.drewN k) B y n l := h
theorem Slid.form {w : World} {B : Nat} {v : Value} {l : List Int} (h : Slid w B v l) : ∃ A cap, v = .slice A l.length cap ∧ l.length ≤ cap ∧ cap ≤ 9223372036854775807 ∧ Lies w A (l.map vi) := by
  rcases h with ⟨rfl, rfl⟩ | ⟨g, off, cap, cur, rfl, h2, h3, h4, h5, h6, h7⟩
  · exact ⟨none, 0, rfl, by simp, by omega, Lies.nil _ _⟩
  · refine ⟨_, cap, rfl, h5, h6, fun _ => ⟨g, off, rfl, ?_, fun i u hu => ?_⟩⟩
    · rcases Nat.lt_or_ge g w.heap.size with h' | h'
      · exact h'
      · rw [Array.getElem?_eq_none h'] at h3; cases h3
    · rw [List.getElem?_map] at hu
      obtain ⟨n, hn, rfl⟩ := Option.map_eq_some_iff.1 hu
      rw [cell_of_row w g (off + i) cur 3 (0, 0) h3]
      exact h7 i n hn

theorem refNew_ok (n : Nat) (h1 : 1 ≤ n) (h2 : n ≤ 4096) (w : World) :
    Calls Try.prog 9 #[.int .i64 (n : Int)] w fun e w' => ∃ y, e = .returned (.tuple #[.pointer (some ⟨y, 0, none⟩), .int .i64 0]) ∧ RAt w' w.heap.size y n [] ∧ Below w.heap.size w w' := by
  go_enter Try.func9, Try.ntmps9
  go_wp2
  go_ret2
  exact ⟨w.heap.size, rfl, ⟨.slice none 0 0, heap_alloc_new w _, .inl ⟨rfl, rfl⟩, Nat.le_refl _⟩, (Below.refl _ w).alloc (Nat.le_refl _) _⟩
theorem refNew_no (n : Int) (h : n < 1 ∨ 4096 < n) (w : World) :
    Calls Try.prog 9 #[.int .i64 n] w fun e w' => e = .returned (.tuple #[.pointer none, .int .i64 1]) ∧ w = w' := by
  by_cases h' : n < 1
  · go_enter Try.func9, Try.ntmps9
    go_wp2
    go_ret2
    exact ⟨rfl, rfl⟩
  · have h2 : 4096 < n := by omega
    go_enter Try.func9, Try.ntmps9
    go_wp2
    go_ret2
    exact ⟨rfl, rfl⟩

section
variable {B y n : Nat} {l : List Int}
theorem refTake_none (w : World) (hR : RAt w B y n []) :
    Calls Try.prog 12 #[.pointer (some ⟨y, 0, none⟩)] w fun e w' => e = .returned (.tuple #[.int .i64 0, .int .i64 14]) ∧ w = w' := by
  obtain ⟨v, hy, hs, hB⟩ := hR
  obtain ⟨A, cap, rfl, hc, hm, hL⟩ := hs.form
  have hcell : w.cell? ⟨y, 1, none⟩ = some (.slice A 0 cap) := cell_of_row w y 1 _ _ _ hy
  go_enter Try.func12, Try.ntmps12
  go_wp2
  go_ret2
  exact ⟨rfl, rfl⟩
theorem set_row (w : World) (y : Nat) (a b v : Value) (t : TypeId) (h : w.heap[y]? = some (.cells #[a, b] t (0, 0))) : (w.setCell ⟨y, 1, none⟩ v).heap[y]? = some (.cells #[a, v] t (0, 0)) :=
  heap_setCell_same w y 1 _ t v h
theorem refTake_ok (x : Int) (w : World) (hR : RAt w B y n (x :: l)) :
    Calls Try.prog 12 #[.pointer (some ⟨y, 0, none⟩)] w fun e w' => e = .returned (.tuple #[.int .i64 x, .int .i64 0]) ∧ RAt w' B y n l ∧ Keeps w w' ∧ Below B w w' := by
  obtain ⟨v, hy, hs, hB⟩ := hR
  rcases hs with ⟨_, h⟩ | ⟨g, off, cap, cur, rfl, hg, hh, h4, h5, h6, h7⟩
  · cases h
  · have hcell : w.cell? ⟨y, 1, none⟩ = some (.slice (some ⟨g, off, none⟩) (l.length + 1) cap) := cell_of_row w y 1 _ _ _ hy
    have hfr : w.frozen? ⟨y, 1, none⟩ = false := frozen_of_row w y 1 _ _ hy
    have hx : w.cell? ⟨g, off, none⟩ = some (.int .i64 x) := by
      rw [cell_of_row w g off cur 3 (0, 0) hh]
      exact h7 0 x rfl
    have hl : l.length + 1 ≤ cap := by simpa using h5
    have hne : g ≠ y := by rintro rfl; rw [hh] at hy; cases hy
    have H7 := Lib.hid h7
    have hys := fun v => set_row w y _ _ v 37 hy
    have hgs := fun v => heap_setCell_other w ⟨y, 1, none⟩ g v hne
    have kp : ∀ v, Keeps w (w.setCell ⟨y, 1, none⟩ v) := fun v k o ho ht => by
      rw [heap_setCell_other w ⟨y, 1, none⟩ k v (by rintro rfl; rw [hy] at ho; injection ho with ho; subst ho; exact absurd (ht _ _ _ rfl) (by decide))]
      exact ho
    have KP := Lib.hid kp
    have HYS := Lib.hid hys
    have HGS := Lib.hid hgs
    have HH := Lib.hid hh
    clear h7 hy hys hgs hh kp
    by_cases hc1 : cap = 1
    · subst hc1
      have h0 : l.length = 0 := by omega
      have hl0 : l = [] := List.eq_nil_of_length_eq_zero h0
      subst hl0
      go_enter Try.func12, Try.ntmps12
      go_wp2
      go_ret2
      refine ⟨rfl, ⟨_, HYS.out _, .inr ⟨g, off, 0, cur, rfl, hg, (HGS.out _).trans HH.out, by omega, by simp, by omega, fun i u hi => by simp at hi⟩, hB⟩, KP.out _, (Below.refl _ w).setCell hB _⟩
    · go_enter Try.func12, Try.ntmps12
      go_wp2
      go_ret2
      refine ⟨rfl, ⟨_, HYS.out _, .inr ⟨g, off + 1, cap - 1, cur, ?_, hg, (HGS.out _).trans HH.out, by omega, by omega, by omega, fun i u hi => ?_⟩, hB⟩, KP.out _, (Below.refl _ w).setCell hB _⟩
      · simp
      · rw [show off + 1 + i = off + (i + 1) by omega]
        exact H7.out (i + 1) u (by simpa using hi)

theorem new_cells (w : World) (x : Value) (t : TypeId) : ∀ j u, [x][j]? = some u → (w.alloc (.cells #[x] t)).cell? ((⟨w.heap.size, 0, none⟩ : Addr).add j) = some u := fun j u hu => by
  rw [add_plain, cell_of_row _ _ (0 + j) #[x] t (0, 0) (heap_alloc_new w _), Nat.zero_add]
  simpa using hu
/-- What a put does: it is told, and waits behind all others. -/
def PutPost (w : World) (B y n : Nat) (l : List Int) (e : Ending) (w' : World) : Prop := e = .returned (.int .i64 0) ∧ RAt w' B y n l ∧ Keeps w w' ∧ Below B w w'
theorem refPut_full (x : Int) (w : World) (hR : RAt w B y n l) (hn : l.length = n) (_hm : n ≤ 4096) :
    Calls Try.prog 16 #[.pointer (some ⟨y, 0, none⟩), .int .i64 x] w fun e w' => e = .returned (.int .i64 13) ∧ ∃ k, w' = w.drewN k := by
  obtain ⟨v, hy, hs, hB⟩ := hR
  obtain ⟨A, cap, rfl, hc, hmm, hL⟩ := hs.form
  have hcell : w.cell? ⟨y, 1, none⟩ = some (.slice A l.length cap) := cell_of_row w y 1 _ _ _ hy
  have hcell0 : w.cell? ⟨y, 0, none⟩ = some (.int .i64 (n : Int)) := cell_of_row w y 0 _ _ _ hy
  have ht : ((l.length : Int) == (n : Int)) = true := by simp; omega
  have HN := Lib.hid hn
  clear hn
  go_enter Try.func16, Try.ntmps16
  go_wp2_with fail
  go_quiet (fail)
  go_wp2_with fail
  go_ret
  exact ⟨rfl, _, rfl⟩

/-- From behind the test: the row grows. -/
theorem grow_ref {w W w' : World} {v v' : Value} {x : Int} (hB : B ≤ y) (hBw : B ≤ w.heap.size) (hy : w.heap[y]? = some (.cells #[.int .i64 (n : Int), v] 37 (0, 0))) (hW : Below w.heap.size w W)
    (hown : w'.ownsRow W.heap.size 3 1 v' (l.length + 1) (l.map vi ++ [vi x])) (hg : W.grownBy w' none) :
    RAt (w'.setCell ⟨y, 1, none⟩ v') B y n (l ++ [x]) ∧ Keeps w (w'.setCell ⟨y, 1, none⟩ v') ∧ Below B w (w'.setCell ⟨y, 1, none⟩ v') := by
  have hyl : y < w.heap.size := by
    rcases Nat.lt_or_ge y w.heap.size with h' | h'
    · exact h'
    · rw [Array.getElem?_eq_none h'] at hy; cases hy
  have hs := hW.size
  have hold : ∀ k, k < w.heap.size → w'.heap[k]? = w.heap[k]? := fun k hk => (hg.block k (by omega) (by simp)).trans (hW.block k hk)
  have hy' := (hold y hyl).trans hy
  refine ⟨⟨v', set_row w' y _ _ v' 37 hy', ?_, hB⟩, fun k o ho ht => ?_, ?_⟩
  · refine .inr ?_
    rcases hown.2 with ⟨_, h⟩ | ⟨g, cap, cur, rfl, hgb, hh, hnc, hmx, hsz, htk⟩
    · omega
    · refine ⟨g, 0, cap, cur, by simp, by omega, ?_, by omega, by simpa using hnc, by unfold maxLen at hmx; exact hmx, fun i u hi => ?_⟩
      · rw [heap_setCell_other w' ⟨y, 1, none⟩ g _ (by show g ≠ y; omega)]
        exact hh
      · have hi' := (List.getElem?_eq_some_iff.1 hi).1
        have e : (l.map vi ++ [vi x])[i]? = some (vi u) := by
          rw [show l.map vi ++ [vi x] = (l ++ [x]).map vi by simp, List.getElem?_map, hi]; rfl
        rw [← htk, List.getElem?_take] at e
        split at e
        · rw [Nat.zero_add]; simpa using e
        · cases e
  · have hk : k < w.heap.size := by
      rcases Nat.lt_or_ge k w.heap.size with h' | h'
      · exact h'
      · rw [Array.getElem?_eq_none h'] at ho; cases ho
    rw [heap_setCell_other w' ⟨y, 1, none⟩ k v' (by rintro rfl; rw [hy] at ho; injection ho with ho; subst ho; exact absurd (ht _ _ _ rfl) (by decide)), hold k hk]
    exact ho
  · refine (((hW.mono hBw).trans ⟨hg.os, hg.tape, hg.output, hg.size, fun k hk => hg.block k (by omega) (by simp)⟩)).setCell hB v'

set_option maxHeartbeats 1000000 in
theorem refPut_ok (x : Int) (w : World) (hR : RAt w B y n l) (hn : l.length < n) (hm : n ≤ 4096) (hBw : B ≤ w.heap.size) :
    Calls Try.prog 16 #[.pointer (some ⟨y, 0, none⟩), .int .i64 x] w (PutPost w B y n (l ++ [x])) := by
  obtain ⟨v, hy, hs, hB⟩ := hR
  obtain ⟨A, cap, rfl, hc, hmm, hL⟩ := hs.form
  have hcell : w.cell? ⟨y, 1, none⟩ = some (.slice A l.length cap) := cell_of_row w y 1 _ _ _ hy
  have hcell0 : w.cell? ⟨y, 0, none⟩ = some (.int .i64 (n : Int)) := cell_of_row w y 0 _ _ _ hy
  have hyl : y < w.heap.size := block_lt_of_cell hcell0
  have ht : ((l.length : Int) == (n : Int)) = false := by simp; omega
  obtain ⟨i0, hi, hz0, hz1, hz2⟩ := info_parts info_int
  go_enter Try.func16, Try.ntmps16
  go_wp2_with fail
  go_quiet (fail)
  by_cases hroom : l.length + 1 ≤ cap
  · rcases hs with ⟨h1, h2⟩ | ⟨g, off, cap', cur, h1, hg, hh, h4, h5, h6, h7⟩
    · injection h1 with _ _ h3; omega
    · injection h1 with h1 h2 h3
      subst h1 h3
      have hne : g ≠ y := by rintro rfl; rw [hh] at hy; cases hy
      have hlie := Lies.new (w.drewN nq) #[.int .i64 x] 3
      have hgl : g < w.heap.size := by
        rcases Nat.lt_or_ge g w.heap.size with h' | h'
        · exact h'
        · rw [Array.getElem?_eq_none h'] at hh; cases hh
      have hgW : ((w.drewN nq).alloc (.cells #[.int .i64 x] 3)).heap[g]? = some (.cells cur 3 (0, 0)) := (Below.heap_alloc _ _ g hgl).trans hh
      have hyW : ((w.drewN nq).alloc (.cells #[.int .i64 x] 3)).heap[y]? = some (.cells #[.int .i64 (n : Int), .slice (some ⟨g, off, none⟩) l.length cap] 37 (0, 0)) := (Below.heap_alloc _ _ y hyl).trans hy
      have hWb : Below w.heap.size w ((w.drewN nq).alloc (.cells #[.int .i64 x] 3)) := (below_drawn (Below.refl _ w) nq).alloc (Nat.le_refl _) _
      have hcs : cur.size > off + l.length := by omega
      have hold : ∀ j u, (l.map vi)[j]? = some u → ((w.drewN nq).alloc (.cells #[.int .i64 x] 3)).cell? ⟨g, off + j, none⟩ = some u := fun j u hu => by
        rw [List.getElem?_map] at hu
        obtain ⟨z, hz, rfl⟩ := Option.map_eq_some_iff.1 hu
        rw [cell_of_row _ g (off + j) cur 3 (0, 0) hgW]
        exact h7 j z hz
      have hnew : ∀ j u, [Value.int .i64 x][j]? = some u → ((w.drewN nq).alloc (.cells #[.int .i64 x] 3)).cell? ((⟨w.heap.size, 0, none⟩ : Addr).add j) = some u := new_cells (w.drewN nq) (.int .i64 x) 3
      have hsp : ∀ j, j < [Value.int .i64 x].length → (((w.drewN nq).alloc (.cells #[.int .i64 x] 3)).cell? ⟨g, off + l.length * 1 + j, none⟩).isSome = true ∧ ((w.drewN nq).alloc (.cells #[.int .i64 x] 3)).frozen? ⟨g, off + l.length * 1 + j, none⟩ = false := fun j hj => by
        simp at hj
        subst hj
        refine ⟨?_, frozen_of_row _ g _ cur 3 hgW⟩
        rw [cell_of_row _ g _ cur 3 (0, 0) hgW, Array.getElem?_eq_getElem (by omega)]
        rfl
      have hyS := (heap_setCell_other ((w.drewN nq).alloc (.cells #[.int .i64 x] 3)) ⟨g, off + l.length, none⟩ y (.int .i64 x) (Ne.symm hne)).trans hyW
      have hc1 := cell_of_row _ y 1 _ _ _ hyS
      have hf1 := frozen_of_row _ y 1 _ _ hyS
      have hgS := heap_setCell_same ((w.drewN nq).alloc (.cells #[.int .i64 x] 3)) g (off + l.length) cur 3 (.int .i64 x) hgW
      have fin : PutPost w B y n (l ++ [x]) (.returned (.int .i64 0)) ((((w.drewN nq).alloc (.cells #[.int .i64 x] 3)).setCell ⟨g, off + l.length, none⟩ (.int .i64 x)).setCell ⟨y, 1, none⟩ (.slice (some ⟨g, off, none⟩) (l.length + 1) cap)) := by
        refine ⟨rfl, ⟨_, set_row _ y _ _ _ 37 hyS, .inr ⟨g, off, cap, _, by simp, hg, (heap_setCell_other _ ⟨y, 1, none⟩ g _ hne).trans hgS, by simpa using h4, by simpa using hroom, h6, fun i u hi => ?_⟩, hB⟩, fun k o ho htt => ?_, ?_⟩
        · rw [Array.getElem?_setIfInBounds]
          by_cases e : off + l.length = off + i
          · rw [if_pos e, if_pos (by omega)]
            have ei : i = l.length := by omega
            subst ei
            simp at hi
            rw [← hi]; rfl
          · rw [if_neg e]
            have hi' : i < l.length := by have := (List.getElem?_eq_some_iff.1 hi).1; simp at this; omega
            rw [List.getElem?_append_left hi'] at hi
            exact h7 i u hi
        · have hk : k < w.heap.size := by
            rcases Nat.lt_or_ge k w.heap.size with h' | h'
            · exact h'
            · rw [Array.getElem?_eq_none h'] at ho; cases ho
          rw [heap_setCell_other _ ⟨y, 1, none⟩ k _ (by rintro rfl; rw [hy] at ho; injection ho with ho; subst ho; exact absurd (htt _ _ _ rfl) (by decide)),
            heap_setCell_other _ ⟨g, off + l.length, none⟩ k _ (by rintro rfl; rw [hh] at ho; injection ho with ho; subst ho; exact absurd (htt _ _ _ rfl) (by decide)), hWb.block k hk]
          exact ho
        · exact (((hWb.mono hBw).setCell hg _).setCell hB _)
      have FIN := Lib.hid fin
      have HR := Lib.hid hroom
      clear hyW hgW hyS hgS hgl hWb hcs h7 hh hy hlie fin hroom
      go_wp2_with (at_builtin; refine wpList_append_arg _ rfl (.tmp 19) (.tmp 21) 22 rfl 3 i0 _ 1 8 Try.underlying22 hi hz0 hz1 hz2 rfl (by omega) g off l.length cap (l.map vi) rfl (by simp) hold ⟨w.heap.size, 0, none⟩ 1 1 [.int .i64 x] rfl rfl hnew (by intro u hu; simp at hu; subst hu; rfl) (fun _ => hsp) (by simp only [maxLen]; omega) (by omega) (fun _ => ?_) (fun h => absurd HR.out (by omega)); rw [Nat.mul_one]; unfold World.setCells World.setCells)
      go_ret
      exact FIN.out
  · have hnone : A = none → l.length = 0 ∧ cap = 0 := by
      rintro rfl
      rcases hs with ⟨h1, h2⟩ | ⟨g, off, cap', cur, h1, _⟩
      · injection h1 with _ h3 h4; exact ⟨h3, h4⟩
      · injection h1 with h1; cases h1
    have hW : Below w.heap.size w ((w.drewN nq).alloc (.cells #[.int .i64 x] 3)) := (below_drawn (Below.refl _ w) nq).alloc (Nat.le_refl _) _
    have hLW := hL.below hW
    have hold : ∀ b, A = some b → ∀ j u, (l.map vi)[j]? = some u → ((w.drewN nq).alloc (.cells #[.int .i64 x] 3)).cell? (b.add j) = some u := fun b hb j u hu => by
      have hj := (List.getElem?_eq_some_iff.1 hu).1
      obtain ⟨b', off, e, _, hc'⟩ := hLW (by omega)
      rw [hb] at e
      injection e with e
      subst e
      rw [add_plain]
      exact hc' j u hu
    have hnew : ∀ j u, [Value.int .i64 x][j]? = some u → ((w.drewN nq).alloc (.cells #[.int .i64 x] 3)).cell? ((⟨w.heap.size, 0, none⟩ : Addr).add j) = some u := new_cells (w.drewN nq) (.int .i64 x) 3
    have HY := Lib.hid hy
    have HWB := Lib.hid hW
    clear hy hW hLW hL hs
    go_wp2_with (at_builtin; (refine wpList_append_grows _ rfl (.tmp 19) (.tmp 21) 22 rfl 3 i0 _ 1 8 Try.underlying22 hi hz0 hz1 hz2 rfl (by omega) A l.length cap (l.map vi) rfl hnone (by simp) hold ⟨w.heap.size, 0, none⟩ 1 1 [.int .i64 x] rfl rfl hnew (by intro u hu; simp at hu; subst hu; rfl) (by omega) (by simp only [maxLen]; omega) (by omega) ?_); intro v' w' hown hg'; have hyy := (hg'.block y (by simp; omega) (by simp)).trans ((HWB.out.block y hyl).trans HY.out); have hc1 := cell_of_row w' y 1 _ _ _ hyy; have hf1 := frozen_of_row w' y 1 _ _ hyy; have G := Lib.hid (grow_ref hB hBw HY.out HWB.out hown hg'); obtain ⟨A', cap', rfl, _, _⟩ := own_form hown; clear hown hg' hyy)
    go_ret
    exact ⟨rfl, G.out⟩
end
end Go.Proofs.Ytlpbnhnnbmgdaaa.Q
