/- WORDS of atoms.Of: its rounds in plain words; its three rows, its map, its block. No conditions. -/
import Derived.Test.YtpjoefekhgmlhaaGreatMa28
namespace Go.Proofs.YtpjoefekhgmlhaaGreat.Tp
open Go.RowKit Mem

/-- Where atoms begin, which vector they have, the vectors. -/
structure AtS where
  F : List Nat
  H : List Nat
  V : List (List Int)
def lastZ (H : List Nat) : Int := match H.getLast? with
  | none => -1
  | some i => (i : Int)
theorem lastZ_snoc (H : List Nat) (i : Nat) : lastZ (H ++ [i]) = (i : Int) := by unfold lastZ; simp
def atStep (net : List (List RuleT)) (s : AtS) (a : Nat) : AtS :=
  if vecL net a ∈ s.V then (if lastZ s.H = ((s.V.idxOf (vecL net a) : Nat) : Int) then s else ⟨s.F ++ [a], s.H ++ [s.V.idxOf (vecL net a)], s.V⟩)
  else ⟨s.F ++ [a], s.H ++ [s.V.length], s.V ++ [vecL net a]⟩
def atomsTo (net : List (List RuleT)) (l : List Nat) : AtS := l.foldl (atStep net) ⟨[], [], []⟩
def atomsN (net : List (List RuleT)) : AtS := atomsTo net (cutsL net)
theorem atomsTo_next {net : List (List RuleT)} {l : List Nat} {k : Nat} (h : k < l.length) : atomsTo net (l.take (k + 1)) = atStep net (atomsTo net (l.take k)) l[k] := by
  rw [List.take_succ_eq_append_getElem h, atomsTo, List.foldl_append]; rfl
theorem atStep_stay {net : List (List RuleT)} {s : AtS} {a : Nat} (h : vecL net a ∈ s.V) (hl : ((s.V.idxOf (vecL net a) : Nat) : Int) = lastZ s.H) : atStep net s a = s := by
  unfold atStep; rw [if_pos h, if_pos hl.symm]
theorem atStep_met {net : List (List RuleT)} {s : AtS} {a : Nat} (h : vecL net a ∈ s.V) (hl : ¬ ((s.V.idxOf (vecL net a) : Nat) : Int) = lastZ s.H) : atStep net s a = ⟨s.F ++ [a], s.H ++ [s.V.idxOf (vecL net a)], s.V⟩ := by
  unfold atStep; rw [if_pos h, if_neg fun e => hl e.symm]
theorem atStep_new {net : List (List RuleT)} {s : AtS} {a : Nat} (h : vecL net a ∉ s.V) : atStep net s a = ⟨s.F ++ [a], s.H ++ [s.V.length], s.V ++ [vecL net a]⟩ := by
  unfold atStep; rw [if_neg h]

/-! ### memory -/
def ob (A : Option Addr) : Option Nat := (Value.slice A 0 0).ownBlock
theorem ob_eq (A : Option Addr) (n c : Nat) : (Value.slice A n c).ownBlock = ob A := by cases A <;> rfl
theorem grown_set (W : World) (p : Addr) (u : Value) : W.grownBy (W.setCell p u) (some p.block) :=
  ⟨rfl, rfl, rfl, by simp, fun k _ hne => Below.heap_setCell W p u k (fun e => hne (by rw [e]))⟩
theorem lies_stay {W W2 : World} {A : Option Addr} {xs : List Value} (h : Lies W A xs) (hs : W.heap.size ≤ W2.heap.size) (hk : 0 < xs.length → ∀ a, A = some a → W2.heap[a.block]? = W.heap[a.block]?) : Lies W2 A xs := fun hn => by
  obtain ⟨b, off, e, hb, hc⟩ := h hn
  have hh : W2.heap[b]? = W.heap[b]? := hk hn _ e
  exact ⟨b, off, e, Nat.lt_of_lt_of_le hb hs, fun i u hu => (World.cell?_of_block (w := W) (a := ⟨b, off + i, none⟩) hh).trans (hc i u hu)⟩
theorem lies_block {W : World} {A : Option Addr} {xs : List Value} (h : Lies W A xs) (hn : 0 < xs.length) : ∀ a, A = some a → a.block < W.heap.size := fun a ha => by
  obtain ⟨b, off, e, hb, hc⟩ := h hn
  rw [ha] at e
  injection e with e
  rw [e]; exact hb
/-- The blocks that are written. -/
def Tk (x mb : Nat) (F H V : Option Addr) (b : Nat) : Prop := b = x ∨ b = mb ∨ ob F = some b ∨ ob H = some b ∨ ob V = some b
structure AtAp (x mb : Nat) (F H V : Option Addr) : Prop where
  f : ∀ g, ob F = some g → g ≠ x ∧ g ≠ mb ∧ ob H ≠ some g ∧ ob V ≠ some g
  h : ∀ g, ob H = some g → g ≠ x ∧ g ≠ mb ∧ ob F ≠ some g ∧ ob V ≠ some g
  v : ∀ g, ob V = some g → g ≠ x ∧ g ≠ mb ∧ ob F ≠ some g ∧ ob H ≠ some g
  m : mb ≠ x
structure VecsAt (base : Nat) (W : World) (T : Nat → Prop) (rows : List Value) (V : List (List Int)) : Prop where
  len : rows.length = V.length
  row : ∀ i (hi : i < V.length), ∃ R m, rows[i]? = some (.slice R V[i].length m) ∧ Lies W R (Gr.ints V[i]) ∧ (0 < V[i].length → ∀ a, R = some a → base ≤ a.block ∧ ¬ T a.block)
theorem VecsAt.step {base : Nat} {W W2 : World} {T T2 : Nat → Prop} {rows : List Value} {V : List (List Int)} (h : VecsAt base W T rows V) (hs : W.heap.size ≤ W2.heap.size) (hk : ∀ b, b < W.heap.size → ¬ T b → W2.heap[b]? = W.heap[b]?) (hT : ∀ b, b < W.heap.size → T2 b → T b) : VecsAt base W2 T2 rows V :=
  ⟨h.len, fun i hi => by
    obtain ⟨R, m, e, hL, hap⟩ := h.row i hi
    have hlt : 0 < V[i].length → ∀ a, R = some a → a.block < W.heap.size := fun hn => lies_block hL (by simpa [Gr.ints] using hn)
    refine ⟨R, m, e, lies_stay hL hs (fun hn a ha => ?_), fun hn a ha => ⟨(hap hn a ha).1, fun ht => (hap hn a ha).2 (hT _ (hlt hn a ha) ht)⟩⟩
    have hn' : 0 < V[i].length := by simpa [Gr.ints] using hn
    exact hk _ (hlt hn' a ha) (hap hn' a ha).2⟩
theorem VecsAt.snoc {base : Nat} {W : World} {T : Nat → Prop} {rows : List Value} {V : List (List Int)} (h : VecsAt base W T rows V) {R : Option Addr} {v : List Int} {m : Nat} (hL : Lies W R (Gr.ints v)) (hap : 0 < v.length → ∀ a, R = some a → base ≤ a.block ∧ ¬ T a.block) : VecsAt base W T (rows ++ [.slice R v.length m]) (V ++ [v]) := by
  refine ⟨by simp [h.len], fun i hi => ?_⟩
  rw [List.length_append, List.length_singleton] at hi
  by_cases e : i < V.length
  · obtain ⟨R', m', e', hh⟩ := h.row i e
    refine ⟨R', m', ?_, ?_⟩
    · rw [List.getElem?_append_left (by rw [h.len]; exact e), List.getElem_append_left e]; exact e'
    · rw [List.getElem_append_left e]; exact hh
  · have ei : i = V.length := by omega
    subst ei
    refine ⟨R, m, ?_, ?_⟩
    · rw [List.getElem?_append_right (by rw [h.len]; exact Nat.le_refl _), h.len]; simp
    · simpa using ⟨hL, hap⟩
/-- Blocks x and mb apart, all of w0 lies as it did. -/
structure Far (w0 W : World) (x mb : Nat) : Prop where
  os : W.os = w0.os
  tape : W.tape = w0.tape
  output : W.output = w0.output
  size : w0.heap.size ≤ W.heap.size
  block : ∀ b, b < w0.heap.size → b ≠ x → b ≠ mb → W.heap[b]? = w0.heap[b]?
theorem Far.refl (w0 : World) (x mb : Nat) : Far w0 w0 x mb := ⟨rfl, rfl, rfl, Nat.le_refl _, fun _ _ _ _ => rfl⟩
theorem Far.below {w0 W : World} {x mb B : Nat} (h : Far w0 W x mb) (hx : B ≤ x) (hm : B ≤ mb) (hB : B ≤ w0.heap.size) : Below B w0 W :=
  ⟨h.os, h.tape, h.output, h.size, fun b hb => h.block b (by omega) (by omega) (by omega)⟩
theorem Far.on {w0 W W' : World} {x mb : Nat} (h : Far w0 W x mb) (hb : Below W.heap.size W W') : Far w0 W' x mb :=
  ⟨hb.os.trans h.os, hb.tape.trans h.tape, hb.output.trans h.output, Nat.le_trans h.size hb.size, fun b hlt h1 h2 => (hb.block b (Nat.lt_of_lt_of_le hlt h.size)).trans (h.block b hlt h1 h2)⟩
theorem Far.two {w0 W W' : World} {x mb : Nat} {t : Option Nat} (h : Far w0 W x mb) (hg : W.grownBy W' t) (ht : ∀ g, t = some g → w0.heap.size ≤ g) (j : Nat) (v : Value) : Far w0 (W'.setCell ⟨x, j, none⟩ v) x mb :=
  ⟨hg.os.trans h.os, hg.tape.trans h.tape, hg.output.trans h.output, by simpa using Nat.le_trans h.size hg.size, fun b hlt h1 h2 => ((Below.heap_setCell W' ⟨x, j, none⟩ v b h1).trans (hg.block b (Nat.lt_of_lt_of_le hlt h.size) (fun e => by have := ht b e.symm; omega))).trans (h.block b hlt h1 h2)⟩
theorem Far.put {w0 W W' : World} {x mb : Nat} (h : Far w0 W x mb) (hg : W.grownBy W' (some mb)) : Far w0 W' x mb :=
  ⟨hg.os.trans h.os, hg.tape.trans h.tape, hg.output.trans h.output, Nat.le_trans h.size hg.size, fun b hlt h1 h2 => (hg.block b (Nat.lt_of_lt_of_le hlt h.size) (fun e => h2 (by injection e))).trans (h.block b hlt h1 h2)⟩
theorem Far.lies {w0 W : World} {x mb : Nat} {A : Option Addr} {xs : List Value} (h : Far w0 W x mb) (hL : Lies w0 A xs) (hn : ∀ a, A = some a → x < a.block ∧ mb < a.block) : Lies W A xs :=
  lies_stay hL h.size fun hn0 a ha => h.block _ (lies_block hL hn0 a ha) (by have := hn a ha; omega) (by have := hn a ha; omega)
/-- The state of a round. -/
structure AtSt (w0 W : World) (x mb : Nat) (F H V : Option Addr) (nf nh nv cf ch cv : Nat) (s : AtS) (rows : List Value) (n : Nat) (D : DataW Unit) : Prop where
  row : VRow W x [.slice F nf cf, .slice H nh ch, .slice V nv cv]
  ownF : W.ownsRow w0.heap.size 25 1 (.slice F nf cf) nf (u32s s.F)
  ownH : W.ownsRow w0.heap.size 3 1 (.slice H nh ch) nh (nums s.H)
  ownV : W.ownsRow w0.heap.size 29 1 (.slice V nv cv) nv rows
  map : W.ownsMap Tryz.prog 9 (plainElem Tryz.prog 3) mb n D
  vecs : VecsAt w0.heap.size W (Tk x mb F H V) rows s.V
  ap : AtAp x mb F H V
  far : Far w0 W x mb
section
variable {w0 W W' : World} {x mb : Nat} {F H V : Option Addr} {nf nh nv cf ch cv : Nat} {s : AtS} {rows : List Value} {n : Nat} {D : DataW Unit}
theorem AtSt.below (h : AtSt w0 W x mb F H V nf nh nv cf ch cv s rows n D) (hb : Below W.heap.size W W') : AtSt w0 W' x mb F H V nf nh nv cf ch cv s rows n D :=
  ⟨h.row.below hb h.row.lt, own_below h.ownF hb, own_below h.ownH hb, own_below h.ownV hb, map_below h.map hb, h.vecs.step hb.size (fun b hb' _ => hb.block b hb') (fun _ _ ht => ht), h.ap, h.far.on hb⟩
theorem AtSt.lt (h : AtSt w0 W x mb F H V nf nh nv cf ch cv s rows n D) : (∀ g, ob F = some g → w0.heap.size ≤ g ∧ g < W.heap.size) ∧ (∀ g, ob H = some g → w0.heap.size ≤ g ∧ g < W.heap.size) ∧ (∀ g, ob V = some g → w0.heap.size ≤ g ∧ g < W.heap.size) :=
  ⟨fun g hg => h.ownF.lt g (by rw [ob_eq]; exact hg), fun g hg => h.ownH.lt g (by rw [ob_eq]; exact hg), fun g hg => h.ownV.lt g (by rw [ob_eq]; exact hg)⟩
theorem own_two {base : Nat} {e : TypeId} {A : Option Addr} {k c : Nat} {xs : List Value} {t : Option Nat} (h : W.ownsRow base e 1 (.slice A k c) k xs) (hg : W.grownBy W' t) (ht : ∀ g, ob A = some g → t ≠ some g) (hx : ob A ≠ some x) (j : Nat) (v : Value) : (W'.setCell ⟨x, j, none⟩ v).ownsRow base e 1 (.slice A k c) k xs := by
  refine ownsRow_setCell_other (h.kept hg ?_) (by rw [ob_eq]; exact hx) v
  rw [ob_eq]
  cases ho : ob A with
  | none => exact .inl rfl
  | some g => exact .inr fun e => ht g ho e.symm
theorem map_two {t : Option Nat} (h : W.ownsMap Tryz.prog 9 (plainElem (H := Unit) Tryz.prog 3) mb n D) (hg : W.grownBy W' t) (ht : t ≠ some mb) (hx : mb ≠ x) (j : Nat) (v : Value) : (W'.setCell ⟨x, j, none⟩ v).ownsMap Tryz.prog 9 (plainElem Tryz.prog 3) mb n D :=
  (h.kept hg fun e => ht e.symm).kept (grown_set W' ⟨x, j, none⟩ v) fun e => hx (by injection e)
theorem heap_two {t : Option Nat} (hg : W.grownBy W' t) (j : Nat) (v : Value) {b : Nat} (hb : b < W.heap.size) (ht : t ≠ some b) (hx : b ≠ x) : (W'.setCell ⟨x, j, none⟩ v).heap[b]? = W.heap[b]? :=
  (Below.heap_setCell W' ⟨x, j, none⟩ v b hx).trans (hg.block b hb fun e => ht e.symm)
theorem AtSt.appF (h : AtSt w0 W x mb F H V nf nh nv cf ch cv s rows n D) {a cf' : Nat} {F' : Option Addr} (hown : W'.ownsRow w0.heap.size 25 1 (.slice F' (nf + 1) cf') (nf + 1) (u32s s.F ++ [.int .u32 (a : Int)])) (hg : W.grownBy W' (Value.slice F nf cf).ownBlock) (hat : (Value.slice F' (nf + 1) cf').ownBlock = (Value.slice F nf cf).ownBlock ∨ (Value.slice F' (nf + 1) cf').ownBlock = some W.heap.size) :
    VRow W' x [.slice F nf cf, .slice H nh ch, .slice V nv cv] ∧ AtSt w0 (W'.setCell ⟨x, 0, none⟩ (.slice F' (nf + 1) cf')) x mb F' H V (nf + 1) nh nv cf' ch cv ⟨s.F ++ [a], s.H, s.V⟩ rows n D := by
  have hlt := h.lt
  have hxl := h.row.lt
  have hml := h.map.lt
  rw [ob_eq] at hg
  rw [ob_eq, ob_eq] at hat
  have hr : VRow W' x [.slice F nf cf, .slice H nh ch, .slice V nv cv] := h.row.keep hg.size (hg.block x hxl (fun e => (h.ap.f x e.symm).1 rfl))
  have hap : AtAp x mb F' H V := by
    refine ⟨fun g hF => ?_, fun g hH => ?_, fun g hV => ?_, h.ap.m⟩
    · rcases hat with e | e
      · exact h.ap.f g (by rw [← e]; exact hF)
      · rw [e] at hF
        injection hF with hF
        exact ⟨by omega, by omega, fun e => by have := (hlt.2.1 g e).2; omega, fun e => by have := (hlt.2.2 g e).2; omega⟩
    · have h1 := h.ap.h g hH
      have h2 := hlt.2.1 g hH
      refine ⟨h1.1, h1.2.1, fun e' => ?_, h1.2.2.2⟩
      rcases hat with e | e
      · exact h1.2.2.1 (by rw [← e]; exact e')
      · rw [e] at e'; injection e' with e'; omega
    · have h1 := h.ap.v g hV
      have h2 := hlt.2.2 g hV
      refine ⟨h1.1, h1.2.1, fun e' => ?_, h1.2.2.2⟩
      rcases hat with e | e
      · exact h1.2.2.1 (by rw [← e]; exact e')
      · rw [e] at e'; injection e' with e'; omega
  refine ⟨hr, hr.set_ 0 _, ?_, own_two h.ownH hg (fun g hH e => (h.ap.h g hH).2.2.1 e) (fun e => (h.ap.h x e).1 rfl) _ _, own_two h.ownV hg (fun g hV e => (h.ap.v g hV).2.2.1 e) (fun e => (h.ap.v x e).1 rfl) _ _, map_two h.map hg (fun e => (h.ap.f mb e).2.1 rfl) h.ap.m _ _, ?_, hap, h.far.two hg (fun g e => (hlt.1 g e).1) _ _⟩
  · have := ownsRow_setCell_other hown (a := ⟨x, 0, none⟩) (by rw [ob_eq]; exact fun e => (hap.f x e).1 rfl) (.slice F' (nf + 1) cf')
    simpa [u32s] using this
  · refine h.vecs.step (by simpa using hg.size) (fun b hb ht => heap_two hg _ _ hb (fun e => ht (.inr (.inr (.inl e)))) (fun e => ht (.inl e))) (fun b hb ht => ?_)
    rcases ht with e | e | e | e
    · exact .inl e
    · exact .inr (.inl e)
    · rcases hat with e' | e'
      · exact .inr (.inr (.inl (by rw [← e']; exact e)))
      · rw [e'] at e; injection e with e; omega
    · exact .inr (.inr (.inr e))
theorem AtSt.appH (h : AtSt w0 W x mb F H V nf nh nv cf ch cv s rows n D) {a ch' : Nat} {H' : Option Addr} (hown : W'.ownsRow w0.heap.size 3 1 (.slice H' (nh + 1) ch') (nh + 1) (nums s.H ++ [.int .i64 (a : Int)])) (hg : W.grownBy W' (Value.slice H nh ch).ownBlock) (hat : (Value.slice H' (nh + 1) ch').ownBlock = (Value.slice H nh ch).ownBlock ∨ (Value.slice H' (nh + 1) ch').ownBlock = some W.heap.size) :
    VRow W' x [.slice F nf cf, .slice H nh ch, .slice V nv cv] ∧ AtSt w0 (W'.setCell ⟨x, 1, none⟩ (.slice H' (nh + 1) ch')) x mb F H' V nf (nh + 1) nv cf ch' cv ⟨s.F, s.H ++ [a], s.V⟩ rows n D := by
  have hlt := h.lt
  have hxl := h.row.lt
  have hml := h.map.lt
  rw [ob_eq] at hg
  rw [ob_eq, ob_eq] at hat
  have hr : VRow W' x [.slice F nf cf, .slice H nh ch, .slice V nv cv] := h.row.keep hg.size (hg.block x hxl (fun e => (h.ap.h x e.symm).1 rfl))
  have hap : AtAp x mb F H' V := by
    refine ⟨fun g hF => ?_, fun g hH => ?_, fun g hV => ?_, h.ap.m⟩
    · have h1 := h.ap.f g hF
      have h2 := hlt.1 g hF
      refine ⟨h1.1, h1.2.1, fun e' => ?_, h1.2.2.2⟩
      rcases hat with e | e
      · exact h1.2.2.1 (by rw [← e]; exact e')
      · rw [e] at e'; injection e' with e'; omega
    · rcases hat with e | e
      · exact h.ap.h g (by rw [← e]; exact hH)
      · rw [e] at hH
        injection hH with hH
        exact ⟨by omega, by omega, fun e => by have := (hlt.1 g e).2; omega, fun e => by have := (hlt.2.2 g e).2; omega⟩
    · have h1 := h.ap.v g hV
      have h2 := hlt.2.2 g hV
      refine ⟨h1.1, h1.2.1, h1.2.2.1, fun e' => ?_⟩
      rcases hat with e | e
      · exact h1.2.2.2 (by rw [← e]; exact e')
      · rw [e] at e'; injection e' with e'; omega
  refine ⟨hr, hr.set_ 1 _, own_two h.ownF hg (fun g hF e => (h.ap.f g hF).2.2.1 e) (fun e => (h.ap.f x e).1 rfl) _ _, ?_, own_two h.ownV hg (fun g hV e => (h.ap.v g hV).2.2.2 e) (fun e => (h.ap.v x e).1 rfl) _ _, map_two h.map hg (fun e => (h.ap.h mb e).2.1 rfl) h.ap.m _ _, ?_, hap, h.far.two hg (fun g e => (hlt.2.1 g e).1) _ _⟩
  · have := ownsRow_setCell_other hown (a := ⟨x, 1, none⟩) (by rw [ob_eq]; exact fun e => (hap.h x e).1 rfl) (.slice H' (nh + 1) ch')
    simpa [nums, Gr.ints] using this
  · refine h.vecs.step (by simpa using hg.size) (fun b hb ht => heap_two hg _ _ hb (fun e => ht (.inr (.inr (.inr (.inl e))))) (fun e => ht (.inl e))) (fun b hb ht => ?_)
    rcases ht with e | e | e | e | e
    · exact .inl e
    · exact .inr (.inl e)
    · exact .inr (.inr (.inl e))
    · rcases hat with e' | e'
      · exact .inr (.inr (.inr (.inl (by rw [← e']; exact e))))
      · rw [e'] at e; injection e with e; omega
    · exact .inr (.inr (.inr (.inr e)))
theorem AtSt.appV (h : AtSt w0 W x mb F H V nf nh nv cf ch cv s rows n D) {cv' : Nat} {V' : Option Addr} {R : Option Addr} {v : List Int} {m : Nat} (hL : Lies W R (Gr.ints v)) (hap0 : 0 < v.length → ∀ a, R = some a → w0.heap.size ≤ a.block ∧ ¬ Tk x mb F H V a.block) (hown : W'.ownsRow w0.heap.size 29 1 (.slice V' (nv + 1) cv') (nv + 1) (rows ++ [.slice R v.length m])) (hg : W.grownBy W' (Value.slice V nv cv).ownBlock) (hat : (Value.slice V' (nv + 1) cv').ownBlock = (Value.slice V nv cv).ownBlock ∨ (Value.slice V' (nv + 1) cv').ownBlock = some W.heap.size) :
    VRow W' x [.slice F nf cf, .slice H nh ch, .slice V nv cv] ∧ AtSt w0 (W'.setCell ⟨x, 2, none⟩ (.slice V' (nv + 1) cv')) x mb F H V' nf nh (nv + 1) cf ch cv' ⟨s.F, s.H, s.V ++ [v]⟩ (rows ++ [.slice R v.length m]) n D := by
  have hlt := h.lt
  have hxl := h.row.lt
  have hml := h.map.lt
  rw [ob_eq] at hg
  rw [ob_eq, ob_eq] at hat
  have hr : VRow W' x [.slice F nf cf, .slice H nh ch, .slice V nv cv] := h.row.keep hg.size (hg.block x hxl (fun e => (h.ap.v x e.symm).1 rfl))
  have hap : AtAp x mb F H V' := by
    refine ⟨fun g hF => ?_, fun g hH => ?_, fun g hV => ?_, h.ap.m⟩
    · have h1 := h.ap.f g hF
      have h2 := hlt.1 g hF
      refine ⟨h1.1, h1.2.1, h1.2.2.1, fun e' => ?_⟩
      rcases hat with e | e
      · exact h1.2.2.2 (by rw [← e]; exact e')
      · rw [e] at e'; injection e' with e'; omega
    · have h1 := h.ap.h g hH
      have h2 := hlt.2.1 g hH
      refine ⟨h1.1, h1.2.1, h1.2.2.1, fun e' => ?_⟩
      rcases hat with e | e
      · exact h1.2.2.2 (by rw [← e]; exact e')
      · rw [e] at e'; injection e' with e'; omega
    · rcases hat with e | e
      · exact h.ap.v g (by rw [← e]; exact hV)
      · rw [e] at hV
        injection hV with hV
        exact ⟨by omega, by omega, fun e => by have := (hlt.1 g e).2; omega, fun e => by have := (hlt.2.1 g e).2; omega⟩
  refine ⟨hr, hr.set_ 2 _, own_two h.ownF hg (fun g hF e => (h.ap.f g hF).2.2.2 e) (fun e => (h.ap.f x e).1 rfl) _ _, own_two h.ownH hg (fun g hH e => (h.ap.h g hH).2.2.2 e) (fun e => (h.ap.h x e).1 rfl) _ _, ?_, map_two h.map hg (fun e => (h.ap.v mb e).2.1 rfl) h.ap.m _ _, ?_, hap, h.far.two hg (fun g e => (hlt.2.2 g e).1) _ _⟩
  · exact ownsRow_setCell_other hown (a := ⟨x, 2, none⟩) (by rw [ob_eq]; exact fun e => (hap.v x e).1 rfl) (.slice V' (nv + 1) cv')
  · refine (h.vecs.snoc hL hap0).step (by simpa using hg.size) (fun b hb ht => heap_two hg _ _ hb (fun e => ht (.inr (.inr (.inr (.inr e))))) (fun e => ht (.inl e))) (fun b hb ht => ?_)
    rcases ht with e | e | e | e | e
    · exact .inl e
    · exact .inr (.inl e)
    · exact .inr (.inr (.inl e))
    · exact .inr (.inr (.inr (.inl e)))
    · rcases hat with e' | e'
      · exact .inr (.inr (.inr (.inr (by rw [← e']; exact e))))
      · rw [e'] at e; injection e with e; omega
theorem AtSt.upd (h : AtSt w0 W x mb F H V nf nh nv cf ch cv s rows n D) {n' : Nat} {D' : DataW Unit} (hmap : W'.ownsMap Tryz.prog 9 (plainElem Tryz.prog 3) mb n' D') (hg : W.grownBy W' (some mb)) : AtSt w0 W' x mb F H V nf nh nv cf ch cv s rows n' D' := by
  have k : ∀ A : Option Addr, (∀ g, ob A = some g → g ≠ mb) → ∀ a b, (Value.slice A a b).ownBlock = none ∨ (Value.slice A a b).ownBlock ≠ some mb := fun A hA a b => .inr fun e => by
    rw [ob_eq] at e; exact hA mb e rfl
  exact ⟨h.row.keep hg.size (hg.block x h.row.lt (fun e => h.ap.m (by injection e with e; exact e.symm))), h.ownF.kept hg (k _ (fun g hg => (h.ap.f g hg).2.1) _ _), h.ownH.kept hg (k _ (fun g hg => (h.ap.h g hg).2.1) _ _), h.ownV.kept hg (k _ (fun g hg => (h.ap.v g hg).2.1) _ _), hmap, h.vecs.step hg.size (fun b hb ht => hg.block b hb (fun e => ht (.inr (.inl (by injection e))))) (fun _ _ ht => ht), h.ap, h.far.put hg⟩
/-- Atoms in memory. -/
def AtomsAt (W : World) (F H V : Option Addr) (s : AtS) : Prop := Lies W F (u32s s.F) ∧ Lies W H (nums s.H) ∧ ∃ rows, Lies W V rows ∧ VecsAt 0 W (fun _ => False) rows s.V
theorem AtSt.done {W2 : World} (h : AtSt w0 W x mb F H V nf nh nv cf ch cv s rows n D) (hs : W.heap.size ≤ W2.heap.size) (hk : ∀ b, w0.heap.size ≤ b → b < W.heap.size → W2.heap[b]? = W.heap[b]?) : AtomsAt W2 F H V s := by
  have k : ∀ {A : Option Addr} {e : TypeId} {m c : Nat} {xs : List Value}, W.ownsRow w0.heap.size e 1 (.slice A m c) m xs → Lies W2 A xs := fun {A e m c xs} ho => lies_stay (.of_own ho) hs fun hn a ha => by
    have := ho.lt a.block (by rw [ha]; rfl)
    exact hk _ this.1 this.2
  refine ⟨k h.ownF, k h.ownH, rows, k h.ownV, h.vecs.len, fun i hi => ?_⟩
  obtain ⟨R, m, e, hL, hap⟩ := h.vecs.row i hi
  exact ⟨R, m, e, lies_stay hL hs (fun hn a ha => hk _ (hap (by simpa [Gr.ints] using hn) a ha).1 (lies_block hL hn a ha)), fun _ a _ => ⟨Nat.zero_le _, fun hf => hf⟩⟩
theorem AtomsAt.below (h : AtomsAt W F H V s) (hb : Below W.heap.size W W') : AtomsAt W' F H V s := by
  obtain ⟨h1, h2, rows, h3, h4⟩ := h
  exact ⟨h1.below hb, h2.below hb, rows, h3.below hb, h4.step hb.size (fun b hb' _ => hb.block b hb') fun _ _ ht => ht⟩
theorem AtSt.lens (h : AtSt w0 W x mb F H V nf nh nv cf ch cv s rows n D) : s.F.length = nf ∧ s.H.length = nh ∧ s.V.length = nv := by
  have h1 := h.ownF.1
  have h2 := h.ownH.1
  have h3 := h.ownV.1
  have h4 := h.vecs.len
  simp [u32s, nums] at h1 h2
  omega
theorem AtSt.base (h : AtSt w0 W x mb F H V nf nh nv cf ch cv s rows n D) : w0.heap.size ≤ W.heap.size := h.far.size
end

/-! ### the map -/
abbrev kl (v : List Int) : Lit := .string (keyS v).data.toList
def Byt (v : List Int) : Prop := ∀ x ∈ v, -1 ≤ x ∧ x < 256
structure MapIs (D : DataW Unit) (V : List (List Int)) : Prop where
  map : Go.Maps.IsMap D
  ok : ∀ v ∈ V, Byt v
  hit : ∀ i (hi : i < V.length), Go.Maps.has D (kl V[i]) = true ∧ ∀ z, D.atKey (kl V[i]) z = .lit (.int .i64 (i : Int))
  miss : ∀ v, Byt v → v ∉ V → Go.Maps.has D (kl v) = false
theorem kl_inj {v u : List Int} (hv : Byt v) (hu : Byt u) (h : kl v = kl u) : v = u := by
  refine keyS_inj hv hu ?_
  injection h with h
  cases e1 : keyS v with
  | mk d1 => cases e2 : keyS u with
    | mk d2 =>
      rw [e1, e2] at h
      simp only at h
      rw [show d1 = d2 from Array.toList_inj.1 h]
theorem MapIs.nil : MapIs (.map [] : DataW Unit) [] := ⟨⟨[], rfl⟩, by simp, fun i hi => absurd hi (by simp), fun v _ _ => by simp [Go.Maps.has]⟩
theorem MapIs.put {D : DataW Unit} {V : List (List Int)} (h : MapIs D V) {v : List Int} (hv : Byt v) (hn : v ∉ V) : MapIs (D.put (kl v) (.lit (.int .i64 (V.length : Int)))) (V ++ [v]) := by
  refine ⟨h.map.put _ _, fun u hu => ?_, fun i hi => ?_, fun u hu hnu => ?_⟩
  · rcases List.mem_append.1 hu with h1 | h1
    · exact h.ok u h1
    · simp at h1; rw [h1]; exact hv
  · rw [List.length_append, List.length_singleton] at hi
    by_cases e : i < V.length
    · rw [List.getElem_append_left e]
      have hne : kl V[i] ≠ kl v := fun e' => hn (by rw [← kl_inj (h.ok _ (List.getElem_mem e)) hv e']; exact List.getElem_mem e)
      exact ⟨by rw [Go.Maps.has_put_other hne]; exact (h.hit i e).1, fun z => by rw [Go.Maps.atKey_put_other hne]; exact (h.hit i e).2 z⟩
    · have ei : i = V.length := by omega
      subst ei
      rw [show (V ++ [v])[V.length]'(by simp) = v by simp]
      exact ⟨Go.Maps.has_put_same h.map (by trivial) _, fun z => Go.Maps.atKey_put_same h.map (by trivial) _ z⟩
  · rw [Go.Maps.has_put_other (fun e => hnu (by rw [kl_inj hu hv e]; simp))]
    exact h.miss u hu (fun e => hnu (by simp [e]))
theorem MapIs.at_ {D : DataW Unit} {V : List (List Int)} (h : MapIs D V) {v : List Int} (hv : v ∈ V) : Go.Maps.has D (kl v) = true ∧ ∀ z, D.atKey (kl v) z = .lit (.int .i64 ((V.idxOf v : Nat) : Int)) := by
  have hi := List.idxOf_lt_length_of_mem hv
  have := h.hit _ hi
  rwa [List.getElem_idxOf hi] at this
end Go.Proofs.YtpjoefekhgmlhaaGreat.Tp
