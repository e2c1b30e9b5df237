/- CONTRACTS: trie's span.meet, span.holds. Conditions: lengths 0 to 32, addresses below 2^32.
WORDS: how a trie lies in memory; CONTRACT of fork.below. No conditions. -/
import Derived.Test.YtpjoefekhgmlhaaGreatMa10
import Derived.Test.YtpjoefekhgmlhaaGreatMa21
import Derived.WalkLawsBesides
namespace Go.Proofs.YtpjoefekhgmlhaaGreat.Tp
open Go.RowKit Mem

abbrev spanV (a n : Nat) : Value := .agg #[.int .u32 (a : Int), .int .i64 (n : Int)]
/-- How long the longest prefix is that holds both. -/
def meetN (a n b m : Nat) : Nat := min (min n m) (common a b)
set_option maxRecDepth 100000 in
set_option maxHeartbeats 2000000 in
theorem meet3_any (a n b m : Nat) (ha : a < 4294967296) (hb : b < 4294967296) (w : World) :
    Calls Tryz.prog 134 #[spanV a n, spanV b m] w fun e w' => e = .returned (spanV (lowN a (meetN a n b m)) (meetN a n b m)) ∧ Below w.heap.size w w' := by
  have hc := fun w => common_any a b ha hb w
  have hcl := common_le a b
  have hk : meetN a n b m ≤ 32 := by unfold meetN; omega
  have hma := fun w => mask_any (meetN a n b m) hk w
  have hml := mask_lt (meetN a n b m) (by omega)
  have hb1 : bits .and .u32 (a : Int) ((maskN (meetN a n b m) : Nat) : Int) = ((lowN a (meetN a n b m) : Nat) : Int) := by rw [u32_and_nat _ _ ha hml, and_mask ha hk]; rfl
  have hmk : meetN a n b m = min (min n m) (common a b) := rfl
  generalize lowN a (meetN a n b m) = lo at *
  generalize maskN (meetN a n b m) = mk at *
  generalize meetN a n b m = k at *
  generalize common a b = cm at *
  obtain ⟨wa, hwa⟩ : ∃ wa, wa = w.alloc (.cells #[.int .u32 (a : Int), .int .i64 (n : Int)] 199) := ⟨_, rfl⟩
  obtain ⟨wb, hwb⟩ : ∃ wb, wb = wa.alloc (.cells #[.int .u32 (b : Int), .int .i64 (m : Int)] 199) := ⟨_, rfl⟩
  obtain ⟨w1, hw1⟩ : ∃ w1, w1 = wb.alloc (.cells #[.int .u32 0, .int .i64 0] 199) := ⟨_, rfl⟩
  have sa : wa.heap.size = w.heap.size + 1 := by rw [hwa]; simp
  have sb : wb.heap.size = w.heap.size + 1 + 1 := by rw [hwb]; simp [sa]
  have ba : Below w.heap.size w wa := by rw [hwa]; exact (Below.refl _ _).alloc (Nat.le_refl _) _
  have bb : Below wa.heap.size wa wb := by rw [hwb]; exact (Below.refl _ _).alloc (Nat.le_refl _) _
  have bc : Below wb.heap.size wb w1 := by rw [hw1]; exact (Below.refl _ _).alloc (Nat.le_refl _) _
  have hX : VRow w1 w.heap.size [.int .u32 (a : Int), .int .i64 (n : Int)] := ((show VRow wa w.heap.size [.int .u32 (a : Int), .int .i64 (n : Int)] by rw [hwa]; exact VRow.new w #[.int .u32 (a : Int), .int .i64 (n : Int)] _).below bb (by omega)).below bc (by omega)
  have hY : VRow w1 (w.heap.size + 1) [.int .u32 (b : Int), .int .i64 (m : Int)] := (show VRow wb (w.heap.size + 1) [.int .u32 (b : Int), .int .i64 (m : Int)] by rw [hwb, ← sa]; exact VRow.new wa #[.int .u32 (b : Int), .int .i64 (m : Int)] _).below bc (by omega)
  have hz : VRow w1 (w.heap.size + 1 + 1) [.int .u32 0, .int .i64 0] := by rw [hw1, ← sb]; exact VRow.new wb #[.int .u32 0, .int .i64 0] _
  have hbw : Below w.heap.size w w1 := ba.trans ((bb.trans (bc.mono (by omega))).mono (by omega))
  have hx0 : w1.cell? ⟨w.heap.size, 0, none⟩ = some (.int .u32 (a : Int)) := hX.cell 0 (by simp)
  have hx1 : w1.cell? ⟨w.heap.size, 1, none⟩ = some (.int .i64 (n : Int)) := hX.cell 1 (by simp)
  have hy0 : w1.cell? ⟨w.heap.size + 1, 0, none⟩ = some (.int .u32 (b : Int)) := hY.cell 0 (by simp)
  have hy1 : w1.cell? ⟨w.heap.size + 1, 1, none⟩ = some (.int .i64 (m : Int)) := hY.cell 1 (by simp)
  have hif : (if (cm : Int) < (if m < n then (m : Int) else (n : Int)) then (cm : Int) else if m < n then (m : Int) else (n : Int)) = (k : Int) := by
    rw [hmk]; split <;> split at * <;> omega
  rw [hwb, hwa] at hw1
  have HC := Lib.hid hc
  have HM := Lib.hid hma
  have HB1 := Lib.hid hb1
  have HMK := Lib.hid hmk
  have HW := Lib.hid hw1
  have HZ := Lib.hid hz
  have HBW := Lib.hid hbw
  have HX := Lib.hid hX
  clear hc hma hb1 hmk hml hw1 hz hbw sa sb ba bb bc hwa hwb hX hY
  go_enter Tryz.func134, Tryz.ntmps134
  go_wp2_with fail
  rw [← HW.out]
  go_quiet ((go_at_call 143; exact Calls.quiet_of_same ((HC.out _).mono fun e w' h => ⟨h.1, h.2.symm⟩)))
  obtain ⟨w2, hw2⟩ : ∃ w2, w2 = w1.drewN nq := ⟨_, rfl⟩
  rw [← hw2]
  have hb2 : Below w1.heap.size w1 w2 := by rw [hw2]; exact below_drawn (Below.refl _ _) nq
  have KS : Hid (∀ W, Below w2.heap.size w2 W → (W.cell? ⟨w.heap.size, 0, none⟩ = some (.int .u32 (a : Int)) ∧ W.cell? ⟨w.heap.size + 1 + 1, 0, none⟩ = some (.int .u32 0) ∧ W.cell? ⟨w.heap.size + 1 + 1, 1, none⟩ = some (.int .i64 0) ∧ W.frozen? ⟨w.heap.size + 1 + 1, 0, none⟩ = false ∧ W.frozen? ⟨w.heap.size + 1 + 1, 1, none⟩ = false ∧ VRow W (w.heap.size + 1 + 1) [.int .u32 0, .int .i64 0] ∧ Below w.heap.size w W)) := Lib.hid fun W hW => by
    have hX := (HX.out.below hb2 HX.out.lt).below hW (by have := HX.out.lt; have := hb2.size; omega)
    have hZ := (HZ.out.below hb2 HZ.out.lt).below hW (by have := HZ.out.lt; have := hb2.size; omega)
    exact ⟨hX.cell 0 (by simp), hZ.cell 0 (by simp), hZ.cell 1 (by simp), hZ.free 0 (by simp), hZ.free 1 (by simp), hZ, (HBW.out.trans (hb2.mono HBW.out.size)).trans (hW.mono (Nat.le_trans HBW.out.size hb2.size))⟩
  clear hx0 hx1 hy0 hy1 hif hw2 hb2 HX HZ HBW HW HC HMK
  have hb1 := HB1.out
  obtain ⟨hx0, hz0, hz1, hf0, hf1, hZ, hB⟩ := KS.out w2 (Below.refl _ _)
  have HZS := Lib.hid ((hZ.set_ 0 (.int .u32 (lo : Int))).set_ 1 (.int .i64 (k : Int)))
  have HBS := Lib.hid ((hB.setCell (p := ⟨w.heap.size + 1 + 1, 0, none⟩) (show w.heap.size ≤ w.heap.size + 1 + 1 by omega) (.int .u32 (lo : Int))).setCell (p := ⟨w.heap.size + 1 + 1, 1, none⟩) (show w.heap.size ≤ w.heap.size + 1 + 1 by omega) (.int .i64 (k : Int)))
  clear hZ hB KS
  go_wp2_with fail
  go_region_with (first | (go_at_call 116; refine (HM.out _).mono ?_; rintro e w' ⟨rfl, rfl⟩))
  all_goals
    clear hx0 hz0 hz1 hf0 hf1
    obtain ⟨w4, hw4⟩ : ∃ w4, w4 = ((w2.setCell ⟨w.heap.size + 1 + 1, 0, none⟩ (.int .u32 (lo : Int))).setCell ⟨w.heap.size + 1 + 1, 1, none⟩ (.int .i64 (k : Int))).drew := ⟨_, rfl⟩
    have hs4 : VRow w4 (w.heap.size + 1 + 1) [.int .u32 (lo : Int), .int .i64 (k : Int)] := by rw [hw4]; exact ⟨HZS.out.lt, HZS.out.cell, HZS.out.free⟩
    have hb4 : Below w.heap.size w w4 := by rw [hw4]; exact below_drew HBS.out
    rw [← hw4]
    have hz0 : w4.cell? ⟨w.heap.size + 1 + 1, 0, none⟩ = some (.int .u32 (lo : Int)) := hs4.cell 0 (by simp)
    have hz1 : w4.cell? ⟨w.heap.size + 1 + 1, 1, none⟩ = some (.int .i64 (k : Int)) := hs4.cell 1 (by simp)
    have HB4 := Lib.hid hb4
    clear hs4 hb4 hw4
    go_wp2_with fail
    exact bodyPost_ret (v := spanV lo k) (by simp [results, Tryz.results134, go_sem, hz0, hz1]) rfl ⟨rfl, HB4.out⟩
theorem sholds_any (x n a : Nat) (hx : x < 4294967296) (ha : a < 4294967296) (hn : n ≤ 32) (w : World) :
    Calls Tryz.prog 114 #[spanV x n, .int .u32 (a : Int)] w fun e w' => e = .returned (.bool (holdsB x n a)) ∧ Below w.heap.size w w' := by
  have hh := fun w => holds_any x n a hx ha hn w
  have hb : Below w.heap.size w (w.alloc (.cells #[.int .u32 (x : Int), .int .i64 (n : Int)] 199)) := (Below.refl _ _).alloc (Nat.le_refl _) _
  generalize holdsB x n a = h at *
  have HH := Lib.hid hh
  have HB := Lib.hid hb
  clear hh hb hx ha hn
  go_enter Tryz.func114, Tryz.ntmps114
  go_wp2_with fail
  refine (HH.out _).mono ?_
  rintro e w' ⟨rfl, rfl⟩
  go_wp2_with fail
  go_ret
  exact ⟨rfl, HB.out⟩
end Go.Proofs.YtpjoefekhgmlhaaGreat.Tp

namespace Go.Proofs.YtpjoefekhgmlhaaGreat.Tp
open Go.RowKit Mem

/-- A pointer to a fork, by its place in the row. -/
abbrev ptrV (G : Nat → Nat) (o : Option Nat) : Value := .pointer (o.map fun i => (⟨G i, 0, none⟩ : Addr))
/-- A fork's cells. -/
def fcells (G : Nat → Nat) (f : ForkT) : List Value := [.int .u32 (f.a : Int), .int .i64 (f.n : Int), .int .u32 ((bestOf f.rule).a : Int), .int .i64 ((bestOf f.rule).len : Int), .int .i64 ((bestOf f.rule).act : Int), .int .i64 ((bestOf f.rule).next : Int), .bool f.rule.isSome, ptrV G f.k0, ptrV G f.k1]
theorem fcells_len (G : Nat → Nat) (f : ForkT) : (fcells G f).length = 9 := rfl
structure TrieAt (base : Nat) (W : World) (t : Nat) (G : Nat → Nat) (F : List ForkT) (top : Option Nat) (sz : Nat) : Prop where
  head : VRow W t [ptrV G top, .int .i64 (sz : Int)]
  fork : ∀ (i : Nat) (f : ForkT), F[i]? = some f → VRow W (G i) (fcells G f)
  inj : ∀ i j, i < F.length → j < F.length → G i = G j → i = j
  apart : ∀ i, i < F.length → G i ≠ t
  low : base ≤ t ∧ ∀ i, i < F.length → base ≤ G i
  bound : (∀ (i : Nat) (f : ForkT) (b k : Nat), F[i]? = some f → f.kid b = some k → k < F.length) ∧ ∀ k, top = some k → k < F.length
theorem TrieAt.below {base : Nat} {W W' : World} {t : Nat} {G : Nat → Nat} {F : List ForkT} {top : Option Nat} {sz : Nat} (h : TrieAt base W t G F top sz) (hb : Below W.heap.size W W') : TrieAt base W' t G F top sz :=
  ⟨h.head.below hb h.head.lt, fun i f hf => (h.fork i f hf).below hb (h.fork i f hf).lt, h.inj, h.apart, h.low, h.bound⟩
/-- Where a place's pointer lies. -/
def addrP (t : Nat) (G : Nat → Nat) : Place → Addr
  | .top => ⟨t, 0, none⟩
  | .kid i b => ⟨G i, 7 + b, none⟩
/-- A place that there is. -/
def PlaceOk (F : List ForkT) : Place → Prop
  | .top => True
  | .kid i b => i < F.length ∧ (b = 0 ∨ b = 1)
theorem Path.ok {F : List ForkT} {top : Option Nat} {r : RuleT} {p : Place} (h : Path F top r p) : PlaceOk F p := by
  cases h with
  | top => trivial
  | kid _ _ hf _ _ => exact ⟨(List.getElem?_eq_some_iff.1 hf).1, bitN_two _ _⟩
theorem fcells_kid {G : Nat → Nat} {f : ForkT} {b : Nat} (hb : b = 0 ∨ b = 1) : (fcells G f)[7 + b]? = some (ptrV G (f.kid b)) := by
  rcases hb with rfl | rfl <;> rfl
theorem fcells_set {G : Nat → Nat} {f : ForkT} {b : Nat} {k : Option Nat} (hb : b = 0 ∨ b = 1) : (fcells G f).set (7 + b) (ptrV G k) = fcells G (f.setKid b k) := by
  rcases hb with rfl | rfl <;> rfl
theorem VRow.get {w : World} {g : Nat} {xs : List Value} (h : VRow w g xs) {i : Nat} {v : Value} (hi : xs[i]? = some v) : w.cell? ⟨g, i, none⟩ = some v ∧ w.frozen? ⟨g, i, none⟩ = false := by
  obtain ⟨h1, h2⟩ := List.getElem?_eq_some_iff.1 hi
  exact ⟨by rw [h.cell i h1, h2], h.free i h1⟩
/-- What a place holds. -/
theorem TrieAt.place {base : Nat} {W : World} {t : Nat} {G : Nat → Nat} {F : List ForkT} {top : Option Nat} {sz : Nat} (h : TrieAt base W t G F top sz) {p : Place} (hp : PlaceOk F p) : W.cell? (addrP t G p) = some (ptrV G (getP F top p)) ∧ W.frozen? (addrP t G p) = false := by
  cases p with
  | top => exact h.head.get (i := 0) rfl
  | kid i b =>
    have hf := List.getElem?_eq_getElem hp.1
    rw [getP_kid hf]
    exact (h.fork i _ hf).get (fcells_kid hp.2)
theorem TrieAt.setP {base : Nat} {W : World} {t : Nat} {G : Nat → Nat} {F : List ForkT} {top : Option Nat} {sz : Nat} (h : TrieAt base W t G F top sz) {p : Place} (hp : PlaceOk F p) (k : Option Nat) (hk : ∀ i, k = some i → i < F.length) :
    TrieAt base (W.setCell (addrP t G p) (ptrV G k)) t G (setP F k p) (setT top k p) sz := by
  cases p with
  | top =>
    refine ⟨h.head.set_ 0 _, fun i f hf => (h.fork i f hf).other (p := ⟨t, 0, none⟩) (fun e => h.apart i (List.getElem?_eq_some_iff.1 hf).1 e.symm) _, h.inj, h.apart, h.low, h.bound.1, hk⟩
  | kid i b =>
    obtain ⟨hi, hb⟩ := hp
    have hf := List.getElem?_eq_getElem hi
    rw [setP_kid hf]
    refine ⟨h.head.other (p := ⟨G i, 7 + b, none⟩) (h.apart i hi) _, fun j g hg => ?_, ?_, ?_, ?_, fun j g c k' hg hk' => ?_, fun k' hk' => ?_⟩
    · by_cases e : i = j
      · subst e
        rw [List.getElem?_set_self hi] at hg
        injection hg with hg
        subst hg
        rw [← fcells_set hb]
        exact (h.fork i _ hf).set_ (7 + b) _
      · rw [List.getElem?_set_ne e] at hg
        exact (h.fork j g hg).other (p := ⟨G i, 7 + b, none⟩) (fun e' => e (h.inj i j hi (List.getElem?_eq_some_iff.1 hg).1 e')) _
    · rw [List.length_set]; exact h.inj
    · rw [List.length_set]; exact h.apart
    · rw [List.length_set]; exact h.low
    · rw [List.length_set]
      by_cases e : i = j
      · subst e
        rw [List.getElem?_set_self hi] at hg
        injection hg with hg
        subst hg
        have hsub : (F[i].setKid b k).kid c = k ∨ (F[i].setKid b k).kid c = F[i].kid c := by
          unfold ForkT.setKid ForkT.kid
          rcases hb with rfl | rfl <;> by_cases hc : c = 0 <;> simp [hc]
        rcases hsub with e | e
        · rw [e] at hk'; exact hk k' hk'
        · rw [e] at hk'; exact h.bound.1 i _ c k' hf hk'
      · rw [List.getElem?_set_ne e] at hg
        exact h.bound.1 j g c k' hg hk'
    · rw [List.length_set]; exact h.bound.2 k' hk'
theorem TrieAt.size_ {base : Nat} {W : World} {t : Nat} {G : Nat → Nat} {F : List ForkT} {top : Option Nat} {sz : Nat} (h : TrieAt base W t G F top sz) (n : Nat) : TrieAt base (W.setCell ⟨t, 1, none⟩ (.int .i64 (n : Int))) t G F top n :=
  ⟨h.head.set_ 1 _, fun i f hf => (h.fork i f hf).other (p := ⟨t, 1, none⟩) (fun e => h.apart i (List.getElem?_eq_some_iff.1 hf).1 e.symm) _, h.inj, h.apart, h.low, h.bound⟩
/-- The row's blocks, a new one behind. -/
def pushG (G : Nat → Nat) (N g : Nat) : Nat → Nat := fun i => if i = N then g else G i
theorem push_old {G : Nat → Nat} {N g i : Nat} (h : i < N) : pushG G N g i = G i := by unfold pushG; rw [if_neg (by omega)]
theorem push_new {G : Nat → Nat} {N g : Nat} : pushG G N g N = g := by unfold pushG; rw [if_pos rfl]
theorem ptr_old {G : Nat → Nat} {N g : Nat} {o : Option Nat} (h : ∀ k, o = some k → k < N) : ptrV (pushG G N g) o = ptrV G o := by
  cases o with
  | none => rfl
  | some k => simp only [ptrV, Option.map_some, push_old (h k rfl)]
theorem ptr_new {G : Nat → Nat} {N g : Nat} : ptrV (pushG G N g) (some N) = .pointer (some ⟨g, 0, none⟩) := by simp only [ptrV, Option.map_some, push_new]
theorem fcells_old {G : Nat → Nat} {N g : Nat} {f : ForkT} (h : ∀ b k, f.kid b = some k → k < N) : fcells (pushG G N g) f = fcells G f := by
  unfold fcells
  rw [ptr_old (o := f.k0) (fun k e => h 0 k e), ptr_old (o := f.k1) (fun k e => h 1 k e)]
theorem TrieAt.push {base : Nat} {W : World} {t : Nat} {G : Nat → Nat} {F : List ForkT} {top : Option Nat} {sz : Nat} (h : TrieAt base W t G F top sz) {g : Nat} {f : ForkT} (hg : VRow W g (fcells G f)) (hk : ∀ b k, f.kid b = some k → k < F.length) (hgt : g ≠ t) (hgb : base ≤ g) (hgn : ∀ i, i < F.length → G i ≠ g) :
    TrieAt base W t (pushG G F.length g) (F ++ [f]) top sz := by
  have hat : ∀ i f', (F ++ [f])[i]? = some f' → (i < F.length ∧ F[i]? = some f') ∨ (i = F.length ∧ f' = f) := fun i f' hi => by
    rcases Nat.lt_trichotomy i F.length with h1 | h1 | h1
    · rw [List.getElem?_append_left h1] at hi; exact .inl ⟨h1, hi⟩
    · subst h1; simp at hi; exact .inr ⟨rfl, hi.symm⟩
    · rw [List.getElem?_eq_none (by simp; omega)] at hi; cases hi
  have hlen : (F ++ [f]).length = F.length + 1 := by simp
  refine ⟨by rw [ptr_old h.bound.2]; exact h.head, fun i f' hi => ?_, fun i j hi hj e => ?_, fun i hi => ?_, ⟨h.low.1, fun i hi => ?_⟩, fun i f' b k hi hk' => ?_, fun k hk' => ?_⟩
  · rcases hat i f' hi with ⟨h1, h2⟩ | ⟨rfl, rfl⟩
    · rw [push_old h1, fcells_old (fun b k => h.bound.1 i f' b k h2)]; exact h.fork i f' h2
    · rw [push_new, fcells_old hk]; exact hg
  · rw [hlen] at hi hj
    by_cases h1 : i = F.length <;> by_cases h2 : j = F.length
    · omega
    · subst h1
      rw [push_new, push_old (by omega)] at e
      exact absurd e.symm (hgn j (by omega))
    · subst h2
      rw [push_new, push_old (by omega)] at e
      exact absurd e (hgn i (by omega))
    · rw [push_old (by omega), push_old (by omega)] at e
      exact h.inj i j (by omega) (by omega) e
  · rw [hlen] at hi
    by_cases h1 : i = F.length
    · subst h1; rw [push_new]; exact hgt
    · rw [push_old (by omega)]; exact h.apart i (by omega)
  · rw [hlen] at hi
    by_cases h1 : i = F.length
    · subst h1; rw [push_new]; exact hgb
    · rw [push_old (by omega)]; exact h.low.2 i (by omega)
  · rw [hlen]
    rcases hat i f' hi with ⟨h1, h2⟩ | ⟨rfl, rfl⟩
    · have := h.bound.1 i f' b k h2 hk'; omega
    · have := hk b k hk'; omega
  · rw [hlen]; have := h.bound.2 k hk'; omega

set_option maxHeartbeats 1000000 in
theorem below_any (G : Nat → Nat) (g a : Nat) (f : ForkT) (w : World) (hf : VRow w g (fcells G f)) (ha : a < 4294967296) (hn : f.n ≤ 32) (h32 : f.n = 32 → f.k0 = none ∧ f.k1 = none) :
    Calls Tryz.prog 115 #[.pointer (some ⟨g, 0, none⟩), .int .u32 (a : Int)] w fun e w' => e = .returned (ptrV G (f.kid (bitN a f.n))) ∧ Below w.heap.size w w' := by
  have hq1 := (hf.get (i := 1) rfl).1
  by_cases hn31 : f.n ≤ 31
  · have hbit := fun w => bit_any a f.n ha hn31 w
    have hk := (hf.get (fcells_kid (bitN_two a f.n))).1
    have hb01 := bitN_two a f.n
    generalize f.kid (bitN a f.n) = r at *
    generalize bitN a f.n = b at *
    have i0 : (0 : Int) ≤ (b : Int) := by omega
    have i1 : (b : Int) < 2 := by omega
    obtain ⟨pv, hpv⟩ : ∃ pv, pv = ptrV G r := ⟨_, rfl⟩
    rw [← hpv] at hk ⊢
    have HB := Lib.hid hbit
    clear hbit hb01 hf h32 hn hpv
    go_enter Tryz.func115, Tryz.ntmps115
    go_wp2_with fail
    go_quiet ((go_at_call 135; exact Calls.quiet_of_same ((HB.out _).mono fun e w' h => ⟨h.1, h.2.symm⟩)))
    go_wp2_with fail
    go_ret
    exact ⟨rfl, below_drawn (Below.refl _ _) nq⟩
  · have e32 : f.n = 32 := by omega
    obtain ⟨h0, h1⟩ := h32 e32
    have hk : f.kid (bitN a f.n) = none := by unfold ForkT.kid; split <;> assumption
    rw [hk]
    have hq7 : w.cell? ⟨g, 7, none⟩ = some (.pointer none) := by
      have := (hf.get (i := 7) rfl).1
      rw [h0] at this
      exact this
    rw [e32] at hq1
    have hbit := fun w => bit32 a w
    have HB := Lib.hid hbit
    clear hbit hf h32 hn h0 h1 hk hn31 e32
    go_enter Tryz.func115, Tryz.ntmps115
    go_wp2_with fail
    go_quiet ((go_at_call 135; exact Calls.quiet_of_same ((HB.out _).mono fun e w' h => ⟨h.1, h.2.symm⟩)))
    go_wp2_with fail
    go_ret
    exact ⟨rfl, below_drawn (Below.refl _ _) nq⟩
end Go.Proofs.YtpjoefekhgmlhaaGreat.Tp
