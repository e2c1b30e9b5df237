/- WORDS: how a trie lies in memory; CONTRACT of fork.below. No conditions. · CONTRACT of Trie.Find: the longest rule that holds an address. Conditions: a trie as put makes it. -/
import Derived.Test.YtpjoefekhgmlhaaGreatMb20
namespace Go.Proofs.YtpjoefekhgmlhaaGreat.Tp
open Go.RowKit Mem

/-- A pointer to a fork, by its place in the row. -/
abbrev ptrV (G : Nat → Nat) (o : Option Nat) : Value := .pointer (o.map fun i => (⟨G i, 0, none⟩ : Addr))
/-- A fork's cells. -/
def fcells (G : Nat → Nat) (f : ForkT) : List Value := [.int .u32 (f.a : Int), .int .i64 (f.n : Int), .int .u32 ((bestOf f.rule).a : Int), .int .i64 ((bestOf f.rule).len : Int), .int .i64 ((bestOf f.rule).act : Int), .int .i64 ((bestOf f.rule).next : Int), .bool f.rule.isSome, ptrV G f.k0, ptrV G f.k1]
theorem fcells_len (G : Nat → Nat) (f : ForkT) : (fcells G f).length = 9 := rfl
structure TrieAt (base : Nat) (W : World) (t : Nat) (G : Nat → Nat) (F : List ForkT) (top : Option Nat) (sz : Nat) : Prop where
  head : VRow W t [ptrV G top, .int .i64 (sz : Int)]
  fork : ∀ (i : Nat) (f : ForkT), F[i]? = some f → VRow W (G i) (fcells G f)
  inj : ∀ i j, i < F.length → j < F.length → G i = G j → i = j
  apart : ∀ i, i < F.length → G i ≠ t
  low : base ≤ t ∧ ∀ i, i < F.length → base ≤ G i
  bound : (∀ (i : Nat) (f : ForkT) (b k : Nat), F[i]? = some f → f.kid b = some k → k < F.length) ∧ ∀ k, top = some k → k < F.length
theorem TrieAt.below {base : Nat} {W W' : World} {t : Nat} {G : Nat → Nat} {F : List ForkT} {top : Option Nat} {sz : Nat} (h : TrieAt base W t G F top sz) (hb : Below W.heap.size W W') : TrieAt base W' t G F top sz :=
  ⟨h.head.below hb h.head.lt, fun i f hf => (h.fork i f hf).below hb (h.fork i f hf).lt, h.inj, h.apart, h.low, h.bound⟩
/-- Where a place's pointer lies. -/
def addrP (t : Nat) (G : Nat → Nat) : Place → Addr
  | .top => ⟨t, 0, none⟩
  | .kid i b => ⟨G i, 7 + b, none⟩
/-- A place that there is. -/
def PlaceOk (F : List ForkT) : Place → Prop
  | .top => True
  | .kid i b => i < F.length ∧ (b = 0 ∨ b = 1)
theorem Path.ok {F : List ForkT} {top : Option Nat} {r : RuleT} {p : Place} (h : Path F top r p) : PlaceOk F p := by
  cases h with
  | top => trivial
  | kid _ _ hf _ _ => exact ⟨(List.getElem?_eq_some_iff.1 hf).1, bitN_two _ _⟩
theorem fcells_kid {G : Nat → Nat} {f : ForkT} {b : Nat} (hb : b = 0 ∨ b = 1) : (fcells G f)[7 + b]? = some (ptrV G (f.kid b)) := by
  rcases hb with rfl | rfl <;> rfl
theorem fcells_set {G : Nat → Nat} {f : ForkT} {b : Nat} {k : Option Nat} (hb : b = 0 ∨ b = 1) : (fcells G f).set (7 + b) (ptrV G k) = fcells G (f.setKid b k) := by
  rcases hb with rfl | rfl <;> rfl
theorem VRow.get {w : World} {g : Nat} {xs : List Value} (h : VRow w g xs) {i : Nat} {v : Value} (hi : xs[i]? = some v) : w.cell? ⟨g, i, none⟩ = some v ∧ w.frozen? ⟨g, i, none⟩ = false := by
  obtain ⟨h1, h2⟩ := List.getElem?_eq_some_iff.1 hi
  exact ⟨by rw [h.cell i h1, h2], h.free i h1⟩
/-- What a place holds. -/
theorem TrieAt.place {base : Nat} {W : World} {t : Nat} {G : Nat → Nat} {F : List ForkT} {top : Option Nat} {sz : Nat} (h : TrieAt base W t G F top sz) {p : Place} (hp : PlaceOk F p) : W.cell? (addrP t G p) = some (ptrV G (getP F top p)) ∧ W.frozen? (addrP t G p) = false := by
  cases p with
  | top => exact h.head.get (i := 0) rfl
  | kid i b =>
    have hf := List.getElem?_eq_getElem hp.1
    rw [getP_kid hf]
    exact (h.fork i _ hf).get (fcells_kid hp.2)
theorem TrieAt.setP {base : Nat} {W : World} {t : Nat} {G : Nat → Nat} {F : List ForkT} {top : Option Nat} {sz : Nat} (h : TrieAt base W t G F top sz) {p : Place} (hp : PlaceOk F p) (k : Option Nat) (hk : ∀ i, k = some i → i < F.length) :
    TrieAt base (W.setCell (addrP t G p) (ptrV G k)) t G (setP F k p) (setT top k p) sz := by
  cases p with
  | top =>
    refine ⟨h.head.set_ 0 _, fun i f hf => (h.fork i f hf).other (p := ⟨t, 0, none⟩) (fun e => h.apart i (List.getElem?_eq_some_iff.1 hf).1 e.symm) _, h.inj, h.apart, h.low, h.bound.1, hk⟩
  | kid i b =>
    obtain ⟨hi, hb⟩ := hp
    have hf := List.getElem?_eq_getElem hi
    rw [setP_kid hf]
    refine ⟨h.head.other (p := ⟨G i, 7 + b, none⟩) (h.apart i hi) _, fun j g hg => ?_, ?_, ?_, ?_, fun j g c k' hg hk' => ?_, fun k' hk' => ?_⟩
    · by_cases e : i = j
      · subst e
        rw [List.getElem?_set_self hi] at hg
        injection hg with hg
        subst hg
        rw [← fcells_set hb]
        exact (h.fork i _ hf).set_ (7 + b) _
      · rw [List.getElem?_set_ne e] at hg
        exact (h.fork j g hg).other (p := ⟨G i, 7 + b, none⟩) (fun e' => e (h.inj i j hi (List.getElem?_eq_some_iff.1 hg).1 e')) _
    · rw [List.length_set]; exact h.inj
    · rw [List.length_set]; exact h.apart
    · rw [List.length_set]; exact h.low
    · rw [List.length_set]
      by_cases e : i = j
      · subst e
        rw [List.getElem?_set_self hi] at hg
        injection hg with hg
        subst hg
        have hsub : (F[i].setKid b k).kid c = k ∨ (F[i].setKid b k).kid c = F[i].kid c := by
          unfold ForkT.setKid ForkT.kid
          rcases hb with rfl | rfl <;> by_cases hc : c = 0 <;> simp [hc]
        rcases hsub with e | e
        · rw [e] at hk'; exact hk k' hk'
        · rw [e] at hk'; exact h.bound.1 i _ c k' hf hk'
      · rw [List.getElem?_set_ne e] at hg
        exact h.bound.1 j g c k' hg hk'
    · rw [List.length_set]; exact h.bound.2 k' hk'
theorem TrieAt.size_ {base : Nat} {W : World} {t : Nat} {G : Nat → Nat} {F : List ForkT} {top : Option Nat} {sz : Nat} (h : TrieAt base W t G F top sz) (n : Nat) : TrieAt base (W.setCell ⟨t, 1, none⟩ (.int .i64 (n : Int))) t G F top n :=
  ⟨h.head.set_ 1 _, fun i f hf => (h.fork i f hf).other (p := ⟨t, 1, none⟩) (fun e => h.apart i (List.getElem?_eq_some_iff.1 hf).1 e.symm) _, h.inj, h.apart, h.low, h.bound⟩
/-- The row's blocks, a new one behind. -/
def pushG (G : Nat → Nat) (N g : Nat) : Nat → Nat := fun i => if i = N then g else G i
theorem push_old {G : Nat → Nat} {N g i : Nat} (h : i < N) : pushG G N g i = G i := by unfold pushG; rw [if_neg (by omega)]
theorem push_new {G : Nat → Nat} {N g : Nat} : pushG G N g N = g := by unfold pushG; rw [if_pos rfl]
theorem ptr_old {G : Nat → Nat} {N g : Nat} {o : Option Nat} (h : ∀ k, o = some k → k < N) : ptrV (pushG G N g) o = ptrV G o := by
  cases o with
  | none => rfl
  | some k => simp only [ptrV, Option.map_some, push_old (h k rfl)]
theorem ptr_new {G : Nat → Nat} {N g : Nat} : ptrV (pushG G N g) (some N) = .pointer (some ⟨g, 0, none⟩) := by simp only [ptrV, Option.map_some, push_new]
theorem fcells_old {G : Nat → Nat} {N g : Nat} {f : ForkT} (h : ∀ b k, f.kid b = some k → k < N) : fcells (pushG G N g) f = fcells G f := by
  unfold fcells
  rw [ptr_old (o := f.k0) (fun k e => h 0 k e), ptr_old (o := f.k1) (fun k e => h 1 k e)]
theorem TrieAt.push {base : Nat} {W : World} {t : Nat} {G : Nat → Nat} {F : List ForkT} {top : Option Nat} {sz : Nat} (h : TrieAt base W t G F top sz) {g : Nat} {f : ForkT} (hg : VRow W g (fcells G f)) (hk : ∀ b k, f.kid b = some k → k < F.length) (hgt : g ≠ t) (hgb : base ≤ g) (hgn : ∀ i, i < F.length → G i ≠ g) :
    TrieAt base W t (pushG G F.length g) (F ++ [f]) top sz := by
  have hat : ∀ i f', (F ++ [f])[i]? = some f' → (i < F.length ∧ F[i]? = some f') ∨ (i = F.length ∧ f' = f) := fun i f' hi => by
    rcases Nat.lt_trichotomy i F.length with h1 | h1 | h1
    · rw [List.getElem?_append_left h1] at hi; exact .inl ⟨h1, hi⟩
    · subst h1; simp at hi; exact .inr ⟨rfl, hi.symm⟩
    · rw [List.getElem?_eq_none (by simp; omega)] at hi; cases hi
  have hlen : (F ++ [f]).length = F.length + 1 := by simp
  refine ⟨by rw [ptr_old h.bound.2]; exact h.head, fun i f' hi => ?_, fun i j hi hj e => ?_, fun i hi => ?_, ⟨h.low.1, fun i hi => ?_⟩, fun i f' b k hi hk' => ?_, fun k hk' => ?_⟩
  · rcases hat i f' hi with ⟨h1, h2⟩ | ⟨rfl, rfl⟩
    · rw [push_old h1, fcells_old (fun b k => h.bound.1 i f' b k h2)]; exact h.fork i f' h2
    · rw [push_new, fcells_old hk]; exact hg
  · rw [hlen] at hi hj
    by_cases h1 : i = F.length <;> by_cases h2 : j = F.length
    · omega
    · subst h1
      rw [push_new, push_old (by omega)] at e
      exact absurd e.symm (hgn j (by omega))
    · subst h2
      rw [push_new, push_old (by omega)] at e
      exact absurd e (hgn i (by omega))
    · rw [push_old (by omega), push_old (by omega)] at e
      exact h.inj i j (by omega) (by omega) e
  · rw [hlen] at hi
    by_cases h1 : i = F.length
    · subst h1; rw [push_new]; exact hgt
    · rw [push_old (by omega)]; exact h.apart i (by omega)
  · rw [hlen] at hi
    by_cases h1 : i = F.length
    · subst h1; rw [push_new]; exact hgb
    · rw [push_old (by omega)]; exact h.low.2 i (by omega)
  · rw [hlen]
    rcases hat i f' hi with ⟨h1, h2⟩ | ⟨rfl, rfl⟩
    · have := h.bound.1 i f' b k h2 hk'; omega
    · have := hk b k hk'; omega
  · rw [hlen]; have := h.bound.2 k hk'; omega

set_option maxHeartbeats 1000000 in
theorem below_any (G : Nat → Nat) (g a : Nat) (f : ForkT) (w : World) (hf : VRow w g (fcells G f)) (ha : a < 4294967296) (hn : f.n ≤ 32) (h32 : f.n = 32 → f.k0 = none ∧ f.k1 = none) :
    Calls Tryz.prog 115 #[.pointer (some ⟨g, 0, none⟩), .int .u32 (a : Int)] w fun e w' => e = .returned (ptrV G (f.kid (bitN a f.n))) ∧ Below w.heap.size w w' := by
  have hq1 := (hf.get (i := 1) rfl).1
  by_cases hn31 : f.n ≤ 31
  · have hbit := fun w => bit_any a f.n ha hn31 w
    have hk := (hf.get (fcells_kid (bitN_two a f.n))).1
    have hb01 := bitN_two a f.n
    generalize f.kid (bitN a f.n) = r at *
    generalize bitN a f.n = b at *
    have i0 : (0 : Int) ≤ (b : Int) := by omega
    have i1 : (b : Int) < 2 := by omega
    obtain ⟨pv, hpv⟩ : ∃ pv, pv = ptrV G r := ⟨_, rfl⟩
    rw [← hpv] at hk ⊢
    have HB := Lib.hid hbit
    clear hbit hb01 hf h32 hn hpv
    go_enter Tryz.func115, Tryz.ntmps115
    go_wp2_with fail
    go_quiet ((go_at_call 135; exact Calls.quiet_of_same ((HB.out _).mono fun e w' h => ⟨h.1, h.2.symm⟩)))
    go_wp2_with fail
    go_ret
    exact ⟨rfl, below_drawn (Below.refl _ _) nq⟩
  · have e32 : f.n = 32 := by omega
    obtain ⟨h0, h1⟩ := h32 e32
    have hk : f.kid (bitN a f.n) = none := by unfold ForkT.kid; split <;> assumption
    rw [hk]
    have hq7 : w.cell? ⟨g, 7, none⟩ = some (.pointer none) := by
      have := (hf.get (i := 7) rfl).1
      rw [h0] at this
      exact this
    rw [e32] at hq1
    have hbit := fun w => bit32 a w
    have HB := Lib.hid hbit
    clear hbit hf h32 hn h0 h1 hk hn31 e32
    go_enter Tryz.func115, Tryz.ntmps115
    go_wp2_with fail
    go_quiet ((go_at_call 135; exact Calls.quiet_of_same ((HB.out _).mono fun e w' h => ⟨h.1, h.2.symm⟩)))
    go_wp2_with fail
    go_ret
    exact ⟨rfl, below_drawn (Below.refl _ _) nq⟩
end Go.Proofs.YtpjoefekhgmlhaaGreat.Tp

namespace Go.Proofs.YtpjoefekhgmlhaaGreat.Tp
open Go.RowKit Mem

/-- How many forks may still come. -/
def leftOf (w : World) (v : Value) : Nat := match v with
  | .pointer (some p) => match w.cell? ⟨p.block, 1, none⟩ with
    | some (.int _ n) => 34 - n.toNat
    | _ => 34
  | _ => 0
theorem leftOf_none (w : World) (G : Nat → Nat) : leftOf w (ptrV G none) = 0 := rfl
theorem leftOf_some {w : World} {G : Nat → Nat} {i : Nat} {f : ForkT} (h : VRow w (G i) (fcells G f)) : leftOf w (ptrV G (some i)) = 34 - f.n := by
  have hc := (h.get (i := 1) rfl).1
  unfold leftOf
  simp only [ptrV, Option.map_some]
  rw [hc]
  rfl
def FindPost (w : World) (o : Option RuleT) (e : Ending) (w' : World) : Prop := e = .returned (.tuple #[rv (bestOf o), .bool o.isSome]) ∧ Below w.heap.size w w'
set_option maxRecDepth 100000 in
set_option maxHeartbeats 2000000 in
theorem tfind_any (base t : Nat) (G : Nat → Nat) (F : List ForkT) (top : Option Nat) (sz : Nat) (rs : List RuleT) (a : Nat) (w : World) (hT : TrieAt base w t G F top sz) (T : TrieOk F top rs) (hr : ∀ r ∈ rs, RulePre r) (ho : Once rs) (ha : a < 4294967296) :
    Calls Tryz.prog 84 #[.pointer (some ⟨t, 0, none⟩), .int .u32 (a : Int)] w (FindPost w (findL rs a)) := by
  have hfin := trie_find T hr ho a
  obtain ⟨res, hres⟩ : ∃ res, res = findL rs a := ⟨_, rfl⟩
  rw [← hres] at hfin ⊢
  obtain ⟨wa, hwa⟩ : ∃ wa, wa = w.alloc (.cells #[.int .u32 0, .int .i64 0, .int .i64 0, .int .i64 0] 43) := ⟨_, rfl⟩
  obtain ⟨w2, hw2⟩ : ∃ w2, w2 = wa.alloc (.cells #[.int .u32 0, .int .i64 0, .int .i64 0, .int .i64 0] 43) := ⟨_, rfl⟩
  have sa : wa.heap.size = w.heap.size + 1 := by rw [hwa]; simp
  have s2 : w2.heap.size = w.heap.size + 1 + 1 := by rw [hw2]; simp [sa]
  have ba : Below w.heap.size w wa := by rw [hwa]; exact (Below.refl _ _).alloc (Nat.le_refl _) _
  have bb : Below wa.heap.size wa w2 := by rw [hw2]; exact (Below.refl _ _).alloc (Nat.le_refl _) _
  have b2 : Below w.heap.size w w2 := ba.trans (bb.mono (by omega))
  have hX : VRow w2 w.heap.size (rc rule0) := (show VRow wa w.heap.size (rc rule0) by rw [hwa]; exact VRow.new w #[.int .u32 0, .int .i64 0, .int .i64 0, .int .i64 0] _).below bb (by omega)
  have hY : VRow w2 (w.heap.size + 1) (rc rule0) := by rw [hw2, ← sa]; exact VRow.new wa #[.int .u32 0, .int .i64 0, .int .i64 0, .int .i64 0] _
  have hT2 := hT.below b2
  have hh0 := (hT2.head.get (i := 0) rfl).1
  have htop := T.topOk
  rw [hwa] at hw2
  rw [hw2] at hh0
  have HW := Lib.hid hw2
  have HX := Lib.hid hX
  have HY := Lib.hid hY
  have HB := Lib.hid b2
  have HT := Lib.hid hT
  have HOK := Lib.hid T
  have HFIN := Lib.hid hfin
  have HTOP := Lib.hid htop
  have hst : Hid (∀ i f, top = some i → F[i]? = some f → 34 ≤ 34 + f.n) := Lib.hid fun _ _ _ _ => by omega
  clear hwa hw2 hX hY b2 bb ba sa hT T hfin htop hr ho hres hT2
  go_enter Tryz.func84, Tryz.ntmps84
  go_wp2_with fail
  rw [← HW.out]
  go_loopw [7, 8] (fun fd q wr => ∃ (o best : Option RuleT) (qo : Option Nat) (k : Nat), o = best ∧ fd = .bool best.isSome ∧ q = ptrV G qo ∧ Hid (findA F a k qo best = res) ∧ Hid (∀ i f, qo = some i → F[i]? = some f → 34 ≤ k + f.n) ∧ Hid (∀ i, qo = some i → i < F.length) ∧ Hid (VRow wr w.heap.size (rc rule0)) ∧ Hid (VRow wr (w.heap.size + 1) (rc (bestOf best))) ∧ Hid (Below w.heap.size w wr)) (fun _ q wr => leftOf wr q)
  case atStart => exact ⟨none, none, top, 34, rfl, rfl, rfl, HFIN, hst, HTOP, HX, HY, HB⟩
  case round =>
    clear HX HY HB hh0 HFIN hst HTOP HW
    obtain ⟨o, best, qo, k, rfl, rfl, rfl, HF, HK, HI, HX, HY, HB⟩ := hrel
    have hend : ∀ wr : World, findA F a k qo o = o → VRow wr w.heap.size (rc rule0) → VRow wr (w.heap.size + 1) (rc (bestOf o)) → Below w.heap.size w wr → o = res ∧ VRow (((((wr.setCell ⟨w.heap.size, 0, none⟩ (.int .u32 ((bestOf o).a : Int))).setCell ⟨w.heap.size, 1, none⟩ (.int .i64 ((bestOf o).len : Int))).setCell ⟨w.heap.size, 2, none⟩ (.int .i64 ((bestOf o).act : Int))).setCell ⟨w.heap.size, 3, none⟩ (.int .i64 ((bestOf o).next : Int)))) w.heap.size (rc (bestOf o)) ∧ Below w.heap.size w (((((wr.setCell ⟨w.heap.size, 0, none⟩ (.int .u32 ((bestOf o).a : Int))).setCell ⟨w.heap.size, 1, none⟩ (.int .i64 ((bestOf o).len : Int))).setCell ⟨w.heap.size, 2, none⟩ (.int .i64 ((bestOf o).act : Int))).setCell ⟨w.heap.size, 3, none⟩ (.int .i64 ((bestOf o).next : Int)))) := fun wr h1 h2 h3 h4 =>
      ⟨h1.symm.trans HF.out, h2.set4 _ _ _ _, below4 h4 (Nat.le_refl _) _ _ _ _⟩
    have HEND := Lib.hid hend
    clear hend
    cases qo with
    | none =>
      have hfa : findA F a k none o = o := by cases k <;> rfl
      obtain ⟨h1, h2, h3⟩ := HEND.out wr hfa HX.out HY.out HB.out
      have HXe := HX
      have HYe := HY
      have H1 := Lib.hid h1
      have H2 := Lib.hid h2
      have H3 := Lib.hid h3
      have hx0 := (HXe.out.get (i := 0) rfl).1
      have hx1 := (HXe.out.get (i := 1) rfl).1
      have hx2 := (HXe.out.get (i := 2) rfl).1
      have hx3 := (HXe.out.get (i := 3) rfl).1
      have hf0 := (HXe.out.get (i := 0) rfl).2
      have hf1 := (HXe.out.get (i := 1) rfl).2
      have hf2 := (HXe.out.get (i := 2) rfl).2
      have hf3 := (HXe.out.get (i := 3) rfl).2
      have hy0 := (HYe.out.get (i := 0) rfl).1
      have hy1 := (HYe.out.get (i := 1) rfl).1
      have hy2 := (HYe.out.get (i := 2) rfl).1
      have hy3 := (HYe.out.get (i := 3) rfl).1
      clear h1 h2 h3 hfa HF HK HI HX HY HB HEND HXe HYe
      go_wp2_with fail
      have hz0 := (H2.out.get (i := 0) rfl).1
      have hz1 := (H2.out.get (i := 1) rfl).1
      have hz2 := (H2.out.get (i := 2) rfl).1
      have hz3 := (H2.out.get (i := 3) rfl).1
      exact bodyPost_ret (v := .tuple #[rv (bestOf o), .bool o.isSome]) (by simp [results, Tryz.results84, go_sem, hz0, hz1, hz2, hz3]) rfl ⟨by rw [H1.out], H3.out⟩
    | some i =>
      have hilt := HI.out i rfl
      have hF := List.getElem?_eq_getElem hilt
      obtain ⟨f, hfe⟩ : ∃ f, f = F[i] := ⟨_, rfl⟩
      rw [← hfe] at hF
      have hsp := HOK.out.span i f hF
      have hk34 := HK.out i f rfl hF
      obtain ⟨k', rfl⟩ : ∃ k', k = k' + 1 := ⟨k - 1, by omega⟩
      have hrow := (HT.out.below HB.out).fork i f hF
      have hlf := leftOf_some hrow
      have hpe : ptrV G (some i) = .pointer (some ⟨G i, 0, none⟩) := rfl
      rw [hpe] at hlf ⊢
      clear hpe
      have hfa0 : findA F a (k' + 1) (some i) o = if holdsB f.a f.n a then findA F a k' (f.kid (bitN a f.n)) (f.rule.or o) else o := by
        show (match F[i]? with
          | none => o
          | some f => if holdsB f.a f.n a then findA F a k' (f.kid (bitN a f.n)) (f.rule.or o) else o) = _
        rw [hF]
      have hho := fun w => sholds_any f.a f.n a hsp.1 ha hsp.2.1 w
      have hc0 := (hrow.get (i := 0) rfl).1
      have hc1 := (hrow.get (i := 1) rfl).1
      have HROW := Lib.hid hrow
      have HLF := Lib.hid hlf
      have HSP := Lib.hid hsp
      have HHF := Lib.hid hF
      cases hh : holdsB f.a f.n a with
      | false =>
        rw [hh] at hho hfa0
        have HHO := Lib.hid hho
        have HFA := Lib.hid hfa0
        clear hho hfa0 hh hrow hlf hsp hF hfe hk34
        go_wp2_with fail
        refine (HHO.out _).mono ?_
        rintro e w5 ⟨rfl, hb5⟩
        have hfa : findA F a (k' + 1) (some i) o = o := HFA.out
        have hX5 := HX.out.below hb5 HX.out.lt
        have hY5 := HY.out.below hb5 HY.out.lt
        have hB5 := HB.out.trans (hb5.mono HB.out.size)
        obtain ⟨h1, h2, h3⟩ := HEND.out w5 hfa hX5 hY5 hB5
        have HXe := Lib.hid hX5
        have HYe := Lib.hid hY5
        clear hX5 hY5 hB5 hb5 hc0 hc1 HFA HROW HLF HSP HHF HHO
        have H1 := Lib.hid h1
        have H2 := Lib.hid h2
        have H3 := Lib.hid h3
        have hx0 := (HXe.out.get (i := 0) rfl).1
        have hx1 := (HXe.out.get (i := 1) rfl).1
        have hx2 := (HXe.out.get (i := 2) rfl).1
        have hx3 := (HXe.out.get (i := 3) rfl).1
        have hf0 := (HXe.out.get (i := 0) rfl).2
        have hf1 := (HXe.out.get (i := 1) rfl).2
        have hf2 := (HXe.out.get (i := 2) rfl).2
        have hf3 := (HXe.out.get (i := 3) rfl).2
        have hy0 := (HYe.out.get (i := 0) rfl).1
        have hy1 := (HYe.out.get (i := 1) rfl).1
        have hy2 := (HYe.out.get (i := 2) rfl).1
        have hy3 := (HYe.out.get (i := 3) rfl).1
        clear h1 h2 h3 hfa HF HK HI HX HY HB HEND HXe HYe
        go_wp2_with fail
        have hz0 := (H2.out.get (i := 0) rfl).1
        have hz1 := (H2.out.get (i := 1) rfl).1
        have hz2 := (H2.out.get (i := 2) rfl).1
        have hz3 := (H2.out.get (i := 3) rfl).1
        exact bodyPost_ret (v := .tuple #[rv (bestOf o), .bool o.isSome]) (by simp [results, Tryz.results84, go_sem, hz0, hz1, hz2, hz3]) rfl ⟨by rw [H1.out], H3.out⟩
      | true =>
        rw [hh] at hho hfa0
        rw [if_pos rfl] at hfa0
        have HHO := Lib.hid hho
        have HFA := Lib.hid hfa0
        have h32 : f.n = 32 → f.k0 = none ∧ f.k1 = none := fun e => by
          have hno : ∀ b, b = 0 ∨ b = 1 → f.kid b = none := fun b hb => by
            cases hkb : f.kid b with
            | none => rfl
            | some k2 =>
              obtain ⟨g, hg, hlt, _⟩ := HOK.out.kid i f b k2 hF hb hkb
              have := (HOK.out.span k2 g hg).2.1
              omega
          exact ⟨hno 0 (.inl rfl), hno 1 (.inr rfl)⟩
        have hbl := fun w (hw : VRow w (G i) (fcells G f)) => below_any G (G i) a f w hw ha hsp.2.1 h32
        have hkd := HOK.out.kid i f (bitN a f.n)
        have HBL := Lib.hid hbl
        have HKD := Lib.hid hkd
        clear hho hfa0 hh hrow hlf hsp hF hfe hbl hkd h32
        obtain ⟨nx, hnx⟩ : ∃ nx, nx = f.kid (bitN a f.n) := ⟨_, rfl⟩
        have HNX := Lib.hid hnx
        have hq1 : Hid (∀ i' f', nx = some i' → F[i']? = some f' → 34 ≤ k' + f'.n) := Lib.hid fun i' f' e hf' => by
          obtain ⟨g, hg, hlt, _⟩ := HKD.out i' HHF.out (bitN_two _ _) (hnx ▸ e)
          rw [hf'] at hg
          injection hg with hg
          rw [hg]; omega
        have hq2 : Hid (∀ i', nx = some i' → i' < F.length) := Lib.hid fun i' e => HT.out.bound.1 i f _ i' HHF.out (hnx ▸ e)
        clear hnx
        go_wp2_with fail
        refine (HHO.out _).mono ?_
        rintro e w5 ⟨rfl, hb5⟩
        have hX5 := HX.out.below hb5 HX.out.lt
        have hY5 := HY.out.below hb5 HY.out.lt
        have hB5 := HB.out.trans (hb5.mono HB.out.size)
        have hR5 := HROW.out.below hb5 HROW.out.lt
        clear hc0 hc1
        have hd6 := (hR5.get (i := 6) rfl).1
        have hd2 := (hR5.get (i := 2) rfl).1
        have hd3 := (hR5.get (i := 3) rfl).1
        have hd4 := (hR5.get (i := 4) rfl).1
        have hd5 := (hR5.get (i := 5) rfl).1
        cases hru : f.rule with
        | none =>
          rw [hru] at hd6 hd2 hd3 hd4 hd5
          have hcall := HBL.out w5 hR5
          rw [← HNX.out] at hcall
          have HC := Lib.hid hcall
          have hfin : findA F a k' nx o = res := by
            have h1 := HFA.out
            rw [hru, ← HNX.out] at h1
            exact h1.symm.trans HF.out
          have HFI := Lib.hid hfin
          have HX5 := Lib.hid hX5
          have HY5 := Lib.hid hY5
          have HB5 := Lib.hid hB5
          have HR5 := Lib.hid hR5
          clear hcall hfin hX5 hY5 hB5 hR5 hb5 HX HY HB HF HK HI HEND HROW HHO HFA HBL hru
          go_wp2_with fail
          refine (HC.out).mono ?_
          rintro e w6 ⟨rfl, hb6⟩
          go_wp2_with fail
          refine ⟨⟨_, o, nx, k', rfl, rfl, rfl, HFI, hq1, hq2, Lib.hid (HX5.out.below hb6 HX5.out.lt), Lib.hid (HY5.out.below hb6 HY5.out.lt), Lib.hid (HB5.out.trans (hb6.mono HB5.out.size))⟩, ?_⟩
          rw [HLF.out]
          cases nx with
          | none => rw [leftOf_none]; have := HSP.out.2.1; omega
          | some i' =>
            obtain ⟨g, hg, hlt, _⟩ := HKD.out i' HHF.out (bitN_two _ _) HNX.out.symm
            rw [leftOf_some ((HT.out.below (HB5.out.trans (hb6.mono HB5.out.size))).fork i' g hg)]
            have := (HOK.out.span i' g hg).2.1
            omega
        | some r =>
          rw [hru] at hd6 hd2 hd3 hd4 hd5
          have hbs : bestOf (some r) = r := rfl
          rw [hbs] at hd2 hd3 hd4 hd5
          clear hbs
          have hg0 := (hY5.get (i := 0) rfl).1
          have hg1 := (hY5.get (i := 1) rfl).1
          have hg2 := (hY5.get (i := 2) rfl).1
          have hg3 := (hY5.get (i := 3) rfl).1
          have hgf0 := (hY5.get (i := 0) rfl).2
          have hgf1 := (hY5.get (i := 1) rfl).2
          have hgf2 := (hY5.get (i := 2) rfl).2
          have hgf3 := (hY5.get (i := 3) rfl).2
          have hY6 : VRow (((((w5.setCell ⟨w.heap.size + 1, 0, none⟩ (.int .u32 (r.a : Int))).setCell ⟨w.heap.size + 1, 1, none⟩ (.int .i64 (r.len : Int))).setCell ⟨w.heap.size + 1, 2, none⟩ (.int .i64 (r.act : Int))).setCell ⟨w.heap.size + 1, 3, none⟩ (.int .i64 (r.next : Int)))) (w.heap.size + 1) (rc (bestOf (some r))) := hY5.set4 _ _ _ _
          have hX6 : VRow (((((w5.setCell ⟨w.heap.size + 1, 0, none⟩ (.int .u32 (r.a : Int))).setCell ⟨w.heap.size + 1, 1, none⟩ (.int .i64 (r.len : Int))).setCell ⟨w.heap.size + 1, 2, none⟩ (.int .i64 (r.act : Int))).setCell ⟨w.heap.size + 1, 3, none⟩ (.int .i64 (r.next : Int)))) w.heap.size (rc rule0) :=
            (((hX5.other (p := ⟨w.heap.size + 1, 0, none⟩) (by show w.heap.size + 1 ≠ w.heap.size; omega) _).other (p := ⟨w.heap.size + 1, 1, none⟩) (by show w.heap.size + 1 ≠ w.heap.size; omega) _).other (p := ⟨w.heap.size + 1, 2, none⟩) (by show w.heap.size + 1 ≠ w.heap.size; omega) _).other (p := ⟨w.heap.size + 1, 3, none⟩) (by show w.heap.size + 1 ≠ w.heap.size; omega) _
          have hB6 := below4 hB5 (show w.heap.size ≤ w.heap.size + 1 by omega) (.int .u32 (r.a : Int)) (.int .i64 (r.len : Int)) (.int .i64 (r.act : Int)) (.int .i64 (r.next : Int))
          obtain ⟨w6, hw6⟩ : ∃ w6, w6 = ((((w5.setCell ⟨w.heap.size + 1, 0, none⟩ (.int .u32 (r.a : Int))).setCell ⟨w.heap.size + 1, 1, none⟩ (.int .i64 (r.len : Int))).setCell ⟨w.heap.size + 1, 2, none⟩ (.int .i64 (r.act : Int))).setCell ⟨w.heap.size + 1, 3, none⟩ (.int .i64 (r.next : Int))) := ⟨_, rfl⟩
          rw [← hw6] at hY6 hX6 hB6
          have hR6 := (HT.out.below hB6).fork i f HHF.out
          have hcall := HBL.out w6 hR6
          rw [← HNX.out] at hcall
          have HC := Lib.hid hcall
          have hfin : findA F a k' nx (some r) = res := by
            have h1 := HFA.out
            rw [hru, ← HNX.out] at h1
            exact h1.symm.trans HF.out
          have HFI := Lib.hid hfin
          have HX5 := Lib.hid hX6
          have HY5 := Lib.hid hY6
          have HB5 := Lib.hid hB6
          have HW6 := Lib.hid hw6
          clear hcall hfin hX5 hY5 hB5 hR5 hb5 hX6 hY6 hB6 hR6 hw6 HX HY HB HF HK HI HEND HROW HHO HFA HBL hru
          go_wp2_with fail
          rw [← HW6.out]
          clear hd6 hd2 hd3 hd4 hd5 hg0 hg1 hg2 hg3 hgf0 hgf1 hgf2 hgf3
          refine (HC.out).mono ?_
          rintro e w7 ⟨rfl, hb6⟩
          go_wp2_with fail
          refine ⟨⟨_, some r, nx, k', rfl, rfl, rfl, HFI, hq1, hq2, Lib.hid (HX5.out.below hb6 HX5.out.lt), Lib.hid (HY5.out.below hb6 HY5.out.lt), Lib.hid (HB5.out.trans (hb6.mono HB5.out.size))⟩, ?_⟩
          rw [HLF.out]
          cases nx with
          | none => rw [leftOf_none]; have := HSP.out.2.1; omega
          | some i' =>
            obtain ⟨g, hg, hlt, _⟩ := HKD.out i' HHF.out (bitN_two _ _) HNX.out.symm
            rw [leftOf_some ((HT.out.below (HB5.out.trans (hb6.mono HB5.out.size))).fork i' g hg)]
            have := (HOK.out.span i' g hg).2.1
            omega
end Go.Proofs.YtpjoefekhgmlhaaGreat.Tp
