/- THE PLAIN LAW of a trie: forks by their places in a row; what is found is the longest rule that holds an address. No conditions. -/
import Derived.Test.YtpjoefekhgmlhaaGreatMb07
namespace Go.Proofs.YtpjoefekhgmlhaaGreat.Tp
open Go.RowKit Mem

/-- One bit of an address, of which 0 is the highest. -/
def bitN (a i : Nat) : Nat := a / 2 ^ (31 - i) % 2
theorem bitN_two (a i : Nat) : bitN a i = 0 ∨ bitN a i = 1 := by unfold bitN; omega
/-- The first n bits are alike. -/
def agree (x y n : Nat) : Prop := x / wid n = y / wid n
theorem agree.trans {x y z n : Nat} (h : agree x y n) (k : agree y z n) : agree x z n := Eq.trans h k
theorem agree.symm {x y n : Nat} (h : agree x y n) : agree y x n := Eq.symm h
theorem agree_le {x y m n : Nat} (h : agree x y n) (hm : m ≤ n) (hn : n ≤ 32) : agree x y m := by
  unfold agree wid at *
  have e : 2 ^ (32 - m) = 2 ^ (32 - n) * 2 ^ (n - m) := by rw [← Nat.pow_add]; congr 1; omega
  rw [e, ← Nat.div_div_eq_div_mul, ← Nat.div_div_eq_div_mul, h]
theorem agree_bit {x y m n : Nat} (h : agree x y n) (hm : m < n) (hn : n ≤ 32) : bitN x m = bitN y m := by
  have h1 := agree_le h (show m + 1 ≤ n by omega) hn
  unfold agree wid at h1
  unfold bitN
  rw [show 31 - m = 32 - (m + 1) by omega, h1]
theorem agree_succ {x y m : Nat} (h : agree x y m) (hb : bitN x m = bitN y m) (hm : m < 32) : agree x y (m + 1) := by
  unfold agree wid at *
  unfold bitN at hb
  have e : 2 ^ (32 - m) = 2 ^ (31 - m) * 2 := by rw [← Nat.pow_succ]; congr 1; omega
  rw [e, ← Nat.div_div_eq_div_mul, ← Nat.div_div_eq_div_mul] at h
  rw [show 32 - (m + 1) = 31 - m by omega]
  omega
theorem agree_zero {x y : Nat} (hx : x < 4294967296) (hy : y < 4294967296) : agree x y 0 := by
  unfold agree wid
  rw [show 2 ^ (32 - 0) = 4294967296 by rfl, Nat.div_eq_of_lt hx, Nat.div_eq_of_lt hy]
theorem agree_full {x y : Nat} (h : agree x y 32) : x = y := by
  unfold agree wid at h
  simpa using h
theorem agree_low {x n : Nat} : agree (lowN x n) x n := by
  unfold agree lowN
  rw [Nat.mul_div_cancel _ (wid_pos n)]
theorem holds_agree {x n a : Nat} : holdsB x n a = true ↔ agree x a n := by unfold holdsB agree; exact decide_eq_true_iff
/-- Two prefixes of one length that hold an address are one. -/
theorem agree_one {x y n : Nat} (h : agree x y n) (hx : x % wid n = 0) (hy : y % wid n = 0) : x = y := by
  unfold agree at h
  have h1 := Nat.div_add_mod x (wid n)
  have h2 := Nat.div_add_mod y (wid n)
  rw [hx, h] at h1
  rw [hy] at h2
  omega

structure ForkT where
  a : Nat
  n : Nat
  rule : Option RuleT
  k0 : Option Nat
  k1 : Option Nat
def ForkT.kid (f : ForkT) (b : Nat) : Option Nat := if b = 0 then f.k0 else f.k1
def ForkT.setKid (f : ForkT) (b : Nat) (k : Option Nat) : ForkT := if b = 0 then { f with k0 := k } else { f with k1 := k }
theorem setKid_a (f : ForkT) (b : Nat) (k : Option Nat) : (f.setKid b k).a = f.a ∧ (f.setKid b k).n = f.n ∧ (f.setKid b k).rule = f.rule := by unfold ForkT.setKid; split <;> exact ⟨rfl, rfl, rfl⟩
theorem setKid_same (f : ForkT) (b : Nat) (k : Option Nat) : (f.setKid b k).kid b = k := by unfold ForkT.setKid ForkT.kid; split <;> simp_all
theorem setKid_other (f : ForkT) {b c : Nat} (k : Option Nat) (hb : b = 0 ∨ b = 1) (hc : c = 0 ∨ c = 1) (h : c ≠ b) : (f.setKid b k).kid c = f.kid c := by
  unfold ForkT.setKid ForkT.kid
  rcases hb with rfl | rfl <;> rcases hc with rfl | rfl <;> simp_all

/-- The way of an address from a place on comes by the fork j. -/
inductive Reach (F : List ForkT) (a : Nat) : Option Nat → Nat → Prop
  | here {j : Nat} {f : ForkT} : F[j]? = some f → agree f.a a f.n → Reach F a (some j) j
  | step {i j : Nat} {f : ForkT} : F[i]? = some f → agree f.a a f.n → Reach F a (f.kid (bitN a f.n)) j → Reach F a (some i) j
/-- Each kid's prefix is longer, and goes on by its bit. -/
def KidOk (F : List ForkT) : Prop := ∀ (i : Nat) (f : ForkT) (b k : Nat), F[i]? = some f → (b = 0 ∨ b = 1) → f.kid b = some k → ∃ g : ForkT, F[k]? = some g ∧ f.n < g.n ∧ agree f.a g.a f.n ∧ bitN g.a f.n = b
structure TrieOk (F : List ForkT) (top : Option Nat) (rs : List RuleT) : Prop where
  span : ∀ (i : Nat) (f : ForkT), F[i]? = some f → f.a < 4294967296 ∧ f.n ≤ 32 ∧ f.a % wid f.n = 0
  kid : KidOk F
  topOk : ∀ k, top = some k → k < F.length
  rule : ∀ (i : Nat) (f : ForkT), F[i]? = some f → ∀ r, f.rule = some r → r ∈ rs ∧ r.a = f.a ∧ r.len = f.n
  reach : ∀ r ∈ rs, ∃ j f, Reach F r.a top j ∧ F[j]? = some f ∧ f.rule = some r
theorem TrieOk.nil : TrieOk [] none [] := ⟨fun i f h => by simp at h, fun i f b k h => by simp at h, fun k h => (by cases h), fun i f h => by simp at h, fun r hr => by simp at hr⟩

theorem Reach.end_ {F : List ForkT} {a : Nat} {q : Option Nat} {j : Nat} (h : Reach F a q j) : ∃ g, F[j]? = some g ∧ agree g.a a g.n := by
  induction h with
  | here h1 h2 => exact ⟨_, h1, h2⟩
  | step _ _ _ ih => exact ih
theorem Reach.some_ {F : List ForkT} {a : Nat} {q : Option Nat} {j : Nat} (h : Reach F a q j) : ∃ i f, q = some i ∧ F[i]? = some f ∧ agree f.a a f.n := by
  cases h with
  | here h1 h2 => exact ⟨_, _, rfl, h1, h2⟩
  | step h1 h2 _ => exact ⟨_, _, rfl, h1, h2⟩
theorem Reach.le {F : List ForkT} (hk : KidOk F) {a : Nat} {q : Option Nat} {j : Nat} (h : Reach F a q j) : ∀ i f g, q = some i → F[i]? = some f → F[j]? = some g → f.n ≤ g.n := by
  induction h with
  | here h1 h2 =>
    intro i f g e hf hg
    injection e with e
    subst e
    rw [hf] at hg
    injection hg with hg
    rw [hg]; exact Nat.le_refl _
  | @step i0 j f0 h1 h2 h3 ih =>
    intro i f g e hf hg
    injection e with e
    subst e
    rw [h1] at hf
    injection hf with hf
    subst hf
    obtain ⟨k, f', e', hf', _⟩ := h3.some_
    obtain ⟨g', hg', hlt, _⟩ := hk _ _ _ k h1 (bitN_two _ _) e'
    have := ih k g' g e' hg' hg
    omega
/-- An address that has the first bits of another one goes its way. -/
theorem Reach.move {F : List ForkT} (hk : KidOk F) {x a : Nat} {q : Option Nat} {j : Nat} (h : Reach F x q j) : ∀ g, F[j]? = some g → g.n ≤ 32 → agree x a g.n → Reach F a q j := by
  induction h with
  | here h1 h2 =>
    intro g hg h32 ha
    rw [h1] at hg
    injection hg with hg
    subst hg
    exact .here h1 (h2.trans ha)
  | @step i j f h1 h2 h3 ih =>
    intro g hg h32 ha
    obtain ⟨k, f', e', hf', _⟩ := h3.some_
    obtain ⟨g', hg', hlt, _⟩ := hk _ _ _ k h1 (bitN_two _ _) e'
    have hle := h3.le hk k g' g e' hg' hg
    have h4 := ih g hg h32 ha
    rw [agree_bit ha (show f.n < g.n by omega) h32] at h4
    exact .step h1 (h2.trans (agree_le ha (by omega) h32)) h4

/-- Where a fork hangs: at the top, or at a kid of a fork. -/
inductive Place where
  | top : Place
  | kid (i b : Nat) : Place
def getP (F : List ForkT) (top : Option Nat) : Place → Option Nat
  | .top => top
  | .kid i b => match F[i]? with
    | some f => f.kid b
    | none => none
def setP (F : List ForkT) (k : Option Nat) : Place → List ForkT
  | .top => F
  | .kid i b => match F[i]? with
    | some f => F.set i (f.setKid b k)
    | none => F
def setT (top k : Option Nat) : Place → Option Nat
  | .top => k
  | .kid _ _ => top
def level (F : List ForkT) : Place → Nat
  | .top => 0
  | .kid i _ => match F[i]? with
    | some f => f.n + 1
    | none => 0
theorem getP_kid {F : List ForkT} {top : Option Nat} {i b : Nat} {f : ForkT} (h : F[i]? = some f) : getP F top (.kid i b) = f.kid b := by simp [getP, h]
theorem setP_kid {F : List ForkT} {k : Option Nat} {i b : Nat} {f : ForkT} (h : F[i]? = some f) : setP F k (.kid i b) = F.set i (f.setKid b k) := by simp [setP, h]
theorem level_kid {F : List ForkT} {i b : Nat} {f : ForkT} (h : F[i]? = some f) : level F (.kid i b) = f.n + 1 := by simp [level, h]
/-- The way of a rule's prefix comes to a place, by forks that hold all of it, and more. -/
inductive Path (F : List ForkT) (top : Option Nat) (r : RuleT) : Place → Prop
  | top : Path F top r .top
  | kid {p : Place} {i : Nat} {f : ForkT} : Path F top r p → getP F top p = some i → F[i]? = some f → agree f.a r.a f.n → f.n < r.len → Path F top r (.kid i (bitN r.a f.n))
theorem setP_len (F : List ForkT) (k : Option Nat) (p : Place) : (setP F k p).length = F.length := by
  unfold setP
  cases p with
  | top => rfl
  | kid i b => simp only; split <;> simp
theorem setP_get {F : List ForkT} {k : Option Nat} {p : Place} {i : Nat} {f : ForkT} (hf : F[i]? = some f) (hp : p = .top ∨ ∃ i b, p = .kid i b ∧ (b = 0 ∨ b = 1)) :
    ∃ f', (setP F k p)[i]? = some f' ∧ f'.a = f.a ∧ f'.n = f.n ∧ f'.rule = f.rule ∧ ∀ b, b = 0 ∨ b = 1 → (Place.kid i b ≠ p → f'.kid b = f.kid b) ∧ (Place.kid i b = p → f'.kid b = k) := by
  rcases hp with rfl | ⟨j, c, rfl, hc⟩
  · exact ⟨f, hf, rfl, rfl, rfl, fun b _ => ⟨fun _ => rfl, fun e => by cases e⟩⟩
  · by_cases e : i = j
    · subst e
      rw [setP_kid hf]
      obtain ⟨h1, h2, h3⟩ := setKid_a f c k
      refine ⟨f.setKid c k, ?_, h1, h2, h3, fun b hb => ⟨fun hne => setKid_other f k hc hb (fun e => hne (by rw [e])), fun he => ?_⟩⟩
      · rw [List.getElem?_set_self (List.getElem?_eq_some_iff.1 hf).1]
      · injection he with _ he
        rw [he]; exact setKid_same f c k
    · refine ⟨f, ?_, rfl, rfl, rfl, fun b _ => ⟨fun _ => rfl, fun he => by injection he with he; exact absurd he e⟩⟩
      unfold setP
      simp only
      split
      · rw [List.getElem?_set_ne (fun h => e h.symm)]; exact hf
      · exact hf
theorem Path.two {F : List ForkT} {top : Option Nat} {r : RuleT} {p : Place} (h : Path F top r p) : p = .top ∨ ∃ i b, p = .kid i b ∧ (b = 0 ∨ b = 1) := by
  cases h with
  | top => exact .inl rfl
  | kid _ _ _ _ _ => exact .inr ⟨_, _, rfl, bitN_two _ _⟩

/-- F' is F with something put to a place, below which what was there is still come by. -/
structure Hung (F F' : List ForkT) (top top' : Option Nat) (p : Place) (N : Nat) : Prop where
  old : ∀ i f, F[i]? = some f → ∃ f', F'[i]? = some f' ∧ f'.a = f.a ∧ f'.n = f.n ∧ f'.rule = f.rule ∧ ∀ b, b = 0 ∨ b = 1 → (Place.kid i b ≠ p → f'.kid b = f.kid b) ∧ (Place.kid i b = p → f'.kid b = some N)
  top_ : (p ≠ .top → top' = top) ∧ (p = .top → top' = some N)
  through : ∀ x j, Reach F' x (getP F top p) j → Reach F' x (some N) j
theorem Hung.keep {F F' : List ForkT} {top top' : Option Nat} {p : Place} {N : Nat} (H : Hung F F' top top' p N) {x : Nat} {q : Option Nat} {j : Nat} (h : Reach F x q j) : Reach F' x q j := by
  induction h with
  | here h1 h2 =>
    obtain ⟨f', h3, h4, h5, _⟩ := H.old _ _ h1
    exact .here h3 (by rw [h4, h5]; exact h2)
  | @step i j f h1 h2 h3 ih =>
    obtain ⟨f', h4, h5, h6, _, h7⟩ := H.old _ _ h1
    obtain ⟨h8, h9⟩ := h7 (bitN x f.n) (bitN_two _ _)
    refine .step h4 (by rw [h5, h6]; exact h2) ?_
    rw [h6]
    by_cases e : Place.kid i (bitN x f.n) = p
    · rw [h9 e]
      refine H.through x j ?_
      rw [← e, getP_kid h1]
      exact ih
    · rw [h8 e]; exact ih
theorem Hung.keepTop {F F' : List ForkT} {top top' : Option Nat} {p : Place} {N : Nat} (H : Hung F F' top top' p N) {x j : Nat} (h : Reach F x top j) : Reach F' x top' j := by
  by_cases e : p = .top
  · rw [H.top_.2 e]
    refine H.through x j ?_
    rw [e]
    exact H.keep h
  · rw [H.top_.1 e]; exact H.keep h
/-- What hangs at the place is come by, on the way of the rule. -/
theorem Hung.own {F F' : List ForkT} {top top' : Option Nat} {p : Place} {N : Nat} (hk : KidOk F) (H : Hung F F' top top' p N) {r : RuleT} {t : Nat} {q : Place} (h : Path F top r q) : (level F q < level F p ∨ q = p) → (q ≠ p → Reach F' r.a (getP F top q) t) → (q = p → Reach F' r.a (some N) t) → Reach F' r.a top' t := by
  induction h with
  | top =>
    intro _ h1 h2
    by_cases e : p = .top
    · rw [H.top_.2 e]; exact h2 e.symm
    · rw [H.top_.1 e]; exact h1 (fun e' => e e'.symm)
  | @kid q0 i f hq hg hf ha hlt ih =>
    intro hlev h1 h2
    obtain ⟨f', h4, h5, h6, _, h7⟩ := H.old _ _ hf
    obtain ⟨h8, h9⟩ := h7 (bitN r.a f.n) (bitN_two _ _)
    have hlv : level F (.kid i (bitN r.a f.n)) = f.n + 1 := level_kid hf
    have hq0 : level F q0 < f.n + 1 := by
      cases hq with
      | top => show 0 < f.n + 1; omega
      | @kid _ i2 f2 _ _ hf2 _ _ =>
        rw [level_kid hf2]
        rw [getP_kid hf2] at hg
        obtain ⟨g, hg2, hlt2, _⟩ := hk _ _ _ _ hf2 (bitN_two _ _) hg
        rw [hf] at hg2
        injection hg2 with hg2
        rw [hg2]; omega
    have hlp : level F q0 < level F p := by
      rcases hlev with h | h
      · omega
      · rw [← h, hlv]; exact hq0
    have hne : q0 ≠ p := fun e => by rw [e] at hlp; omega
    refine ih (.inl hlp) (fun _ => ?_) (fun e => absurd e hne)
    rw [hg]
    refine .step h4 (by rw [h5, h6]; exact ha) ?_
    rw [h6]
    by_cases e : Place.kid i (bitN r.a f.n) = p
    · rw [h9 e]; exact h2 e
    · rw [h8 e]
      have := h1 e
      rw [getP_kid hf] at this
      exact this

/-- The fork of a rule, without kids. -/
def fork0 (r : RuleT) : ForkT := ⟨r.a, r.len, some r, none, none⟩
def join0 (a m : Nat) : ForkT := ⟨a, m, none, none, none⟩
structure RulePre (r : RuleT) : Prop where
  a : r.a < 4294967296
  len : r.len ≤ 32
  host : r.a % wid r.len = 0
theorem kid_join {a m b k : Nat} : (join0 a m).kid b ≠ some k := by unfold join0 ForkT.kid; split <;> simp
theorem kid_fork {r : RuleT} {b k : Nat} : (fork0 r).kid b ≠ some k := by unfold fork0 ForkT.kid; split <;> simp

section
variable {F : List ForkT} {top : Option Nat} {rs : List RuleT} {r : RuleT} {p : Place}
/-- What a place's fork has ahead of it. -/
theorem Path.ahead (h : Path F top r p) : p = .top ∨ ∃ i f, p = .kid i (bitN r.a f.n) ∧ F[i]? = some f ∧ agree f.a r.a f.n ∧ f.n < r.len := by
  cases h with
  | top => exact .inl rfl
  | kid _ _ h1 h2 h3 => exact .inr ⟨_, _, rfl, h1, h2, h3⟩
/-- The row of forks, a new one put to a place, whatever more there is behind. -/
theorem hung_of (hp : Path F top r p) (new : List ForkT) (N : Nat) (hN : ∀ x j, Reach (setP F (some N) p ++ new) x (getP F top p) j → Reach (setP F (some N) p ++ new) x (some N) j) :
    Hung F (setP F (some N) p ++ new) top (setT top (some N) p) p N := by
  refine ⟨fun i f hf => ?_, ⟨fun h => ?_, fun h => ?_⟩, hN⟩
  · obtain ⟨f', h1, h2⟩ := setP_get (k := some N) hf hp.two
    refine ⟨f', ?_, h2⟩
    rw [List.getElem?_append_left (by rw [setP_len]; exact (List.getElem?_eq_some_iff.1 hf).1)]
    exact h1
  · cases p with
    | top => exact absurd rfl h
    | kid i b => rfl
  · rw [h]; rfl
theorem old_of {k : Option Nat} {new : List ForkT} {i : Nat} {f' : ForkT} (hp : Path F top r p) (h : (setP F k p ++ new)[i]? = some f') (hi : i < F.length) : ∃ f, F[i]? = some f ∧ f'.a = f.a ∧ f'.n = f.n ∧ f'.rule = f.rule ∧ ∀ b, b = 0 ∨ b = 1 → (Place.kid i b ≠ p → f'.kid b = f.kid b) ∧ (Place.kid i b = p → f'.kid b = k) := by
  have hf := List.getElem?_eq_getElem hi
  obtain ⟨f2, h1, h2⟩ := setP_get (k := k) hf hp.two
  rw [List.getElem?_append_left (by rw [setP_len]; exact hi), h1] at h
  injection h with h
  subst h
  exact ⟨_, hf, h2⟩
theorem new_at {k : Option Nat} {new : List ForkT} {i : Nat} : (setP F k p ++ new)[F.length + i]? = new[i]? := by
  rw [List.getElem?_append_right (by rw [setP_len]; omega), setP_len]; congr 1; omega
/-- All that is asked of the row with what is new. -/
theorem trie_of (T : TrieOk F top rs) (hr : RulePre r) (hp : Path F top r p) (new : List ForkT) (N jn : Nat) (hH : Hung F (setP F (some N) p ++ new) top (setT top (some N) p) p N)
    (hNg : ∃ g : ForkT, (setP F (some N) p ++ new)[N]? = some g ∧ g.n ≤ r.len ∧ agree g.a r.a g.n ∧ ∀ o, getP F top p = some o → ∀ fo : ForkT, F[o]? = some fo → g.n < fo.n ∧ agree g.a fo.a g.n)
    (hsp : ∀ (i : Nat) (f : ForkT), new[i]? = some f → f.a < 4294967296 ∧ f.n ≤ 32 ∧ f.a % wid f.n = 0)
    (hlow : ∀ (i : Nat) (f : ForkT), p = .kid i (bitN r.a f.n) → F[i]? = some f → ∀ g : ForkT, (setP F (some N) p ++ new)[N]? = some g → f.n < g.n)
    (hkd : ∀ (i : Nat) (f : ForkT) (b k : Nat), new[i]? = some f → (b = 0 ∨ b = 1) → f.kid b = some k → ∃ g : ForkT, (setP F (some N) p ++ new)[k]? = some g ∧ f.n < g.n ∧ agree f.a g.a f.n ∧ bitN g.a f.n = b)
    (hru : ∀ (i : Nat) (f : ForkT), new[i]? = some f → ∀ s, f.rule = some s → s = r ∧ r.a = f.a ∧ r.len = f.n)
    (hre : Reach (setP F (some N) p ++ new) r.a (some N) jn) (hjn : ∃ f : ForkT, (setP F (some N) p ++ new)[jn]? = some f ∧ f.rule = some r) :
    TrieOk (setP F (some N) p ++ new) (setT top (some N) p) (rs ++ [r]) := by
  obtain ⟨gN, hgN, hgn, hga, hgo⟩ := hNg
  have hNlt : N < (setP F (some N) p ++ new).length := (List.getElem?_eq_some_iff.1 hgN).1
  refine ⟨fun i f h => ?_, fun i f b k h hb hk => ?_, fun k h => ?_, fun i f h s hs => ?_, fun s hs => ?_⟩
  · by_cases hi : i < F.length
    · obtain ⟨f0, h1, h2, h3, _⟩ := old_of hp h hi
      rw [h2, h3]; exact T.span i f0 h1
    · rw [show i = F.length + (i - F.length) by omega, new_at] at h
      exact hsp _ f h
  · by_cases hi : i < F.length
    · obtain ⟨f0, h1, h2, h3, _, h4⟩ := old_of hp h hi
      obtain ⟨h5, h6⟩ := h4 b hb
      by_cases e : Place.kid i b = p
      · rw [h6 e] at hk
        injection hk with hk
        subst hk
        refine ⟨gN, hgN, ?_, ?_, ?_⟩
        all_goals
          rcases hp.ahead with e1 | ⟨i2, f2, e1, hf2, ha2, hl2⟩
          · rw [e1] at e; cases e
          rw [e1] at e
          injection e with e2 e3
          subst e2
          rw [h1] at hf2
          injection hf2 with hf2
          subst hf2
          have hlo := hlow i f0 e1 h1 gN hgN
        · rw [h3]; exact hlo
        · rw [h2, h3]; exact ha2.trans (agree_le hga (by omega) (by have := hr.len; omega)).symm
        · rw [e3, h3]
          have := agree_bit hga hlo (by have := hr.len; omega)
          exact this
      · rw [h5 e] at hk
        obtain ⟨g, hg, h7, h8, h9⟩ := T.kid i f0 b k h1 hb hk
        obtain ⟨g', hg', ha', hn', _⟩ := hH.old _ _ hg
        exact ⟨g', hg', by rw [h3, hn']; exact h7, by rw [h2, h3, ha']; exact h8, by rw [h3, ha']; exact h9⟩
    · rw [show i = F.length + (i - F.length) by omega, new_at] at h
      exact hkd _ f b k h hb hk
  · by_cases e : p = .top
    · rw [hH.top_.2 e] at h
      injection h with h
      rw [← h]; exact hNlt
    · rw [hH.top_.1 e] at h
      rw [List.length_append, setP_len]
      have := T.topOk k h
      omega
  · by_cases hi : i < F.length
    · obtain ⟨f0, h1, h2, h3, h4, _⟩ := old_of hp h hi
      rw [h4] at hs
      obtain ⟨h5, h6, h7⟩ := T.rule i f0 h1 s hs
      exact ⟨List.mem_append_left _ h5, by rw [h2]; exact h6, by rw [h3]; exact h7⟩
    · rw [show i = F.length + (i - F.length) by omega, new_at] at h
      obtain ⟨h1, h2, h3⟩ := hru _ f h s hs
      subst h1
      exact ⟨by simp, h2, h3⟩
  · rcases List.mem_append.1 hs with hs | hs
    · obtain ⟨j, f, h1, h2, h3⟩ := T.reach s hs
      obtain ⟨f', h4, _, _, h5, _⟩ := hH.old _ _ h2
      exact ⟨j, f', hH.keepTop h1, h4, by rw [h5]; exact h3⟩
    · simp at hs
      subst hs
      obtain ⟨f, h1, h2⟩ := hjn
      exact ⟨jn, f, hH.own T.kid hp (.inr rfl) (fun h => absurd rfl h) (fun _ => hre), h1, h2⟩

/-- Nothing hangs there. -/
theorem put_none (T : TrieOk F top rs) (hr : RulePre r) (hp : Path F top r p) (hg : getP F top p = none) : TrieOk (setP F (some F.length) p ++ [fork0 r]) (setT top (some F.length) p) (rs ++ [r]) := by
  have hN : (setP F (some F.length) p ++ [fork0 r])[F.length]? = some (fork0 r) := by
    have := new_at (F := F) (p := p) (k := some F.length) (new := [fork0 r]) (i := 0)
    simpa using this
  have hH := hung_of hp [fork0 r] F.length (fun x j h => by rw [hg] at h; cases h)
  refine trie_of T hr hp [fork0 r] F.length F.length hH ⟨_, hN, Nat.le_refl _, rfl, fun o h => by rw [hg] at h; cases h⟩ (fun i f h => ?_) (fun i f e hf g h => ?_) (fun i f b k h hb hk => ?_) (fun i f h s hs => ?_) (.here hN rfl) ⟨_, hN, rfl⟩
  · rcases i with _ | i
    · simp at h; subst h; exact ⟨hr.a, hr.len, hr.host⟩
    · simp at h
  · rw [hN] at h
    injection h with h
    subst h
    rcases hp.ahead with e1 | ⟨i2, f2, e1, hf2, ha2, hl2⟩
    · rw [e1] at e; cases e
    · rw [e1] at e
      injection e with e2 e3
      subst e2
      rw [hf] at hf2
      injection hf2 with hf2
      subst hf2
      exact hl2
  · rcases i with _ | i
    · simp at h; subst h; exact absurd hk kid_fork
    · simp at h
  · rcases i with _ | i
    · simp at h; subst h
      injection hs with hs
      exact ⟨hs.symm, rfl, rfl⟩
    · simp at h
/-- What hangs there is all in the rule's prefix. -/
theorem put_above (T : TrieOk F top rs) (hr : RulePre r) (hp : Path F top r p) {o : Nat} {fo : ForkT} (hg : getP F top p = some o) (hfo : F[o]? = some fo) (hlt : r.len < fo.n) (hag : agree r.a fo.a r.len) :
    TrieOk (setP F (some F.length) p ++ [(fork0 r).setKid (bitN fo.a r.len) (some o)]) (setT top (some F.length) p) (rs ++ [r]) := by
  obtain ⟨f, hfe⟩ : ∃ f, f = (fork0 r).setKid (bitN fo.a r.len) (some o) := ⟨_, rfl⟩
  have hfa : f.a = r.a := by rw [hfe]; exact (setKid_a _ _ _).1
  have hfn : f.n = r.len := by rw [hfe]; exact (setKid_a _ _ _).2.1
  have hfr : f.rule = some r := by rw [hfe]; exact (setKid_a _ _ _).2.2
  have hkid : ∀ b k, b = 0 ∨ b = 1 → f.kid b = some k → b = bitN fo.a r.len ∧ k = o := fun b k hb hk => by
    by_cases e : b = bitN fo.a r.len
    · rw [hfe, e, setKid_same] at hk
      injection hk with hk
      exact ⟨e, hk.symm⟩
    · rw [hfe, setKid_other _ _ (bitN_two _ _) hb e] at hk
      exact absurd hk kid_fork
  have hks : f.kid (bitN fo.a r.len) = some o := by rw [hfe]; exact setKid_same _ _ _
  rw [← hfe]
  have hN : (setP F (some F.length) p ++ [f])[F.length]? = some f := by
    have := new_at (F := F) (p := p) (k := some F.length) (new := [f]) (i := 0)
    simpa using this
  have hspo := T.span o fo hfo
  obtain ⟨fo', hfo', hoa, hon, _⟩ := setP_get (k := some F.length) hfo hp.two
  have hfo2 : (setP F (some F.length) p ++ [f])[o]? = some fo' := by
    rw [List.getElem?_append_left (by rw [setP_len]; exact (List.getElem?_eq_some_iff.1 hfo).1)]; exact hfo'
  have hH := hung_of hp [f] F.length (fun x j h => by
    rw [hg] at h
    obtain ⟨i2, f2, e2, hf2, ha2⟩ := h.some_
    injection e2 with e2
    subst e2
    rw [hfo2] at hf2
    injection hf2 with hf2
    subst hf2
    rw [hoa, hon] at ha2
    refine .step hN (by rw [hfa, hfn]; exact hag.trans (agree_le ha2 (by omega) hspo.2.1)) ?_
    rw [hfn, ← agree_bit ha2 hlt hspo.2.1, hks]
    exact h)
  refine trie_of T hr hp [f] F.length F.length hH ⟨_, hN, by rw [hfn]; exact Nat.le_refl _, by rw [hfa]; rfl, fun o2 h fo2 h2 => ?_⟩ (fun i g h => ?_) (fun i g e hf g2 h => ?_) (fun i g b k h hb hk => ?_) (fun i g h s hs => ?_) (.here hN (by rw [hfa]; rfl)) ⟨_, hN, hfr⟩
  · rw [hg] at h
    injection h with h
    subst h
    rw [hfo] at h2
    injection h2 with h2
    subst h2
    rw [hfn, hfa]; exact ⟨hlt, hag⟩
  · rcases i with _ | i
    · simp at h; subst h; rw [hfa, hfn]; exact ⟨hr.a, hr.len, hr.host⟩
    · simp at h
  · rw [hN] at h
    injection h with h
    subst h
    rw [hfn]
    rcases hp.ahead with e1 | ⟨i2, f2, e1, hf2, ha2, hl2⟩
    · rw [e1] at e; cases e
    · rw [e1] at e
      injection e with e2 e3
      subst e2
      rw [hf] at hf2
      injection hf2 with hf2
      subst hf2
      exact hl2
  · rcases i with _ | i
    · simp at h; subst h
      obtain ⟨e1, e2⟩ := hkid b k hb hk
      subst e2
      exact ⟨fo', hfo2, by rw [hfn, hon]; exact hlt, by rw [hfa, hfn, hoa]; exact hag, by rw [hfn, hoa, e1]⟩
    · simp at h
  · rcases i with _ | i
    · simp at h; subst h
      rw [hfr] at hs
      injection hs with hs
      exact ⟨hs.symm, hfa.symm, hfn.symm⟩
    · simp at h
/-- Neither holds all of the other: a fork of what both have alike joins them. -/
theorem put_join (T : TrieOk F top rs) (hr : RulePre r) (hp : Path F top r p) {o m : Nat} {fo : ForkT} (hg : getP F top p = some o) (hfo : F[o]? = some fo) (hm1 : m < fo.n) (hm2 : m < r.len) (hag : agree r.a fo.a m) (hne : bitN r.a m ≠ bitN fo.a m) :
    TrieOk (setP F (some (F.length + 1)) p ++ [fork0 r, ((join0 (lowN r.a m) m).setKid (bitN r.a m) (some F.length)).setKid (bitN fo.a m) (some o)]) (setT top (some (F.length + 1)) p) (rs ++ [r]) := by
  obtain ⟨f, hfe⟩ : ∃ f, f = ((join0 (lowN r.a m) m).setKid (bitN r.a m) (some F.length)).setKid (bitN fo.a m) (some o) := ⟨_, rfl⟩
  have hrl := hr.len
  have hfa : f.a = lowN r.a m := by rw [hfe, (setKid_a _ _ _).1, (setKid_a _ _ _).1]; rfl
  have hfn : f.n = m := by rw [hfe, (setKid_a _ _ _).2.1, (setKid_a _ _ _).2.1]; rfl
  have hfr : f.rule = none := by rw [hfe, (setKid_a _ _ _).2.2, (setKid_a _ _ _).2.2]; rfl
  have hko : f.kid (bitN fo.a m) = some o := by rw [hfe]; exact setKid_same _ _ _
  have hkn : f.kid (bitN r.a m) = some F.length := by rw [hfe, setKid_other _ _ (bitN_two _ _) (bitN_two _ _) hne]; exact setKid_same _ _ _
  have hkid : ∀ b k, b = 0 ∨ b = 1 → f.kid b = some k → (b = bitN fo.a m ∧ k = o) ∨ (b = bitN r.a m ∧ k = F.length) := fun b k hb hk => by
    by_cases e : b = bitN fo.a m
    · rw [e, hko] at hk
      injection hk with hk
      exact .inl ⟨e, hk.symm⟩
    · have e2 : b = bitN r.a m := by
        rcases bitN_two r.a m with h1 | h1 <;> rcases bitN_two fo.a m with h2 | h2 <;> rcases hb with h3 | h3 <;> omega
      rw [e2, hkn] at hk
      injection hk with hk
      exact .inr ⟨e2, hk.symm⟩
  rw [← hfe]
  have hN : (setP F (some (F.length + 1)) p ++ [fork0 r, f])[F.length]? = some (fork0 r) := by
    have := new_at (F := F) (p := p) (k := some (F.length + 1)) (new := [fork0 r, f]) (i := 0)
    simpa using this
  have hJ : (setP F (some (F.length + 1)) p ++ [fork0 r, f])[F.length + 1]? = some f := by
    have := new_at (F := F) (p := p) (k := some (F.length + 1)) (new := [fork0 r, f]) (i := 1)
    simpa using this
  have hspo := T.span o fo hfo
  have hl : agree f.a r.a f.n := by rw [hfa, hfn]; exact agree_low
  have hlo : agree f.a fo.a f.n := hl.trans (by rw [hfn]; exact hag)
  have hlz : f.a < 4294967296 ∧ f.n ≤ 32 ∧ f.a % wid f.n = 0 := by
    rw [hfa, hfn]
    refine ⟨?_, by omega, ?_⟩
    · have h1 : lowN r.a m ≤ r.a := Nat.div_mul_le_self _ _
      have := hr.a
      omega
    · unfold lowN; exact Nat.mul_mod_left _ _
  obtain ⟨fo', hfo', hoa, hon, _⟩ := setP_get (k := some (F.length + 1)) hfo hp.two
  have hfo2 : (setP F (some (F.length + 1)) p ++ [fork0 r, f])[o]? = some fo' := by
    rw [List.getElem?_append_left (by rw [setP_len]; exact (List.getElem?_eq_some_iff.1 hfo).1)]; exact hfo'
  have hH := hung_of hp [fork0 r, f] (F.length + 1) (fun x j h => by
    rw [hg] at h
    obtain ⟨i2, f2, e2, hf2, ha2⟩ := h.some_
    injection e2 with e2
    subst e2
    rw [hfo2] at hf2
    injection hf2 with hf2
    subst hf2
    rw [hoa, hon] at ha2
    refine .step hJ (hlo.trans (by rw [hfn]; exact agree_le ha2 (by omega) hspo.2.1)) ?_
    rw [hfn, ← agree_bit ha2 hm1 hspo.2.1, hko]
    exact h)
  refine trie_of T hr hp [fork0 r, f] (F.length + 1) F.length hH ⟨_, hJ, by rw [hfn]; omega, hl, fun o2 h fo2 h2 => ?_⟩ (fun i g h => ?_) (fun i g e hf g2 h => ?_) (fun i g b k h hb hk => ?_) (fun i g h s hs => ?_) (.step hJ hl (by rw [hfn, hkn]; exact .here hN rfl)) ⟨_, hN, rfl⟩
  · rw [hg] at h
    injection h with h
    subst h
    rw [hfo] at h2
    injection h2 with h2
    subst h2
    exact ⟨by rw [hfn]; exact hm1, hlo⟩
  · rcases i with _ | _ | i
    · simp at h; subst h; exact ⟨hr.a, hr.len, hr.host⟩
    · simp at h; subst h; exact hlz
    · simp at h
  · rw [hJ] at h
    injection h with h
    subst h
    rw [hfn]
    have hKid := T.kid
    rcases hp.ahead with e1 | ⟨i2, f2, e1, hf2, ha2, hl2⟩
    · rw [e1] at e; cases e
    · rw [e1] at e
      injection e with e2 e3
      subst e2
      rw [hf] at hf2
      injection hf2 with hf2
      subst hf2
      -- the fork ahead holds both, and they go on by one bit
      rw [e1, getP_kid hf] at hg
      obtain ⟨g3, hg3, h31, h32, h33⟩ := hKid _ _ _ _ hf (bitN_two _ _) hg
      rw [hfo] at hg3
      injection hg3 with hg3
      subst hg3
      rcases Nat.lt_trichotomy g.n m with h4 | h4 | h4
      · exact h4
      · rw [← h4] at hne
        exact absurd h33.symm hne
      · have h5 := agree_succ (x := r.a) (y := fo.a) (m := g.n) (ha2.symm.trans h32) h33.symm (by omega)
        have h6 := agree_bit h5 (show m < g.n + 1 by omega) (by omega)
        exact absurd h6 hne
  · rcases i with _ | _ | i
    · simp at h; subst h; exact absurd hk kid_fork
    · simp at h; subst h
      rcases hkid b k hb hk with ⟨e1, e2⟩ | ⟨e1, e2⟩
      · subst e2
        exact ⟨fo', hfo2, by rw [hfn, hon]; exact hm1, by rw [hoa]; exact hlo, by rw [hfn, hoa, e1]⟩
      · subst e2
        exact ⟨fork0 r, hN, by rw [hfn]; exact hm2, hl, by rw [hfn, e1]; rfl⟩
    · simp at h
  · rcases i with _ | _ | i
    · simp at h; subst h
      injection hs with hs
      exact ⟨hs.symm, rfl, rfl⟩
    · simp at h; subst h
      rw [hfr] at hs; cases hs
    · simp at h
/-- There is such a fork, without a rule. -/
theorem put_here (T : TrieOk F top rs) (hp : Path F top r p) {i : Nat} {f : ForkT} (hg : getP F top p = some i) (hf : F[i]? = some f) (ha : f.a = r.a) (hn : f.n = r.len) (hrn : f.rule = none) :
    TrieOk (F.set i { f with rule := some r }) top (rs ++ [r]) := by
  have hi : i < F.length := (List.getElem?_eq_some_iff.1 hf).1
  have hat : ∀ (j : Nat) (g : ForkT), F[j]? = some g → ∃ g' : ForkT, (F.set i { f with rule := some r })[j]? = some g' ∧ g'.a = g.a ∧ g'.n = g.n ∧ g'.k0 = g.k0 ∧ g'.k1 = g.k1 ∧ (∀ s, g.rule = some s → g'.rule = some s) := fun j g hj => by
    by_cases e : i = j
    · subst e
      rw [hf] at hj
      injection hj with hj
      subst hj
      exact ⟨_, List.getElem?_set_self hi, rfl, rfl, rfl, rfl, fun s hs => by rw [hrn] at hs; cases hs⟩
    · exact ⟨g, by rw [List.getElem?_set_ne e]; exact hj, rfl, rfl, rfl, rfl, fun s hs => hs⟩
  have hto : ∀ (j : Nat) (g' : ForkT), (F.set i { f with rule := some r })[j]? = some g' → ∃ g : ForkT, F[j]? = some g ∧ g'.a = g.a ∧ g'.n = g.n ∧ g'.k0 = g.k0 ∧ g'.k1 = g.k1 ∧ (∀ s, g'.rule = some s → g.rule = some s ∨ (s = r ∧ r.a = g.a ∧ r.len = g.n)) := fun j g' hj => by
    by_cases e : i = j
    · subst e
      rw [List.getElem?_set_self hi] at hj
      injection hj with hj
      subst hj
      exact ⟨f, hf, rfl, rfl, rfl, rfl, fun s hs => .inr ⟨by injection hs with hs; exact hs.symm, ha.symm, hn.symm⟩⟩
    · rw [List.getElem?_set_ne e] at hj
      exact ⟨g', hj, rfl, rfl, rfl, rfl, fun s hs => .inl hs⟩
  have hkd : ∀ {g g' : ForkT} (b : Nat), g'.k0 = g.k0 → g'.k1 = g.k1 → g'.kid b = g.kid b := fun b h0 h1 => by unfold ForkT.kid; rw [h0, h1]
  have hkeep : ∀ {x : Nat} {q : Option Nat} {j : Nat}, Reach F x q j → Reach (F.set i { f with rule := some r }) x q j := fun h => by
    induction h with
    | here h1 h2 =>
      obtain ⟨g', h3, h4, h5, _⟩ := hat _ _ h1
      exact .here h3 (by rw [h4, h5]; exact h2)
    | step h1 h2 _ ih =>
      obtain ⟨g', h3, h4, h5, h6, h7, _⟩ := hat _ _ h1
      refine .step h3 (by rw [h4, h5]; exact h2) ?_
      rw [h5, hkd _ h6 h7]; exact ih
  refine ⟨fun j g' h => ?_, fun j g' b k h hb hk => ?_, fun k h => ?_, fun j g' h s hs => ?_, fun s hs => ?_⟩
  · obtain ⟨g, h1, h2, h3, _⟩ := hto j g' h
    rw [h2, h3]; exact T.span j g h1
  · obtain ⟨g, h1, h2, h3, h4, h5, _⟩ := hto j g' h
    rw [hkd b h4 h5] at hk
    obtain ⟨g2, h6, h7, h8, h9⟩ := T.kid j g b k h1 hb hk
    obtain ⟨g3, h10, h11, h12, _⟩ := hat k g2 h6
    exact ⟨g3, h10, by rw [h3, h12]; exact h7, by rw [h2, h3, h11]; exact h8, by rw [h3, h11]; exact h9⟩
  · rw [List.length_set]; exact T.topOk k h
  · obtain ⟨g, h1, h2, h3, _, _, h4⟩ := hto j g' h
    rcases h4 s hs with h5 | ⟨h5, h6, h7⟩
    · obtain ⟨h6, h7, h8⟩ := T.rule j g h1 s h5
      exact ⟨List.mem_append_left _ h6, by rw [h2]; exact h7, by rw [h3]; exact h8⟩
    · subst h5
      exact ⟨by simp, by rw [h2]; exact h6, by rw [h3]; exact h7⟩
  · rcases List.mem_append.1 hs with hs | hs
    · obtain ⟨j, g, h1, h2, h3⟩ := T.reach s hs
      obtain ⟨g', h4, _, _, _, _, h5⟩ := hat j g h2
      exact ⟨j, g', hkeep h1, h4, h5 s h3⟩
    · simp at hs
      subst hs
      refine ⟨i, { f with rule := some s }, hkeep ?_, List.getElem?_set_self hi, rfl⟩
      have hup : ∀ {q : Place}, Path F top s q → ∀ t, Reach F s.a (getP F top q) t → Reach F s.a top t := fun h => by
        induction h with
        | top => exact fun _ h => h
        | kid hq hgq hfq haq hlq ih =>
          intro t ht
          refine ih t ?_
          rw [hgq]
          rw [getP_kid hfq] at ht
          exact .step hfq haq ht
      refine hup hp i ?_
      rw [hg]
      exact .here hf (by rw [ha]; rfl)
end

/-! ### what is found -/
def findA (F : List ForkT) (a : Nat) : Nat → Option Nat → Option RuleT → Option RuleT
  | 0, _, best => best
  | _ + 1, none, best => best
  | k + 1, some i, best => match F[i]? with
    | none => best
    | some f => if holdsB f.a f.n a then findA F a k (f.kid (bitN a f.n)) (f.rule.or best) else best
/-- The rule b is the longest of those that hold an address; none, if none does. -/
def IsBest (rs : List RuleT) (a : Nat) (o : Option RuleT) : Prop := match o with
  | none => ∀ r ∈ rs, holdsB r.a r.len a = false
  | some b => b ∈ rs ∧ holdsB b.a b.len a = true ∧ ∀ r ∈ rs, holdsB r.a r.len a = true → r.len ≤ b.len
theorem findA_best {F : List ForkT} {top : Option Nat} {rs : List RuleT} (T : TrieOk F top rs) (a : Nat) : ∀ k lo q best, 34 ≤ k + lo → (∀ i f, q = some i → F[i]? = some f → lo ≤ f.n) →
    (∀ b, best = some b → b ∈ rs ∧ holdsB b.a b.len a = true ∧ b.len < lo) →
    (∀ r ∈ rs, holdsB r.a r.len a = true → (∃ b, best = some b ∧ r.len ≤ b.len) ∨ ∃ j f, Reach F a q j ∧ F[j]? = some f ∧ f.rule = some r) →
    IsBest rs a (findA F a k q best) := by
  have hfin : ∀ best : Option RuleT, (∀ b, best = some b → b ∈ rs ∧ holdsB b.a b.len a = true) → (∀ r ∈ rs, holdsB r.a r.len a = true → ∃ b, best = some b ∧ r.len ≤ b.len) → IsBest rs a best := fun best h1 h2 => by
    cases best with
    | none =>
      intro r hr
      cases hh : holdsB r.a r.len a with
      | false => rfl
      | true => obtain ⟨b, e, _⟩ := h2 r hr hh; cases e
    | some b => exact ⟨(h1 b rfl).1, (h1 b rfl).2, fun r hr hh => by obtain ⟨b', e, hl⟩ := h2 r hr hh; injection e with e; rw [e]; exact hl⟩
  intro k
  induction k with
  | zero =>
    intro lo q best hk hlo hb hr
    unfold findA
    refine hfin best (fun b e => ⟨(hb b e).1, (hb b e).2.1⟩) (fun r h1 h2 => ?_)
    rcases hr r h1 h2 with h | ⟨j, f, h3, h4, h5⟩
    · exact h
    · obtain ⟨i, f', e, hf', _⟩ := h3.some_
      have h6 := hlo i f' e hf'
      have h7 := (T.span i f' hf').2.1
      omega
  | succ k ih =>
    intro lo q best hk hlo hb hr
    cases q with
    | none =>
      unfold findA
      refine hfin best (fun b e => ⟨(hb b e).1, (hb b e).2.1⟩) (fun r h1 h2 => ?_)
      rcases hr r h1 h2 with h | ⟨j, f, h3, _⟩
      · exact h
      · cases h3
    | some i =>
      unfold findA
      cases hf : F[i]? with
      | none =>
        refine hfin best (fun b e => ⟨(hb b e).1, (hb b e).2.1⟩) (fun r h1 h2 => ?_)
        rcases hr r h1 h2 with h | ⟨j, f, h3, _⟩
        · exact h
        · obtain ⟨i', f', e, hf', _⟩ := h3.some_
          injection e with e
          subst e
          rw [hf] at hf'; cases hf'
      | some f =>
        simp only
        cases hh : holdsB f.a f.n a with
        | false =>
          refine hfin best (fun b e => ⟨(hb b e).1, (hb b e).2.1⟩) (fun r h1 h2 => ?_)
          rcases hr r h1 h2 with h | ⟨j, f', h3, _⟩
          · exact h
          · obtain ⟨i', f'', e, hf', ha'⟩ := h3.some_
            injection e with e
            subst e
            rw [hf] at hf'
            injection hf' with hf'
            subst hf'
            rw [holds_agree.2 ha'] at hh; cases hh
        | true =>
          simp only [if_true]
          have hlof := hlo i f rfl hf
          have hnew : ∀ b, f.rule.or best = some b → (f.rule = some b) ∨ (f.rule = none ∧ best = some b) := fun b e => by
            cases hfr : f.rule with
            | none => rw [hfr] at e; exact .inr ⟨rfl, e⟩
            | some s => rw [hfr] at e; exact .inl e
          refine ih (f.n + 1) _ _ (by omega) (fun i' f' e hf' => ?_) (fun b e => ?_) (fun r h1 h2 => ?_)
          · obtain ⟨g, hg, hlt, _⟩ := T.kid i f _ i' hf (bitN_two _ _) e
            rw [hf'] at hg
            injection hg with hg
            rw [hg]; omega
          · rcases hnew b e with h | ⟨_, h⟩
            · obtain ⟨h3, h4, h5⟩ := T.rule i f hf b h
              exact ⟨h3, by rw [h4, h5]; exact hh, by omega⟩
            · obtain ⟨h3, h4, h5⟩ := hb b h
              exact ⟨h3, h4, by omega⟩
          · rcases hr r h1 h2 with ⟨b, e, hl⟩ | ⟨j, g, h3, h4, h5⟩
            · cases hfr : f.rule with
              | none => exact .inl ⟨b, by rw [e]; rfl, hl⟩
              | some s =>
                have h6 := (hb b e).2.2
                have h7 := (T.rule i f hf s hfr).2.2
                exact .inl ⟨s, rfl, by omega⟩
            · cases h3 with
              | here h6 h7 =>
                rw [h4] at hf
                injection hf with hf
                subst hf
                exact .inl ⟨r, by rw [h5]; rfl, Nat.le_refl _⟩
              | step h6 h7 h8 =>
                rw [hf] at h6
                injection h6 with h6
                subst h6
                exact .inr ⟨j, g, h8, h4, h5⟩
theorem find_best (rs : List RuleT) (a : Nat) : IsBest rs a (findL rs a) := by
  have key : ∀ (l : List RuleT) (done : List RuleT) (best : Option RuleT), IsBest done a best → IsBest (done ++ l) a (l.foldl (pickR a) best) := by
    intro l
    induction l with
    | nil => intro done best h; simpa using h
    | cons r l ih =>
      intro done best h
      rw [List.foldl_cons, show done ++ r :: l = (done ++ [r]) ++ l by simp]
      refine ih (done ++ [r]) _ ?_
      unfold pickR
      cases hh : holdsB r.a r.len a with
      | false =>
        simp only [Bool.false_eq_true, if_false]
        cases best with
        | none =>
          intro s hs
          rcases List.mem_append.1 hs with hs | hs
          · exact h s hs
          · simp at hs; subst hs; exact hh
        | some b =>
          refine ⟨List.mem_append_left _ h.1, h.2.1, fun s hs h2 => ?_⟩
          rcases List.mem_append.1 hs with hs | hs
          · exact h.2.2 s hs h2
          · simp at hs; subst hs; rw [hh] at h2; cases h2
      | true =>
        simp only [if_true]
        cases best with
        | none =>
          refine ⟨by simp, hh, fun s hs h2 => ?_⟩
          rcases List.mem_append.1 hs with hs | hs
          · rw [h s hs] at h2; cases h2
          · simp at hs; subst hs; exact Nat.le_refl _
        | some b =>
          simp only
          by_cases hl : r.len ≤ b.len
          · rw [if_pos hl]
            refine ⟨List.mem_append_left _ h.1, h.2.1, fun s hs h2 => ?_⟩
            rcases List.mem_append.1 hs with hs | hs
            · exact h.2.2 s hs h2
            · simp at hs; subst hs; exact hl
          · rw [if_neg hl]
            refine ⟨by simp, hh, fun s hs h2 => ?_⟩
            rcases List.mem_append.1 hs with hs | hs
            · have := h.2.2 s hs h2
              omega
            · simp at hs; subst hs; exact Nat.le_refl _
  have := key rs [] none (fun r hr => by simp at hr)
  simpa [findL] using this
/-- Each prefix once. -/
def Once (rs : List RuleT) : Prop := ∀ r ∈ rs, ∀ s ∈ rs, r.a = s.a → r.len = s.len → r = s
theorem best_one {rs : List RuleT} (hr : ∀ r ∈ rs, RulePre r) (ho : Once rs) {a : Nat} {o o' : Option RuleT} (h : IsBest rs a o) (h' : IsBest rs a o') : o = o' := by
  cases o with
  | none =>
    cases o' with
    | none => rfl
    | some b' =>
      have := h b' h'.1
      rw [h'.2.1] at this; cases this
  | some b =>
    cases o' with
    | none =>
      have := h' b h.1
      rw [h.2.1] at this; cases this
    | some b' =>
      have h1 := h.2.2 b' h'.1 h'.2.1
      have h2 := h'.2.2 b h.1 h.2.1
      have hl : b.len = b'.len := by omega
      have ha := holds_agree.1 h.2.1
      have ha' := holds_agree.1 h'.2.1
      rw [← hl] at ha'
      have := agree_one (ha.trans ha'.symm) (hr b h.1).host (by rw [hl]; exact (hr b' h'.1).host)
      rw [ho b h.1 b' h'.1 this hl]
/-- The trie finds what the scan finds. -/
theorem trie_find {F : List ForkT} {top : Option Nat} {rs : List RuleT} (T : TrieOk F top rs) (hr : ∀ r ∈ rs, RulePre r) (ho : Once rs) (a : Nat) : findA F a 34 top none = findL rs a := by
  refine best_one hr ho (findA_best T a 34 0 top none (by omega) (fun _ _ _ _ => Nat.zero_le _) (fun b e => by cases e) (fun r h1 h2 => .inr ?_)) (find_best rs a)
  obtain ⟨j, f, h3, h4, h5⟩ := T.reach r h1
  obtain ⟨_, h6, h7⟩ := T.rule j f h4 r h5
  exact ⟨j, f, h3.move T.kid f h4 (T.span j f h4).2.1 (by rw [← h7]; exact holds_agree.1 h2), h4, h5⟩
end Go.Proofs.YtpjoefekhgmlhaaGreat.Tp
