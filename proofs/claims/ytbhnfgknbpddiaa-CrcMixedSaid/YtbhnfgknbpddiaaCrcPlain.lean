/- PLAIN LAWS of the sum of bytes: one step halves eight times; steps are linear under xor; the table's step is the step; sums as folds. No program in sight. No conditions but bounds of the numbers. -/
namespace Go.Proofs.Ytbhnfgknbpddiaa.Crc

/-- One of the eight turns of a step. -/
def half (s : Nat) : Nat := (s >>> 1) ^^^ (if s % 2 = 1 then 2197175160 else 0)
def halves : Nat → Nat → Nat
  | 0, s => s
  | n + 1, s => halves n (half s)
/-- P3.1 -/
def cstep (s c : Nat) : Nat := halves 8 (s ^^^ c)
/-- P3.2, without the turns of all bits. -/
def cfold (s : Nat) (l : List Nat) : Nat := l.foldl cstep s
def cnot (s : Nat) : Nat := 4294967295 - s
def cmore (s : Nat) (l : List Nat) : Nat := cnot (cfold (cnot s) l)

theorem xor_two (a b : Nat) : (a ^^^ b) % 2 = (a % 2 + b % 2) % 2 := by
  have h := Nat.testBit_xor a b 0
  rw [Nat.testBit_zero, Nat.testBit_zero, Nat.testBit_zero] at h
  have ha := Nat.mod_two_eq_zero_or_one a
  have hb := Nat.mod_two_eq_zero_or_one b
  have hc := Nat.mod_two_eq_zero_or_one (a ^^^ b)
  rcases ha with ha | ha <;> rcases hb with hb | hb <;> rcases hc with hc | hc <;> simp [ha, hb, hc] at h ⊢

theorem half_xor (a b : Nat) : half (a ^^^ b) = half a ^^^ half b := by
  unfold half
  rw [Nat.shiftRight_xor_distrib, xor_two]
  have ha := Nat.mod_two_eq_zero_or_one a
  have hb := Nat.mod_two_eq_zero_or_one b
  rcases ha with ha | ha <;> rcases hb with hb | hb <;> simp [ha, hb]
  · rw [Nat.xor_assoc]
  · rw [Nat.xor_assoc, Nat.xor_assoc, Nat.xor_comm (b >>> 1)]
  · rw [Nat.xor_assoc, ← Nat.xor_assoc 2197175160 (b >>> 1), Nat.xor_comm 2197175160 (b >>> 1), Nat.xor_assoc (b >>> 1), Nat.xor_self, Nat.xor_zero]

theorem halves_xor (n : Nat) : ∀ a b : Nat, halves n (a ^^^ b) = halves n a ^^^ halves n b := by
  induction n with
  | zero => intro a b; rfl
  | succ n ih => intro a b; simp only [halves, half_xor, ih]

theorem half_lt (s : Nat) (h : s < 4294967296) : half s < 4294967296 := by
  unfold half
  refine Nat.xor_lt_two_pow (n := 32) ?_ ?_
  · rw [Nat.shiftRight_eq_div_pow]; omega
  · split <;> decide
theorem halves_lt (n : Nat) : ∀ s : Nat, s < 4294967296 → halves n s < 4294967296 := by
  induction n with
  | zero => intro s h; exact h
  | succ n ih => intro s h; exact ih _ (half_lt s h)
theorem xor_lt {a b : Nat} (ha : a < 4294967296) (hb : b < 4294967296) : a ^^^ b < 4294967296 := Nat.xor_lt_two_pow (n := 32) ha hb
theorem cstep_lt {s c : Nat} (hs : s < 4294967296) (hc : c < 256) : cstep s c < 4294967296 := halves_lt 8 _ (xor_lt hs (by omega))
theorem cfold_lt : ∀ (l : List Nat) (s : Nat), s < 4294967296 → (∀ c ∈ l, c < 256) → cfold s l < 4294967296
  | [], s, hs, _ => hs
  | c :: l, s, hs, hl => cfold_lt l (cstep s c) (cstep_lt hs (hl c (by simp))) (fun x hx => hl x (by simp [hx]))
theorem cnot_lt (s : Nat) : cnot s < 4294967296 := by unfold cnot; omega
theorem cnot_cnot {s : Nat} (h : s < 4294967296) : cnot (cnot s) = s := by unfold cnot; omega
theorem cmore_lt (s : Nat) (l : List Nat) : cmore s l < 4294967296 := cnot_lt _

/-- Eight zeros at the low end go out and leave nothing behind. -/
theorem half_even (s : Nat) : half (2 * s) = s := by
  unfold half
  rw [if_neg (by omega), Nat.xor_zero, Nat.shiftRight_eq_div_pow]; omega
theorem halves_low (q : Nat) : halves 8 (256 * q) = q := by
  have e : ∀ k, 2 * k = 2 * k := fun _ => rfl
  simp only [halves]
  rw [show 256 * q = 2 * (2 * (2 * (2 * (2 * (2 * (2 * (2 * q))))))) by omega]
  simp only [half_even]
theorem split_byte (s : Nat) : s = (256 * (s / 256)) ^^^ (s % 256) := by
  apply Nat.eq_of_testBit_eq
  intro i
  rw [Nat.testBit_xor]
  have h1 : 256 * (s / 256) = (s >>> 8) <<< 8 := by rw [Nat.shiftRight_eq_div_pow, Nat.shiftLeft_eq]; omega
  have h2 : s % 256 = s % 2 ^ 8 := rfl
  rw [h1, h2, Nat.testBit_shiftLeft, Nat.testBit_mod_two_pow, Nat.testBit_shiftRight]
  by_cases h : i < 8
  · simp [h, Nat.not_le.2 h]
  · have h' : 8 ≤ i := by omega
    simp [h, h', show 8 + (i - 8) = i by omega]
/-- THE TABLE's STEP: of the lowest byte's own step, and the other bits shifted down. -/
theorem cstep_table (s c : Nat) : cstep s c = (s / 256) ^^^ cstep 0 ((s % 256) ^^^ c) := by
  unfold cstep
  rw [Nat.zero_xor]
  conv => lhs; rw [split_byte s, Nat.xor_assoc, halves_xor, halves_low]
theorem cstep_xor (s t c d : Nat) : cstep s c ^^^ cstep t d = cstep (s ^^^ t) (c ^^^ d) := by
  unfold cstep
  rw [← halves_xor]
  congr 1
  rw [Nat.xor_assoc, Nat.xor_assoc, ← Nat.xor_assoc c t d, Nat.xor_comm c t, Nat.xor_assoc t c d]
theorem cstep_self (s : Nat) : cstep s (s % 256) = s / 256 := by
  rw [cstep_table, Nat.xor_self]
  rw [show cstep 0 0 = 0 by decide, Nat.xor_zero]
theorem cfold_append (s : Nat) (a b : List Nat) : cfold s (a ++ b) = cfold (cfold s a) b := List.foldl_append
theorem cfold_snoc (s : Nat) (a : List Nat) (c : Nat) : cfold s (a ++ [c]) = cstep (cfold s a) c := by rw [cfold_append]; rfl
theorem cmore_parts (a b : List Nat) (ha : ∀ c ∈ a, c < 256) : cmore (cmore 0 a) b = cmore 0 (a ++ b) := by
  unfold cmore
  rw [cnot_cnot (cfold_lt a _ (cnot_lt _) ha), cfold_append]
theorem cmore_nil {s : Nat} (h : s < 4294967296) : cmore s [] = s := cnot_cnot h
theorem cfold_xor : ∀ (a b : List Nat) (s t : Nat), a.length = b.length → cfold s a ^^^ cfold t b = cfold (s ^^^ t) (List.zipWith (· ^^^ ·) a b)
  | [], [], _, _, _ => rfl
  | c :: a, d :: b, s, t, h => by
    show cfold (cstep s c) a ^^^ cfold (cstep t d) b = cfold (cstep (s ^^^ t) (c ^^^ d)) _
    rw [cfold_xor a b _ _ (by simpa using h), cstep_xor]
theorem cnot_eq {x : Nat} (hx : x < 4294967296) : cnot x = 4294967295 ^^^ x := by
  unfold cnot
  apply Nat.eq_of_testBit_eq
  intro i
  rw [show 4294967295 - x = 2 ^ 32 - (x + 1) by omega, Nat.testBit_two_pow_sub_succ (by omega), Nat.testBit_xor, show (4294967295 : Nat) = 2 ^ 32 - 1 by rfl, Nat.testBit_two_pow_sub_one]
  by_cases hi : i < 32
  · simp [hi]
  · have : x.testBit i = false := Nat.testBit_lt_two_pow (Nat.lt_of_lt_of_le hx (by rw [show (4294967296 : Nat) = 2 ^ 32 by rfl]; exact Nat.pow_le_pow_right (by omega) (by omega)))
    simp [hi, this]
theorem cnot_xor {a b : Nat} (ha : a < 4294967296) (hb : b < 4294967296) : cnot a ^^^ cnot b = a ^^^ b := by
  rw [cnot_eq ha, cnot_eq hb, Nat.xor_assoc, ← Nat.xor_assoc a, Nat.xor_comm a, Nat.xor_assoc, ← Nat.xor_assoc, Nat.xor_self, Nat.zero_xor]
theorem cnot_xor' {x : Nat} (hx : x < 4294967296) : x ^^^ 4294967295 = cnot x := by rw [cnot_eq hx, Nat.xor_comm]
theorem zip_zero : ∀ (a : List Nat), List.zipWith (· ^^^ ·) a (List.replicate a.length 0) = a
  | [] => rfl
  | c :: a => by simp [List.replicate_succ, zip_zero a]
theorem cmore_mixed (a b : List Nat) (h : a.length = b.length) (ha : ∀ c ∈ a, c < 256) (hb : ∀ c ∈ b, c < 256) (hm : ∀ c ∈ List.zipWith (· ^^^ ·) a b, c < 256) :
    cmore 0 a ^^^ cmore 0 b = cmore 0 (List.zipWith (· ^^^ ·) a b) ^^^ cmore 0 (List.replicate a.length 0) := by
  have hl : (List.zipWith (· ^^^ ·) a b).length = a.length := by simp [h]
  unfold cmore
  rw [cnot_xor (cfold_lt a _ (cnot_lt _) ha) (cfold_lt b _ (cnot_lt _) hb), cfold_xor a b _ _ h,
    cnot_xor (cfold_lt _ _ (cnot_lt _) hm) (cfold_lt _ _ (cnot_lt _) (by intro c hc; rw [List.mem_replicate] at hc; omega)), cfold_xor _ _ _ _ (by simp [h]), ← hl, zip_zero]
end Go.Proofs.Ytbhnfgknbpddiaa.Crc
