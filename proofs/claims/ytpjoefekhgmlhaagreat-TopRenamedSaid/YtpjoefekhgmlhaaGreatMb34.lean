/- CONTRACT of theseustop.shown. Conditions: what analyze.Net answers of its two networks. · CONTRACT of graph.Ranks, as in GraphRanks, with the word that what it gives is new. -/
import Derived.Test.YtpjoefekhgmlhaaGreatMb33
import Derived.Test.YtpjoefekhgmlhaaGreatMb15
import Derived.Test.YtpjoefekhgmlhaaGreatMb05
namespace Go.Proofs.YtpjoefekhgmlhaaGreat.Tp
open Go.RowKit Mem

/-- What lies as numbers does not lie in a block of slices. -/
theorem lies_not {W : World} {g : Nat} {cs : Array Value} {t : TypeId} {A : Option Addr} {xs : List Value} (hg : W.heap[g]? = some (.cells cs t (0, 0))) (hcs : ∀ i (hi : i < cs.size), ∃ B n c, cs[i] = .slice B n c) (h : Lies W A xs) (hx : ∃ k z, xs[0]? = some (.int k z)) : ∀ a, A = some a → a.block ≠ g := by
  intro a ha e
  obtain ⟨k, z, h0⟩ := hx
  have hpos : 0 < xs.length := (List.getElem?_eq_some_iff.1 h0).1
  obtain ⟨b, off, e2, hb, hc⟩ := h hpos
  rw [ha] at e2
  injection e2 with e2
  subst e2
  have hc0 := hc 0 _ h0
  subst e
  rw [cell_of_row _ _ _ cs t (0, 0) hg] at hc0
  obtain ⟨hi, he⟩ := Array.getElem?_eq_some_iff.1 hc0
  obtain ⟨B, n, c, hs⟩ := hcs _ hi
  rw [hs] at he
  cases he
theorem lies_set {W : World} {p : Addr} {v : Value} {A : Option Addr} {xs : List Value} (h : Lies W A xs) (hn : ∀ a, A = some a → a.block ≠ p.block) : Lies (W.setCell p v) A xs :=
  lies_stay h (by simp) fun _ a ha => Below.heap_setCell W p v a.block (hn a ha)
set_option maxRecDepth 100000 in
set_option maxHeartbeats 8000000 in
theorem shown_any (w : World) (a1 : AnetOf netS1 ceS1) (a2 : AnetOf netS2 ceS2) :
    Calls Tryz.prog 6 #[] w fun e w' => e = .returned (.bool true) ∧ Below w.heap.size w w' := by
  obtain ⟨w1, hw1⟩ : ∃ w1, w1 = w.alloc (.cells #[.int .u32 0, .int .i64 0, .int .i64 1, .int .i64 1] 43) := ⟨_, rfl⟩
  obtain ⟨w2, hw2⟩ : ∃ w2, w2 = w1.alloc (.cells #[.int .u32 0, .int .i64 0, .int .i64 1, .int .i64 2] 43) := ⟨_, rfl⟩
  obtain ⟨w3, hw3⟩ : ∃ w3, w3 = w2.alloc (.cells #[.int .u32 0, .int .i64 0, .int .i64 2, .int .i64 0, .int .u32 2147483648, .int .i64 1, .int .i64 1, .int .i64 0] 43) := ⟨_, rfl⟩
  obtain ⟨w4, hw4⟩ : ∃ w4, w4 = w3.alloc (.cells #[.slice (some ⟨w.heap.size, 0, none⟩) 1 1, .slice (some ⟨w.heap.size + 1, 0, none⟩) 1 1, .slice (some ⟨w.heap.size + 1 + 1, 0, none⟩) 2 2] 44) := ⟨_, rfl⟩
  obtain ⟨w5, hw5⟩ : ∃ w5, w5 = w4.alloc (.cells #[.slice (some ⟨w.heap.size + 1 + 1 + 1, 0, none⟩) 3 3] 24) := ⟨_, rfl⟩
  have s1 : w1.heap.size = w.heap.size + 1 := by rw [hw1]; simp
  have s2 : w2.heap.size = w.heap.size + 1 + 1 := by rw [hw2]; simp [s1]
  have s3 : w3.heap.size = w.heap.size + 1 + 1 + 1 := by rw [hw3]; simp [s2]
  have s4 : w4.heap.size = w.heap.size + 1 + 1 + 1 + 1 := by rw [hw4]; simp [s3]
  have s5 : w5.heap.size = w.heap.size + 1 + 1 + 1 + 1 + 1 := by rw [hw5]; simp [s4]
  have b1 : Below w.heap.size w w1 := by rw [hw1]; exact bal _ _
  have b2 : Below w1.heap.size w1 w2 := by rw [hw2]; exact bal _ _
  have b3 : Below w2.heap.size w2 w3 := by rw [hw3]; exact bal _ _
  have b4 : Below w3.heap.size w3 w4 := by rw [hw4]; exact bal _ _
  have b5 : Below w4.heap.size w4 w5 := by rw [hw5]; exact bal _ _
  have b35 := b4.trans (b5.mono b4.size)
  have b25 := b3.trans (b35.mono b3.size)
  have b15 := b2.trans (b25.mono b2.size)
  have b05 := b1.trans (b15.mono b1.size)
  have l0 : Lies w5 (some ⟨w.heap.size, 0, none⟩) (rcs [⟨0, 0, 1, 1⟩]) := by
    have : Lies w1 (some ⟨w.heap.size, 0, none⟩) (rcs [⟨0, 0, 1, 1⟩]) := by rw [hw1]; exact Lies.new w #[.int .u32 0, .int .i64 0, .int .i64 1, .int .i64 1] _
    exact this.below b15
  have l1 : Lies w5 (some ⟨w.heap.size + 1, 0, none⟩) (rcs [⟨0, 0, 1, 2⟩]) := by
    have : Lies w2 (some ⟨w.heap.size + 1, 0, none⟩) (rcs [⟨0, 0, 1, 2⟩]) := by rw [hw2, ← s1]; exact Lies.new w1 #[.int .u32 0, .int .i64 0, .int .i64 1, .int .i64 2] _
    exact this.below b25
  have l2 : Lies w5 (some ⟨w.heap.size + 1 + 1, 0, none⟩) (rcs [⟨0, 0, 2, 0⟩, ⟨2147483648, 1, 1, 0⟩]) := by
    have : Lies w3 (some ⟨w.heap.size + 1 + 1, 0, none⟩) (rcs [⟨0, 0, 2, 0⟩, ⟨2147483648, 1, 1, 0⟩]) := by rw [hw3, ← s2]; exact Lies.new w2 #[.int .u32 0, .int .i64 0, .int .i64 2, .int .i64 0, .int .u32 2147483648, .int .i64 1, .int .i64 1, .int .i64 0] _
    exact this.below b35
  obtain ⟨g, hge⟩ : ∃ g, g = w.heap.size + 1 + 1 + 1 := ⟨_, rfl⟩
  have hh4 : w4.heap[g]? = some (.cells #[.slice (some ⟨w.heap.size, 0, none⟩) 1 1, .slice (some ⟨w.heap.size + 1, 0, none⟩) 1 1, .slice (some ⟨w.heap.size + 1 + 1, 0, none⟩) 2 2] 44 (0, 0)) := by rw [hw4, hge, ← s3]; exact heap_alloc_new w3 _
  have hr4 : VRow w4 g [.slice (some ⟨w.heap.size, 0, none⟩) 1 1, .slice (some ⟨w.heap.size + 1, 0, none⟩) 1 1, .slice (some ⟨w.heap.size + 1 + 1, 0, none⟩) 2 2] := by rw [hw4, hge, ← s3]; exact VRow.new w3 #[.slice (some ⟨w.heap.size, 0, none⟩) 1 1, .slice (some ⟨w.heap.size + 1, 0, none⟩) 1 1, .slice (some ⟨w.heap.size + 1 + 1, 0, none⟩) 2 2] _
  have hh5 := (b5.block g hr4.lt).trans hh4
  have hr5 := hr4.below b5 hr4.lt
  have hn5 : VRow w5 (w.heap.size + 1 + 1 + 1 + 1) [.slice (some ⟨g, 0, none⟩) 3 3] := by rw [hw5, ← s4, hge]; exact VRow.new w4 #[.slice (some ⟨w.heap.size + 1 + 1 + 1, 0, none⟩) 3 3] _
  have hN5 : NetAt w5 (some ⟨g, 0, none⟩) netS1 := by
    refine ⟨[.slice (some ⟨w.heap.size, 0, none⟩) 1 1, .slice (some ⟨w.heap.size + 1, 0, none⟩) 1 1, .slice (some ⟨w.heap.size + 1 + 1, 0, none⟩) 2 2], rfl, hr5.lies, fun i hi => ?_⟩
    match i, hi with
    | 0, _ => exact ⟨_, _, rfl, l0, Nat.le_refl 1, show (1 : Nat) ≤ 9223372036854775807 by omega⟩
    | 1, _ => exact ⟨_, _, rfl, l1, Nat.le_refl 1, show (1 : Nat) ≤ 9223372036854775807 by omega⟩
    | 2, _ => exact ⟨_, _, rfl, l2, Nat.le_refl 2, show (2 : Nat) ≤ 9223372036854775807 by omega⟩
  have hnp := nput_any (some ⟨g, 0, none⟩) 3 netS1 w5 hN5 netS1_ok (by decide)
  have hv0 := (hn5.get (i := 0) rfl).1
  rw [hw4, hw3, hw2, hw1] at hw5
  have hv0' := hv0
  rw [hw5, hge] at hv0'
  have HW5 := Lib.hid hw5
  have HNP := Lib.hid hnp
  have HH5 := Lib.hid hh5
  have HR5 := Lib.hid hr5
  have HV5 := Lib.hid hn5
  have HL0 := Lib.hid l0
  have HL1 := Lib.hid l1
  have HL2 := Lib.hid l2
  have HB5 := Lib.hid b05
  have HGE := Lib.hid hge
  have S5 := Lib.hid s5
  have A1 := Lib.hid a1
  have A2 := Lib.hid a2
  clear hw1 hw2 hw3 hw4 hw5 s1 s2 s3 s4 s5 b1 b2 b3 b4 b5 b35 b25 b15 b05 l0 l1 l2 hh4 hr4 hh5 hr5 hn5 hN5 hnp hv0 a1 a2
  go_enter Tryz.func6, Tryz.ntmps6
  go_wp2_with fail
  rw [← HW5.out]
  clear hv0'
  have hnp := HNP.out
  rw [HGE.out] at hnp
  refine hnp.mono ?_
  rintro e w6 ⟨R1, m1, rfl, hL1, hb6, hm1, hm1'⟩
  have hlen1 : (bytes (netB netS1)).length = (netB netS1).length := bytes_len _
  rw [hlen1] at hm1 ⊢
  obtain ⟨M1, hM1⟩ : ∃ M1, M1 = (netB netS1).length := ⟨_, rfl⟩
  rw [← hM1] at hm1 ⊢
  have hcs : ∀ (ce : CertT), (certIn 3 ce).length ≤ 1000000 → True := fun _ _ => trivial
  have hta := tanalyze_any R1 m1 M1 netS1 ceS1 w6 netS1_ok (by decide) A1.out (by rw [← certS1]; exact cert_ok netS1_ok (by decide) (by decide) (by decide) (by decide) ⟨by decide, rfl⟩) (by decide) hM1.symm hL1 hm1 hm1'
  have HTA := Lib.hid hta
  have HM1 := Lib.hid (And.intro hM1 (And.intro hm1 hm1'))
  have HL1b := Lib.hid hL1
  have HB6 := Lib.hid hb6
  clear hnp HNP hL1 hb6 hm1 hm1' hM1 hta hcs hlen1
  go_wp2_with fail
  refine (HTA.out).mono ?_
  rintro e w7 ⟨R2, m2, rfl, hL2, hb7, hm2, hm2'⟩
  have hlen2 : (bytes (certB netS1.length ceS1)).length = (certB 3 ceS1).length := bytes_len _
  rw [hlen2] at hm2 ⊢
  obtain ⟨M2, hM2⟩ : ∃ M2, M2 = (certB 3 ceS1).length := ⟨_, rfl⟩
  rw [← hM2] at hm2 ⊢
  have hok1 : CertOk 3 ceS1 := by rw [← certS1]; exact cert_ok netS1_ok (by decide) (by decide) (by decide) (by decide) ⟨by decide, rfl⟩
  have hct := ctake_any R2 M2 m2 3 ceS1 w7 hok1 (by omega) (by decide) hM2.symm hL2 hm2 hm2'
  have HCT := Lib.hid hct
  have HM2 := Lib.hid (And.intro hM2 (And.intro hm2 hm2'))
  have HL2b := Lib.hid hL2
  have HB7 := Lib.hid hb7
  have HOK1 := Lib.hid hok1
  clear hL2 hb7 hm2 hm2' hM2 hct hlen2 hok1 HTA
  go_wp2_with fail
  refine (HCT.out).mono ?_
  rintro e w8 ⟨v, rfl, ⟨PA, TB, dA, dB, rfl, -, -⟩, hb8⟩
  obtain ⟨w9, hw9⟩ : ∃ w9, w9 = w8.alloc (.cells #[.int .i64 (ceS1.verdict : Int), .slice PA ceS1.parts.length dA, .int .u32 (ceS1.dest : Int), .slice TB ceS1.trace.length dB] 31) := ⟨_, rfl⟩
  have b9 : Below w8.heap.size w8 w9 := by rw [hw9]; exact bal _ _
  have hk9 : VRow w9 w8.heap.size [.int .i64 2, .slice PA 0 dA, .int .u32 2147483648, .slice TB 3 dB] := by rw [hw9]; exact VRow.new w8 #[.int .i64 (ceS1.verdict : Int), .slice PA ceS1.parts.length dA, .int .u32 (ceS1.dest : Int), .slice TB ceS1.trace.length dB] _
  have b59 := ((HB6.out.trans (HB7.out.mono HB6.out.size)).trans ((hb8.trans (b9.mono hb8.size)).mono (Nat.le_trans HB6.out.size HB7.out.size)))
  have hh9 := (b59.block g HR5.out.lt).trans HH5.out
  have hr9 := HR5.out.below b59 HR5.out.lt
  have hv9 := HV5.out.below b59 HV5.out.lt
  have hL19 := ((HL1b.out.below HB7.out).below hb8).below b9
  have hL29 := (HL2b.out.below hb8).below b9
  have hn1 := lies_not hh9 (fun i hi => by
    have : i < 3 := hi
    match i, this with
    | 0, _ => exact ⟨_, _, _, rfl⟩
    | 1, _ => exact ⟨_, _, _, rfl⟩
    | 2, _ => exact ⟨_, _, _, rfl⟩) hL19 ⟨_, _, rfl⟩
  have hn2 := lies_not hh9 (fun i hi => by
    have : i < 3 := hi
    match i, this with
    | 0, _ => exact ⟨_, _, _, rfl⟩
    | 1, _ => exact ⟨_, _, _, rfl⟩
    | 2, _ => exact ⟨_, _, _, rfl⟩) hL29 ⟨_, _, rfl⟩
  have hgl : g < w5.heap.size := HR5.out.lt
  have hgw : w.heap.size ≤ g := by rw [HGE.out]; omega
  have hg8 : w8.heap.size ≠ g := by have := HB6.out.size; have := HB7.out.size; have := hb8.size; omega
  obtain ⟨q0, -⟩ := hv9.get (i := 0) rfl
  obtain ⟨q2, f2⟩ := hr9.get (i := 2) rfl
  rw [HGE.out] at q0 q2 f2
  have HW9 := Lib.hid hw9
  have HK9 := Lib.hid hk9
  have HB59 := Lib.hid b59
  have HR9 := Lib.hid hr9
  have HV9 := Lib.hid hv9
  have HL19 := Lib.hid (And.intro hL19 hn1)
  have HL29 := Lib.hid (And.intro hL29 hn2)
  have q0' := q0
  have q2' := q2
  have f2' := f2
  rw [hw9] at q0' q2' f2'
  clear hw9 b9 hk9 b59 hh9 hr9 hv9 hL19 hL29 hn1 hn2 hb8 HCT
  go_wp2_with fail
  rw [← HW9.out]
  go_region
  obtain ⟨wa, hwa⟩ : ∃ wa, wa = (w9.setCell ⟨w.heap.size + 1 + 1 + 1, 2, none⟩ (.slice (some ⟨w.heap.size + 1 + 1, 0, none⟩) 1 2)).drew := ⟨_, rfl⟩
  have hwa' : wa = (w9.setCell ⟨g, 2, none⟩ (.slice (some ⟨w.heap.size + 1 + 1, 0, none⟩) 1 2)).drew := by rw [HGE.out]; exact hwa
  have hrowa : VRow wa g [.slice (some ⟨w.heap.size, 0, none⟩) 1 1, .slice (some ⟨w.heap.size + 1, 0, none⟩) 1 1, .slice (some ⟨w.heap.size + 1 + 1, 0, none⟩) 1 2] := by rw [hwa']; exact (HR9.out.set_ 2 _).drew
  have hkeep : ∀ b, b ≠ g → wa.heap[b]? = w9.heap[b]? := fun b hb => by rw [hwa']; exact Below.heap_setCell w9 ⟨g, 2, none⟩ _ b hb
  have hsz : wa.heap.size = w9.heap.size := by rw [hwa']; show (w9.setCell _ _).heap.size = _; simp
  have lk : ∀ {A : Option Addr} {xs : List Value}, Lies w9 A xs → (∀ a, A = some a → a.block ≠ g) → Lies wa A xs := fun h hn => lies_stay h (by omega) fun _ a ha => hkeep _ (hn a ha)
  have l0a := lk (HL0.out.below HB59.out) (fun a ha => by injection ha with ha; rw [← ha]; show w.heap.size ≠ g; rw [HGE.out]; omega)
  have l1a := lk (HL1.out.below HB59.out) (fun a ha => by injection ha with ha; rw [← ha]; show w.heap.size + 1 ≠ g; rw [HGE.out]; omega)
  have l2a : Lies wa (some ⟨w.heap.size + 1 + 1, 0, none⟩) (rcs [⟨0, 0, 2, 0⟩]) := (lk (HL2.out.below HB59.out) (fun a ha => by injection ha with ha; rw [← ha]; show w.heap.size + 1 + 1 ≠ g; rw [HGE.out]; omega)).take 4
  have hNa : NetAt wa (some ⟨g, 0, none⟩) netS2 := by
    refine ⟨[.slice (some ⟨w.heap.size, 0, none⟩) 1 1, .slice (some ⟨w.heap.size + 1, 0, none⟩) 1 1, .slice (some ⟨w.heap.size + 1 + 1, 0, none⟩) 1 2], rfl, hrowa.lies, fun i hi => ?_⟩
    match i, hi with
    | 0, _ => exact ⟨_, _, rfl, l0a, Nat.le_refl 1, show (1 : Nat) ≤ 9223372036854775807 by omega⟩
    | 1, _ => exact ⟨_, _, rfl, l1a, Nat.le_refl 1, show (1 : Nat) ≤ 9223372036854775807 by omega⟩
    | 2, _ => exact ⟨_, _, rfl, l2a, Nat.le_succ 1, show (2 : Nat) ≤ 9223372036854775807 by omega⟩
  have hL1a := lk HL19.out.1 HL19.out.2
  have hL2a := lk HL29.out.1 HL29.out.2
  have hKa := HK9.out.keep (by omega) (hkeep w8.heap.size hg8)
  have hva := HV9.out.keep (by omega) (hkeep _ (by rw [HGE.out]; omega))
  have hba : Below w.heap.size w wa := by
    rw [hwa']
    exact below_drew ((HB5.out.trans (HB59.out.mono HB5.out.size)).setCell (p := ⟨g, 2, none⟩) hgw _)
  have hnp := nput_any (some ⟨g, 0, none⟩) 3 netS2 wa hNa netS2_ok (by decide)
  rw [HGE.out] at hnp
  have hvx := (hva.get (i := 0) rfl).1
  rw [HGE.out, hwa] at hvx
  have HNP := Lib.hid hnp
  have HWA := Lib.hid hwa
  have HL1A := Lib.hid hL1a
  have HL2A := Lib.hid hL2a
  have HKA := Lib.hid hKa
  have HBA := Lib.hid hba
  clear q0 q2 f2 q0' q2' f2' hwa hwa' hrowa hkeep hsz lk l0a l1a l2a hNa hL1a hL2a hKa hva hba hnp HR9 HV9 HL19 HL29 HK9 HB59 HW9 HR5 HV5 HH5 HL0 HL1 HL2 HL1b HL2b HB6 HB7
  go_wp2_with fail
  rw [← HWA.out]
  clear hvx
  refine (HNP.out).mono ?_
  rintro e wc ⟨R3, m3, rfl, hL3, hb3, hm3, hm3'⟩
  have hlen3 : (bytes (netB netS2)).length = (netB netS2).length := bytes_len _
  rw [hlen3] at hm3 ⊢
  obtain ⟨M3, hM3⟩ : ∃ M3, M3 = (netB netS2).length := ⟨_, rfl⟩
  rw [← hM3] at hm3 ⊢
  have hta := tanalyze_any R3 m3 M3 netS2 ceS2 wc netS2_ok (by decide) A2.out (by rw [← certS2]; exact cert_ok netS2_ok (by decide) (by decide) (by decide) (by decide) ⟨by decide, rfl⟩) (by decide) hM3.symm hL3 hm3 hm3'
  have HTA := Lib.hid hta
  have HM3 := Lib.hid (And.intro hM3 (And.intro hm3 hm3'))
  have HL3 := Lib.hid hL3
  have HB3 := Lib.hid hb3
  clear hL3 hb3 hm3 hm3' hM3 hta hlen3 HNP HWA
  go_wp2_with fail
  refine (HTA.out).mono ?_
  rintro e wd ⟨R4, m4, rfl, hL4, hb4, hm4, hm4'⟩
  have hlen4 : (bytes (certB netS2.length ceS2)).length = (certB 3 ceS2).length := bytes_len _
  rw [hlen4] at hm4 ⊢
  obtain ⟨M4, hM4⟩ : ∃ M4, M4 = (certB 3 ceS2).length := ⟨_, rfl⟩
  rw [← hM4] at hm4 ⊢
  have hbad := HB3.out.trans (hb4.mono HB3.out.size)
  have hL1d := HL1A.out.below hbad
  have hL2d := HL2A.out.below hbad
  have hL3d := HL3.out.below hb4
  have hKd := HKA.out.below hbad HKA.out.lt
  have hBd := HBA.out.trans (hbad.mono HBA.out.size)
  have c1 : CutsOf netS1 [0, 2147483648] := by
    have := cutsOf_few 12 So.sorts_few netS1_ok (by rw [cutsS1]; decide)
    rwa [cutsS1] at this
  have c2 : CutsOf netS2 [0] := by
    have := cutsOf_few 12 So.sorts_few netS2_ok (by rw [cutsS2]; decide)
    rwa [cutsS2] at this
  have hok2 : CertOk 3 ceS2 := by rw [← certS2]; exact cert_ok netS2_ok (by decide) (by decide) (by decide) (by decide) ⟨by decide, rfl⟩
  have k1 := fun W (hW : Below wd.heap.size wd W) => tcheck_any R1 R2 m1 m2 M1 M2 3 netS1 [0, 2147483648] ceS1 W netS1_ok (by decide) c1 (by decide) (by decide) HOK1.out (by omega) (by decide) HM1.out.1.symm (hL1d.below hW) HM1.out.2.1 HM1.out.2.2 HM2.out.1.symm (hL2d.below hW) HM2.out.2.1 HM2.out.2.2
  have k2 := fun W (hW : Below wd.heap.size wd W) => tcheck_any R3 R4 m3 m4 M3 M4 3 netS2 [0] ceS2 W netS2_ok (by decide) c2 (by decide) (by decide) hok2 (by omega) (by decide) HM3.out.1.symm (hL3d.below hW) HM3.out.2.1 HM3.out.2.2 hM4.symm (hL4.below hW) hm4 hm4'
  have k3 := fun W (hW : Below wd.heap.size wd W) => tcheck_any R1 R4 m1 m4 M1 M4 3 netS1 [0, 2147483648] ceS2 W netS1_ok (by decide) c1 (by decide) (by decide) hok2 (by omega) (by decide) HM1.out.1.symm (hL1d.below hW) HM1.out.2.1 HM1.out.2.2 hM4.symm (hL4.below hW) hm4 hm4'
  rw [ans11] at k1
  rw [ans22] at k2
  obtain ⟨a12, ha12⟩ : ∃ a12, a12 = (ansT netS1 [0, 2147483648] 3 ceS2).2 := ⟨_, rfl⟩
  have h12 : ansT netS1 [0, 2147483648] 3 ceS2 = (0, a12) := by rw [ha12]; exact Prod.ext ans12 rfl
  rw [h12] at k3
  have hd2 := fun W (hW : Below wd.heap.size wd W) => (hKd.below hW hKd.lt).get (i := 2) rfl
  have hd3 := fun W (hW : Below wd.heap.size wd W) => (hKd.below hW hKd.lt).get (i := 3) rfl
  have K1 := Lib.hid k1
  have K2 := Lib.hid k2
  have K3 := Lib.hid k3
  have D2 := Lib.hid hd2
  have D3 := Lib.hid hd3
  have HBD := Lib.hid hBd
  clear hbad hL1d hL2d hL3d hL4 hKd hBd c1 c2 hok2 k1 k2 k3 ha12 h12 hd2 hd3 hb4 hm4 hm4' hM4 hlen4 HL1A HL2A HL3 HKA HBA HB3 HTA HM1 HM2 HM3 HOK1 A1 A2
  go_wp2_with fail
  refine (K1.out _ (Below.refl _ _)).mono ?_
  rintro e x1 ⟨rfl, hx1⟩
  obtain ⟨d2, -⟩ := D2.out _ hx1
  obtain ⟨d3, -⟩ := D3.out _ hx1
  have X1 := Lib.hid hx1
  clear hx1
  go_wp2_with fail
  refine (K2.out _ X1.out).mono ?_
  rintro e x2 ⟨rfl, hx2⟩
  have X2 := Lib.hid (X1.out.trans (hx2.mono X1.out.size))
  clear hx2 d2 d3
  go_wp2_with fail
  refine (K3.out _ X2.out).mono ?_
  rintro e x3 ⟨rfl, hx3⟩
  have X3 := Lib.hid (X2.out.trans (hx3.mono X2.out.size))
  have hfd : (Instr.field 36 (ansV (0, a12)) 0).run Tryz.prog x3 = .ok (.int .i64 0) x3 := by kernel_rfl
  clear hx3
  go_wp2_with fail
  go_ret
  exact ⟨rfl, HBD.out.trans (X3.out.mono HBD.out.size)⟩
end Go.Proofs.YtpjoefekhgmlhaaGreat.Tp

namespace Go.Proofs.YtpjoefekhgmlhaaGreat.Gr
open Go.RowKit Mem
def RanksPostN (v : List Int) (w : World) (e : Ending) (w' : World) : Prop :=
  (allRanked v = true ∧ PairPostN w (ranksL v) 0 e w') ∨ (allRanked v = false ∧ e = .returned (.tuple #[.slice none 0 0, .int .i64 17]) ∧ Below w.heap.size w w')
set_option maxRecDepth 100000 in
set_option maxHeartbeats 2000000 in
theorem ranks_yesN (A : Option Addr) (c : Nat) (v : List Int) (w : World) (hA : Lies w A (ints v)) (he : errno v = 0) :
    Calls Tryz.prog 54 #[.slice A v.length c] w (RanksPostN v w) := by
  obtain ⟨hl, hg⟩ := errno_zero he
  have hc : Calls Tryz.prog 90 #[.slice A v.length c] w (PairPost w (sinks v) 0) := sinks_yes A c v w hA he
  have HC := Lib.hid hc
  have HG := Lib.hid hg
  have hmk := run_make_row' (P := Tryz.prog) 29 3 (.int .i64 0) 8 Tryz.underlying29 int_info rfl .i64 .i64 v.length (by omega) (by omega)
  clear hc he hg
  by_cases hz : v.length = 0
  · have t : ((v.length : Int) == 0) = true := by simp [hz]
    have HZ := Lib.hid hz
    clear hz
    go_enter Tryz.func54, Tryz.ntmps54
    go_wp2_with (go_at_call 90; refine (HC.out).mono ?_; rintro e w1 ⟨S, m, rfl, hS, hb1⟩)
    go_ret2
    refine .inl ⟨?_, ?_⟩
    · rw [allRanked_iff HG.out]; intro u hu; have := HZ.out; omega
    · have hr : ranksL v = [] := by unfold ranksL; rw [HZ.out]; rfl
      rw [hr]
      refine ⟨_, _, by rw [HZ.out]; rfl, fun h => absurd h (by simp), hb1.alloc hb1.size _, fun a ha => by injection ha with ha; rw [← ha]; exact hb1.size⟩
  · have t : ((v.length : Int) == 0) = false := by rw [beq_eq_false_iff_ne]; omega
    have hq := Q.new_ok v.length (by omega) (by omega)
    have HQ := Lib.hid hq
    have HZ := Lib.hid hz
    clear hz hq
    go_enter Tryz.func54, Tryz.ntmps54
    go_wp2_with (go_at_call 90; refine (HC.out).mono ?_; rintro e w1 ⟨S, m, rfl, hS, hb1⟩)
    go_wp2_with (go_at_call 91; refine (HQ.out _).mono ?_; rintro e w3 ⟨q, ch, rfl, hQ, hqg, hcg, hb3⟩)
    have hR3 : Row w3 w1.heap.size (List.replicate v.length 0) := (Row.made w1 v.length).below hb3 (by simp)
    have hb13 : Below w1.heap.size w1 w3 := ((Below.refl _ w1).alloc (Nat.le_refl _) _).trans (hb3.mono (by simp))
    have hq1 : w1.heap.size < q ∧ w1.heap.size < ch := by simp at hqg hcg; omega
    have hl1 := hb1.size
    clear hb3 hqg hcg hmk HC HQ
    have hsl := endsTo_len v
    have hsn : (sinks v).length = (endsTo v v.length).length := by rw [sinks_nats]; simp [nats]
    rw [hsn]
    have HSN := Lib.hid hsn
    clear hsn
    go_loopw [42] (fun i wr => ∃ k : Nat, k ≤ (endsTo v v.length).length ∧ i = .int .i64 k ∧ Q.QAt wr q ch v.length ((ints (sinks v)).take k) ∧ Row wr w1.heap.size (List.replicate v.length 0) ∧ Below w1.heap.size w1 wr) (fun i _ => (endsTo v v.length).length - (intOf i).toNat)
    case atStart => exact ⟨0, by omega, rfl, hQ, hR3, hb13⟩
    case round =>
      obtain ⟨k, hk, rfl, hQr, hRr, hbr⟩ := hrel
      by_cases hlt : k < (endsTo v v.length).length
      · have hkl : k < (sinks v).length := by rw [HSN.out]; exact hlt
        obtain ⟨b, off, rfl, hb, hcell0⟩ := hS.at_map hkl
        have hcell := (hbr.cell (p := ⟨b, off + k, none⟩) hb).trans hcell0
        have htk : (ints (sinks v)).take (k + 1) = (ints (sinks v)).take k ++ [.int .i64 (sinks v)[k]] := by
          rw [List.take_add_one, List.getElem?_map, List.getElem?_eq_getElem hkl]; rfl
        have hput := Q.put_ok (sinks v)[k] wr hQr (by simp; omega)
        rw [← htk] at hput
        obtain ⟨x, hx⟩ : ∃ x, x = (sinks v)[k] := ⟨_, rfl⟩
        rw [← hx] at hcell hput
        have HPUT := Lib.hid hput
        clear hput hx htk hcell0
        go_wp2_with (go_at_call 92; refine (HPUT.out).mono ?_; rintro e w4 ⟨rfl, hQ4, ho4⟩)
        refine ⟨⟨k + 1, by omega, by go_num, hQ4, hRr.only ho4 (by omega), hbr.trans (ho4.below (by omega))⟩, by simp [intOf]; omega⟩
      · have ek : k = (endsTo v v.length).length := by omega
        have hQa : Q.QAt wr q ch v.length (ints (nats (endsTo v v.length))) := by
          rw [List.take_of_length_le (by simp [HSN.out]; omega)] at hQr; exact hQr
        clear hQr hQ hR3 hb13 ek
        obtain ⟨wp, rfl⟩ : ∃ wp : World, wp = wr := ⟨_, rfl⟩
        have hbp : Below w.heap.size w wp := hb1.trans (hbr.mono hl1)
        have hAp := hA.below hbp
        have hback := back_any A c v wp hAp hl HG.out
        have HBACK := Lib.hid hback
        clear hback
        go_wp2_with (go_at_call 93; refine (HBACK.out).mono ?_; rintro e w4 ⟨g, rfl, hgw, hb4, hfrom⟩)
        have hql := hQa.lt
        have hrl := hRr.lt
        have hQ4 := hQa.below hb4
        have hR4 := hRr.below hb4 hrl
        have hbw4 : Below w.heap.size w w4 := hbp.trans (hb4.mono hbp.size)
        have hK4 := Kahn.start v
        clear hQa hRr hbr hS hb4 HBACK hAp
        go_wp2_with fail
        go_loopw [11] (fun d wr => ∃ D Qs rs : List Nat, d = .int .i64 (D.length : Int) ∧ Kahn v D Qs [] rs ∧ Q.QAt wr q ch v.length (ints (nats Qs)) ∧ Row wr w1.heap.size rs ∧ Above wp.heap.size w4 wr ∧ Below w.heap.size w wr) (fun d _ => v.length - (intOf d).toNat)
        case atStart => exact ⟨[], _, _, rfl, hK4, hQ4, hR4, Above.refl _ _, hbw4⟩
        case round =>
          clear hK4 hQ4 hR4 hbw4
          obtain ⟨D, Qs, rs, rfl, hK, hQr, hR, hab, hbr⟩ := hrel
          have hfew := hK.few
          have hlen := Q.len_any wr hQr
          have hil : (ints (nats Qs)).length = Qs.length := by simp [ints, nats]
          rw [hil] at hlen
          have HLEN := Lib.hid hlen
          have HIL := Lib.hid hil
          have HK := Lib.hid hK
          clear hlen hil hK
          cases Qs with
          | nil =>
            have tg : decide ((0 : Int) < 0) = false := by decide
            by_cases hd : D.length < v.length
            · have hn := Kahn.end_no HK.out HG.out hd
              have HN := Lib.hid hn
              clear hn
              go_wp2_with (go_at_call 94; refine (HLEN.out).mono ?_; rintro e w' ⟨rfl, rfl⟩)
              go_ret2
              exact .inr ⟨HN.out, rfl, hbr⟩
            · have hn := Kahn.end_yes HK.out HG.out hd
              have HN := Lib.hid hn
              clear hn
              go_wp2_with (go_at_call 94; refine (HLEN.out).mono ?_; rintro e w' ⟨rfl, rfl⟩)
              go_ret2
              have hrl := row_lies hR
              have e1 : nats rs = ranksL v := HN.out.2
              rw [e1] at hrl
              have e2 : (ranksL v).length = v.length := by simp [ranksL]
              exact .inl ⟨HN.out.1, _, _, by rw [e2]; rfl, hrl, hbr, fun a ha => by injection ha with ha; rw [← ha]; exact hl1⟩
          | cons x Qs =>
            have hKt := Kahn.take HK.out HG.out
            have hx : x < v.length := HK.out.lt x (by simp)
            have htake := Q.take_ok (.int .i64 (x : Int)) wr (show Q.QAt wr q ch v.length (.int .i64 (x : Int) :: ints (nats Qs)) from hQr)
            obtain ⟨b, o, cc, hf1, hbb, hf2⟩ := hfrom x hx
            have hKtf := hKt.few
            have HT := Lib.hid htake
            have HKT := Lib.hid hKt
            clear htake hKt HK
            have hdl : D.length + 1 + Qs.length ≤ v.length := by simpa using hKtf
            have tg : decide ((0 : Int) < ((x :: Qs).length : Int)) = true := by rw [decide_eq_true_eq]; simp only [List.length_cons]; omega
            have hpl : (preds v x).length ≤ v.length := by have := off_end v x; omega
            clear hKtf hfew
            go_wp2_with (first | (go_at_call 94; refine (HLEN.out).mono ?_; rintro e w' ⟨rfl, rfl⟩) | (go_at_call 95; refine (HT.out).mono ?_; rintro e w5 ⟨rfl, hQ5, ho5⟩; have hab5 := hab.only ho5 (by omega); have hcg := (hab5 ⟨g, x, none⟩ hgw).trans hf1))
            have hR5 := hR.only ho5 (by omega)
            have hb5 : Below w.heap.size w w5 := hbr.trans (ho5.below (by omega))
            clear hR hab hQr hbr HT HLEN ho5
            go_loopw [67] (fun i wr => ∃ (j : Nat) (Qi rs : List Nat), j ≤ (preds v x).length ∧ i = .int .i64 j ∧ Kahn v (D ++ [x]) Qi ((preds v x).drop j) rs ∧ Q.QAt wr q ch v.length (ints (nats Qi)) ∧ Row wr w1.heap.size rs ∧ Above wp.heap.size w4 wr ∧ Below w.heap.size w wr) (fun i _ => (preds v x).length - (intOf i).toNat)
            case atStart => exact ⟨0, Qs, rs, by omega, rfl, HKT.out, hQ5, hR5, hab5, hb5⟩
            case round =>
              clear hQ5 hR5 hab5 hb5 hcg HKT
              obtain ⟨j, Qi, rs, hj, rfl, hK, hQi, hRi, habi, hbi⟩ := hrel
              by_cases hlt : j < (preds v x).length
              · obtain ⟨u, hu⟩ : ∃ u, u = (preds v x)[j] := ⟨_, rfl⟩
                have hdrop : (preds v x).drop j = u :: (preds v x).drop (j + 1) := by rw [hu]; exact List.drop_eq_getElem_cons hlt
                obtain ⟨hul, hun⟩ := mem_predsTo.1 (show u ∈ predsTo v x v.length by rw [hu]; exact List.getElem_mem hlt)
                rw [hdrop] at hK
                have hroom := hK.room
                have hcu := (habi ⟨b, o + j, none⟩ hbb).trans (hf2 j u (by rw [hu]; exact List.getElem?_eq_getElem hlt))
                have hxr := hK.rank x (by simp)
                have hrb := hxr.bound HG.out
                have hxl : x < rs.length := by rw [hK.len]; exact hx
                have hul2 : u < rs.length := by rw [hK.len]; exact hul
                have hcx := hRi.cell hxl
                have hcu2 := hRi.cell hul2
                have hfu := hRi.free u
                have hKp := hK.put (by simp) hun
                have hRs := hRi.set_ u (lab rs x + 1)
                have hQs := qat_set hQi (p := ⟨w1.heap.size, u, none⟩) (by show q ≠ w1.heap.size; omega) (by show ch ≠ w1.heap.size; omega) (.int .i64 ((lab rs x + 1 : Nat) : Int))
                have hput := Q.put_ok (u : Int) _ hQs (by simp [ints, nats] at hroom ⊢; omega)
                have habs := habi.set_ (q := ⟨w1.heap.size, u, none⟩) (by show w1.heap.size < wp.heap.size; omega) (.int .i64 ((lab rs x + 1 : Nat) : Int))
                have hbs := hbi.setCell (p := ⟨w1.heap.size, u, none⟩) (by show w.heap.size ≤ w1.heap.size; omega) (.int .i64 ((lab rs x + 1 : Nat) : Int))
                obtain ⟨a, ha⟩ : ∃ a, a = lab rs x := ⟨_, rfl⟩
                rw [← ha] at hcx hKp hRs hput habs hbs hrb
                have ea : ((a + 1 : Nat) : Int) = (a : Int) + 1 := by omega
                rw [ea] at hRs hput habs hbs
                have HPUT := Lib.hid hput
                have HKP := Lib.hid hKp
                have HU := Lib.hid hu
                clear hput hKp hu hdrop hun hroom hxr hK ha ea hQs hQi hRi
                go_wp2_with (go_at_call 92; refine (HPUT.out).mono ?_; rintro e w6 ⟨rfl, hQ6, ho6⟩)
                refine ⟨⟨j + 1, Qi ++ [u], _, by omega, by go_num, HKP.out, by simpa [ints, nats] using hQ6, hRs.only ho6 (by omega), habs.only ho6 (by omega), hbs.trans (ho6.below (by omega))⟩, by simp [intOf]; omega⟩
              · rw [List.drop_eq_nil_of_le (by omega)] at hK
                have HK := Lib.hid hK
                clear hK
                go_wp2_with fail
                refine ⟨⟨D ++ [x], Qi, rs, by simp, HK.out, hQi, hRi, habi, hbi⟩, by simp [intOf]; omega⟩
end Go.Proofs.YtpjoefekhgmlhaaGreat.Gr
