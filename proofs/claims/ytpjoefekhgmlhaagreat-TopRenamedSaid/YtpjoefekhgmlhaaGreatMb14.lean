/- CONTRACT of rule.Take, of what rule.Put makes. · CONTRACTS: table.Next, network.is, Step, Size, May. Conditions: the network may be. · CONTRACTS: network.Step, Size, May. Conditions: the network may be. -/
import Derived.Test.YtpjoefekhgmlhaaGreatMb13
import Derived.Test.YtpjoefekhgmlhaaGreatMb07
namespace Go.Proofs.YtpjoefekhgmlhaaGreat.Tp
open Go.RowKit Mem

/-- The rule's cells when k fields have been set. -/
def rpart (r : RuleT) : Nat → List Value
  | 0 => [.int .u32 0, .int .i64 0, .int .i64 0, .int .i64 0]
  | 1 => [.int .u32 (r.a : Int), .int .i64 0, .int .i64 0, .int .i64 0]
  | 2 => [.int .u32 (r.a : Int), .int .i64 (r.len : Int), .int .i64 0, .int .i64 0]
  | 3 => [.int .u32 (r.a : Int), .int .i64 (r.len : Int), .int .i64 (r.act : Int), .int .i64 0]
  | _ => [.int .u32 (r.a : Int), .int .i64 (r.len : Int), .int .i64 (r.act : Int), .int .i64 (r.next : Int)]
theorem lies_setCell {w : World} {A : Option Addr} {xs : List Value} (h : Lies w A xs) {p : Addr} (v : Value) (hne : ∀ a, A = some a → a.block ≠ p.block) : Lies (w.setCell p v) A xs := fun hn => by
  obtain ⟨b, off, rfl, hb, hc⟩ := h hn
  refine ⟨b, off, rfl, by simpa [World.setCell] using hb, fun i u hu => ?_⟩
  rw [World.cell?_setCell_other (h := by intro e; have := hne _ rfl; rw [e] at this; exact this rfl)]
  exact hc i u hu

theorem takeN (A : Option Addr) (N c : Nat) (l : List Nat) (size v : Nat) (w : World) (hA : Lies w A (bytes l)) (hN : l.length = N) (hl : N ≤ 9223372036854775807) (hb : ∀ b ∈ l, b < 256) (hs : size = 1 ∨ size = 2 ∨ size = 4) (hsl : size ≤ N) (hv : ofBe (l.take size) = v) :
    Calls Tryz.prog 79 #[.slice A N c, .int .i64 (size : Int)] w fun e w' => e = .returned (.tuple #[.int .i64 (v : Int), .int .i64 0]) ∧ w = w' := by
  subst hN hv
  exact take_any A c l size w hA hl hb hs hsl
def RTakePost (w : World) (r : RuleT) (e : Ending) (w' : World) : Prop := e = .returned (.tuple #[rv r, .int .i64 0]) ∧ Below w.heap.size w w'

set_option maxRecDepth 100000 in
set_option maxHeartbeats 2000000 in
theorem rtake_any (A : Option Addr) (n c : Nat) (r : RuleT) (rest : List Nat) (w : World) (h : RuleFits r) (hn : rest.length + 8 = n) (hA : Lies w A (bytes (ruleB r ++ rest))) (hb : ∀ b ∈ rest, b < 256) (hc : n ≤ c) (hc2 : c ≤ 9223372036854775807) :
    Calls Tryz.prog 133 #[.slice A n c] w (RTakePost w r) := by
  have hlb : ∀ b ∈ ruleB r ++ rest, b < 256 := fun b hx => by
    rcases List.mem_append.1 hx with hx | hx
    · exact ruleB_lt h b hx
    · exact hb b hx
  obtain ⟨l, hl⟩ : ∃ l, l = ruleB r ++ rest := ⟨_, rfl⟩
  have hll : l.length = n := by rw [hl, List.length_append, ruleB_len]; omega
  have hv0 : ofBe ((l.drop 0).take 4) = r.a := by rw [hl]; exact ofBe_be4
  have hv1 : ofBe ((l.drop 4).take 1) = r.len := by rw [hl]; exact ofBe_be1
  have hv2 : ofBe ((l.drop 5).take 1) = r.act := by rw [hl]; exact ofBe_be1
  have hv3 : ofBe ((l.drop 6).take 2) = r.next := by rw [hl]; exact ofBe_be2
  rw [← hl] at hA hlb
  have HRA := Lib.hid h.a
  have hr0 : VRow (w.alloc (.cells #[.int .u32 0, .int .i64 0, .int .i64 0, .int .i64 0] 43)) w.heap.size (rpart r 0) := VRow.new w #[.int .u32 0, .int .i64 0, .int .i64 0, .int .i64 0] 43
  have hb0 : Below w.heap.size w (w.alloc (.cells #[.int .u32 0, .int .i64 0, .int .i64 0, .int .i64 0] 43)) := (Below.refl _ _).alloc (Nat.le_refl _) _
  have hfs := fields_any (w.alloc (.cells #[.int .u32 0, .int .i64 0, .int .i64 0, .int .i64 0] 43))
  obtain ⟨wa, hwa⟩ : ∃ wa, wa = w.alloc (.cells #[.int .u32 0, .int .i64 0, .int .i64 0, .int .i64 0] 43) := ⟨_, rfl⟩
  rw [← hwa] at hr0 hb0 hfs
  have t0 : decide ((n : Int) < 8) = false := by rw [decide_eq_false_iff_not]; omega
  have sa : wa.heap.size = w.heap.size + 1 := by rw [hwa]; simp
  have h8 : 8 ≤ n := by omega
  have HW := Lib.hid hwa
  have HFS := Lib.hid hfs
  have HB0 := Lib.hid hb0
  have HR0 := Lib.hid hr0
  have HV0 := Lib.hid hv0
  have HV1 := Lib.hid hv1
  have HV2 := Lib.hid hv2
  have HV3 := Lib.hid hv3
  have HLB := Lib.hid hlb
  have HLL := Lib.hid hll
  have HA := Lib.hid hA
  clear hv0 hv1 hv2 hv3 hl hlb hA hb hn h hwa hfs hb0 hr0 hll
  go_enter Tryz.func133, Tryz.ntmps133
  go_wp2_with fail
  rw [← HW.out]
  refine (HFS.out).mono ?_
  rintro e w2 ⟨g, rfl, hgn, hg, hfc, hb2⟩
  have hbw2 := HB0.out.trans (hb2.mono HB0.out.size)
  have hr2 := HR0.out.below hb2 HR0.out.lt
  have hgne : g ≠ w.heap.size := by omega
  have HFC := Lib.hid hfc
  have HR2 := Lib.hid hr2
  have HB2 := Lib.hid hbw2
  clear hfc hr2 hbw2 hb2
  go_wp2_with fail
  go_loopw [0, 14] (fun s i wr => ∃ (k : Nat) (B : Option Addr) (d : Nat), k ≤ 4 ∧ i = .int .i64 k ∧ s = .slice B (n - ruleN k) d ∧ n - ruleN k ≤ d ∧ d ≤ 9223372036854775807 ∧ Hid (Lies w B (bytes (l.drop (ruleN k)))) ∧ VRow wr w.heap.size (rpart r k) ∧ Hid (∀ i u, fieldsV[i]? = some u → wr.cell? ⟨g, i, none⟩ = some u) ∧ g < wr.heap.size ∧ Below w.heap.size w wr) (fun _ i _ => 4 - (intOf i).toNat)
  case atStart => exact ⟨0, A, c, by omega, rfl, rfl, by omega, hc2, HA, HR2.out, HFC, hg, HB2.out⟩
  case round =>
    obtain ⟨k, B, d, hk, rfl, rfl, hd, hd2, HLB2, hR, HF, hgr, hbr⟩ := hrel
    by_cases hlt : k < 4
    · have hk4 : k = 0 ∨ k = 1 ∨ k = 2 ∨ k = 3 := by omega
      rcases hk4 with rfl | rfl | rfl | rfl
      · have hf0 := HF.out 0 _ rfl
        have hf1 := HF.out 1 _ rfl
        have hf2 := HF.out 2 _ rfl
        have hd' : n - 0 ≤ d := hd
        obtain ⟨w3, hw3⟩ : ∃ w3, w3 = wr.alloc (.cells #[.int .i64 4, .func (.func 124) #[] #[], .func (.func 125) #[] #[]] 182) := ⟨_, rfl⟩
        have h3 : Below wr.heap.size wr w3 := by rw [hw3]; exact (Below.refl _ _).alloc (Nat.le_refl _) _
        have s3 : wr.heap.size < w3.heap.size := by rw [hw3]; simp
        have q0 : w3.cell? ⟨wr.heap.size, 0, none⟩ = some (.int .i64 4) := by rw [hw3, cell_of_row _ _ 0 _ _ (0, 0) (heap_alloc_new wr _)]; rfl
        have q2 : w3.cell? ⟨wr.heap.size, 2, none⟩ = some (.func (.func 125) #[] #[]) := by rw [hw3, cell_of_row _ _ 2 _ _ (0, 0) (heap_alloc_new wr _)]; rfl
        have hne : wr.heap.size ≠ w.heap.size := by have := hR.lt; omega
        have hR3 := hR.below h3 hR.lt
        have hbr3 := hbr.trans (h3.mono hbr.size)
        have htk := takeN B (n - ruleN 0) d (l.drop 0) 4 r.a w3 (HLB2.out.below hbr3) (by rw [List.length_drop, HLL.out]; rfl) (by omega) (fun b hx => HLB.out b (List.mem_of_mem_drop hx)) (by omega) (by simp only [ruleN]; omega) HV0.out
        obtain ⟨A', hcut, hLc⟩ := cut_l bty bsz B (n - ruleN 0) d 4 4 rfl (by simp only [ruleN]; omega) hd
        have hsub : n - ruleN 0 - 4 = n - ruleN 1 := by simp only [ruleN]; omega
        rw [hsub] at hcut
        have hL' := hLc w _ HLB2.out (by rw [bytes_len, List.length_drop, HLL.out])
        have hst := set1 w.heap.size r.a (rpart r 0) (by simp [rpart]) HRA.out w3 hR3
        have hq0s : (w3.setCell ⟨w.heap.size, 0, none⟩ (.int .u32 (r.a : Int))).cell? ⟨wr.heap.size, 0, none⟩ = some (.int .i64 4) := by
          rw [World.cell?_setCell_other (h := by intro e; injection e with e; exact hne e.symm)]
          exact q0
        have hRs := hR3.set_ 0 (.int .u32 (r.a : Int))
        have hbs := hbr3.setCell (p := ⟨w.heap.size, 0, none⟩) (Nat.le_refl _) (.int .u32 (r.a : Int))
        have HFs : Hid (∀ i u, fieldsV[i]? = some u → (w3.setCell ⟨w.heap.size, 0, none⟩ (.int .u32 (r.a : Int))).cell? ⟨g, i, none⟩ = some u) := Lib.hid fun i u hu => by
          rw [World.cell?_setCell_other (h := by intro e; injection e with e; exact hgne e.symm)]
          exact (h3.cell (p := ⟨g, i, none⟩) hgr).trans (HF.out i u hu)
        have hgs : g < (w3.setCell ⟨w.heap.size, 0, none⟩ (.int .u32 (r.a : Int))).heap.size := by
          simp only [World.size_setCell]
          exact Nat.lt_trans hgr s3
        have HW3 := Lib.hid hw3
        have HTK := Lib.hid htk
        have HST := Lib.hid hst
        have HRS := Lib.hid hRs
        have HBS := Lib.hid hbs
        have HL' : Hid (Lies w A' (bytes (l.drop 4))) := Lib.hid (by
          have e : (bytes (l.drop 0)).drop 4 = bytes (l.drop 4) := by rw [bytes, bytes, ← List.map_drop, List.drop_drop]
          rw [← e]; exact hL')
        have HGS := Lib.hid hgs
        clear h3 hw3 hR hR3 hbr hbr3 htk hst hRs hbs hL' hLc hgs HF HLB2
        go_wp2_with fail
        rw [← HW3.out]
        clear hf0 hf1 hf2
        go_wp2_with fail
        refine (HTK.out).mono ?_
        rintro e w' ⟨rfl, rfl⟩
        go_wp2_with fail
        refine (HST.out).mono ?_
        rintro e w5 ⟨rfl, rfl⟩
        go_wp2_with fail
        refine ⟨⟨1, A', d - 4, by omega, rfl, rfl, by simp only [ruleN]; omega, by omega, HL', HRS.out, HFs, HGS.out, HBS.out⟩, by simp [intOf]⟩
      · have hf0 := HF.out 3 _ rfl
        have hf1 := HF.out 4 _ rfl
        have hf2 := HF.out 5 _ rfl
        have hd' : n - 4 ≤ d := hd
        obtain ⟨w3, hw3⟩ : ∃ w3, w3 = wr.alloc (.cells #[.int .i64 1, .func (.func 126) #[] #[], .func (.func 127) #[] #[]] 182) := ⟨_, rfl⟩
        have h3 : Below wr.heap.size wr w3 := by rw [hw3]; exact (Below.refl _ _).alloc (Nat.le_refl _) _
        have s3 : wr.heap.size < w3.heap.size := by rw [hw3]; simp
        have q0 : w3.cell? ⟨wr.heap.size, 0, none⟩ = some (.int .i64 1) := by rw [hw3, cell_of_row _ _ 0 _ _ (0, 0) (heap_alloc_new wr _)]; rfl
        have q2 : w3.cell? ⟨wr.heap.size, 2, none⟩ = some (.func (.func 127) #[] #[]) := by rw [hw3, cell_of_row _ _ 2 _ _ (0, 0) (heap_alloc_new wr _)]; rfl
        have hne : wr.heap.size ≠ w.heap.size := by have := hR.lt; omega
        have hR3 := hR.below h3 hR.lt
        have hbr3 := hbr.trans (h3.mono hbr.size)
        have htk := takeN B (n - ruleN 1) d (l.drop 4) 1 r.len w3 (HLB2.out.below hbr3) (by rw [List.length_drop, HLL.out]; rfl) (by omega) (fun b hx => HLB.out b (List.mem_of_mem_drop hx)) (by omega) (by simp only [ruleN]; omega) HV1.out
        obtain ⟨A', hcut, hLc⟩ := cut_l bty bsz B (n - ruleN 1) d 1 1 rfl (by simp only [ruleN]; omega) hd
        have hsub : n - ruleN 1 - 1 = n - ruleN 2 := by simp only [ruleN]; omega
        rw [hsub] at hcut
        have hL' := hLc w _ HLB2.out (by rw [bytes_len, List.length_drop, HLL.out])
        have hst := set2 w.heap.size r.len (rpart r 1) (by simp [rpart]) w3 hR3
        have hq0s : (w3.setCell ⟨w.heap.size, 1, none⟩ (.int .i64 (r.len : Int))).cell? ⟨wr.heap.size, 0, none⟩ = some (.int .i64 1) := by
          rw [World.cell?_setCell_other (h := by intro e; injection e with e; exact hne e.symm)]
          exact q0
        have hRs := hR3.set_ 1 (.int .i64 (r.len : Int))
        have hbs := hbr3.setCell (p := ⟨w.heap.size, 1, none⟩) (Nat.le_refl _) (.int .i64 (r.len : Int))
        have HFs : Hid (∀ i u, fieldsV[i]? = some u → (w3.setCell ⟨w.heap.size, 1, none⟩ (.int .i64 (r.len : Int))).cell? ⟨g, i, none⟩ = some u) := Lib.hid fun i u hu => by
          rw [World.cell?_setCell_other (h := by intro e; injection e with e; exact hgne e.symm)]
          exact (h3.cell (p := ⟨g, i, none⟩) hgr).trans (HF.out i u hu)
        have hgs : g < (w3.setCell ⟨w.heap.size, 1, none⟩ (.int .i64 (r.len : Int))).heap.size := by
          simp only [World.size_setCell]
          exact Nat.lt_trans hgr s3
        have HW3 := Lib.hid hw3
        have HTK := Lib.hid htk
        have HST := Lib.hid hst
        have HRS := Lib.hid hRs
        have HBS := Lib.hid hbs
        have HL' : Hid (Lies w A' (bytes (l.drop 5))) := Lib.hid (by
          have e : (bytes (l.drop 4)).drop 1 = bytes (l.drop 5) := by rw [bytes, bytes, ← List.map_drop, List.drop_drop]
          rw [← e]; exact hL')
        have HGS := Lib.hid hgs
        clear h3 hw3 hR hR3 hbr hbr3 htk hst hRs hbs hL' hLc hgs HF HLB2
        go_wp2_with fail
        rw [← HW3.out]
        clear hf0 hf1 hf2
        go_wp2_with fail
        refine (HTK.out).mono ?_
        rintro e w' ⟨rfl, rfl⟩
        go_wp2_with fail
        refine (HST.out).mono ?_
        rintro e w5 ⟨rfl, rfl⟩
        go_wp2_with fail
        refine ⟨⟨2, A', d - 1, by omega, rfl, rfl, by simp only [ruleN]; omega, by omega, HL', HRS.out, HFs, HGS.out, HBS.out⟩, by simp [intOf]⟩
      · have hf0 := HF.out 6 _ rfl
        have hf1 := HF.out 7 _ rfl
        have hf2 := HF.out 8 _ rfl
        have hd' : n - 5 ≤ d := hd
        obtain ⟨w3, hw3⟩ : ∃ w3, w3 = wr.alloc (.cells #[.int .i64 1, .func (.func 128) #[] #[], .func (.func 129) #[] #[]] 182) := ⟨_, rfl⟩
        have h3 : Below wr.heap.size wr w3 := by rw [hw3]; exact (Below.refl _ _).alloc (Nat.le_refl _) _
        have s3 : wr.heap.size < w3.heap.size := by rw [hw3]; simp
        have q0 : w3.cell? ⟨wr.heap.size, 0, none⟩ = some (.int .i64 1) := by rw [hw3, cell_of_row _ _ 0 _ _ (0, 0) (heap_alloc_new wr _)]; rfl
        have q2 : w3.cell? ⟨wr.heap.size, 2, none⟩ = some (.func (.func 129) #[] #[]) := by rw [hw3, cell_of_row _ _ 2 _ _ (0, 0) (heap_alloc_new wr _)]; rfl
        have hne : wr.heap.size ≠ w.heap.size := by have := hR.lt; omega
        have hR3 := hR.below h3 hR.lt
        have hbr3 := hbr.trans (h3.mono hbr.size)
        have htk := takeN B (n - ruleN 2) d (l.drop 5) 1 r.act w3 (HLB2.out.below hbr3) (by rw [List.length_drop, HLL.out]; rfl) (by omega) (fun b hx => HLB.out b (List.mem_of_mem_drop hx)) (by omega) (by simp only [ruleN]; omega) HV2.out
        obtain ⟨A', hcut, hLc⟩ := cut_l bty bsz B (n - ruleN 2) d 1 1 rfl (by simp only [ruleN]; omega) hd
        have hsub : n - ruleN 2 - 1 = n - ruleN 3 := by simp only [ruleN]; omega
        rw [hsub] at hcut
        have hL' := hLc w _ HLB2.out (by rw [bytes_len, List.length_drop, HLL.out])
        have hst := set3 w.heap.size r.act (rpart r 2) (by simp [rpart]) w3 hR3
        have hq0s : (w3.setCell ⟨w.heap.size, 2, none⟩ (.int .i64 (r.act : Int))).cell? ⟨wr.heap.size, 0, none⟩ = some (.int .i64 1) := by
          rw [World.cell?_setCell_other (h := by intro e; injection e with e; exact hne e.symm)]
          exact q0
        have hRs := hR3.set_ 2 (.int .i64 (r.act : Int))
        have hbs := hbr3.setCell (p := ⟨w.heap.size, 2, none⟩) (Nat.le_refl _) (.int .i64 (r.act : Int))
        have HFs : Hid (∀ i u, fieldsV[i]? = some u → (w3.setCell ⟨w.heap.size, 2, none⟩ (.int .i64 (r.act : Int))).cell? ⟨g, i, none⟩ = some u) := Lib.hid fun i u hu => by
          rw [World.cell?_setCell_other (h := by intro e; injection e with e; exact hgne e.symm)]
          exact (h3.cell (p := ⟨g, i, none⟩) hgr).trans (HF.out i u hu)
        have hgs : g < (w3.setCell ⟨w.heap.size, 2, none⟩ (.int .i64 (r.act : Int))).heap.size := by
          simp only [World.size_setCell]
          exact Nat.lt_trans hgr s3
        have HW3 := Lib.hid hw3
        have HTK := Lib.hid htk
        have HST := Lib.hid hst
        have HRS := Lib.hid hRs
        have HBS := Lib.hid hbs
        have HL' : Hid (Lies w A' (bytes (l.drop 6))) := Lib.hid (by
          have e : (bytes (l.drop 5)).drop 1 = bytes (l.drop 6) := by rw [bytes, bytes, ← List.map_drop, List.drop_drop]
          rw [← e]; exact hL')
        have HGS := Lib.hid hgs
        clear h3 hw3 hR hR3 hbr hbr3 htk hst hRs hbs hL' hLc hgs HF HLB2
        go_wp2_with fail
        rw [← HW3.out]
        clear hf0 hf1 hf2
        go_wp2_with fail
        refine (HTK.out).mono ?_
        rintro e w' ⟨rfl, rfl⟩
        go_wp2_with fail
        refine (HST.out).mono ?_
        rintro e w5 ⟨rfl, rfl⟩
        go_wp2_with fail
        refine ⟨⟨3, A', d - 1, by omega, rfl, rfl, by simp only [ruleN]; omega, by omega, HL', HRS.out, HFs, HGS.out, HBS.out⟩, by simp [intOf]⟩
      · have hf0 := HF.out 9 _ rfl
        have hf1 := HF.out 10 _ rfl
        have hf2 := HF.out 11 _ rfl
        have hd' : n - 6 ≤ d := hd
        obtain ⟨w3, hw3⟩ : ∃ w3, w3 = wr.alloc (.cells #[.int .i64 2, .func (.func 130) #[] #[], .func (.func 131) #[] #[]] 182) := ⟨_, rfl⟩
        have h3 : Below wr.heap.size wr w3 := by rw [hw3]; exact (Below.refl _ _).alloc (Nat.le_refl _) _
        have s3 : wr.heap.size < w3.heap.size := by rw [hw3]; simp
        have q0 : w3.cell? ⟨wr.heap.size, 0, none⟩ = some (.int .i64 2) := by rw [hw3, cell_of_row _ _ 0 _ _ (0, 0) (heap_alloc_new wr _)]; rfl
        have q2 : w3.cell? ⟨wr.heap.size, 2, none⟩ = some (.func (.func 131) #[] #[]) := by rw [hw3, cell_of_row _ _ 2 _ _ (0, 0) (heap_alloc_new wr _)]; rfl
        have hne : wr.heap.size ≠ w.heap.size := by have := hR.lt; omega
        have hR3 := hR.below h3 hR.lt
        have hbr3 := hbr.trans (h3.mono hbr.size)
        have htk := takeN B (n - ruleN 3) d (l.drop 6) 2 r.next w3 (HLB2.out.below hbr3) (by rw [List.length_drop, HLL.out]; rfl) (by omega) (fun b hx => HLB.out b (List.mem_of_mem_drop hx)) (by omega) (by simp only [ruleN]; omega) HV3.out
        obtain ⟨A', hcut, hLc⟩ := cut_l bty bsz B (n - ruleN 3) d 2 2 rfl (by simp only [ruleN]; omega) hd
        have hsub : n - ruleN 3 - 2 = n - ruleN 4 := by simp only [ruleN]; omega
        rw [hsub] at hcut
        have hL' := hLc w _ HLB2.out (by rw [bytes_len, List.length_drop, HLL.out])
        have hst := set4 w.heap.size r.next (rpart r 3) (by simp [rpart]) w3 hR3
        have hq0s : (w3.setCell ⟨w.heap.size, 3, none⟩ (.int .i64 (r.next : Int))).cell? ⟨wr.heap.size, 0, none⟩ = some (.int .i64 2) := by
          rw [World.cell?_setCell_other (h := by intro e; injection e with e; exact hne e.symm)]
          exact q0
        have hRs := hR3.set_ 3 (.int .i64 (r.next : Int))
        have hbs := hbr3.setCell (p := ⟨w.heap.size, 3, none⟩) (Nat.le_refl _) (.int .i64 (r.next : Int))
        have HFs : Hid (∀ i u, fieldsV[i]? = some u → (w3.setCell ⟨w.heap.size, 3, none⟩ (.int .i64 (r.next : Int))).cell? ⟨g, i, none⟩ = some u) := Lib.hid fun i u hu => by
          rw [World.cell?_setCell_other (h := by intro e; injection e with e; exact hgne e.symm)]
          exact (h3.cell (p := ⟨g, i, none⟩) hgr).trans (HF.out i u hu)
        have hgs : g < (w3.setCell ⟨w.heap.size, 3, none⟩ (.int .i64 (r.next : Int))).heap.size := by
          simp only [World.size_setCell]
          exact Nat.lt_trans hgr s3
        have HW3 := Lib.hid hw3
        have HTK := Lib.hid htk
        have HST := Lib.hid hst
        have HRS := Lib.hid hRs
        have HBS := Lib.hid hbs
        have HL' : Hid (Lies w A' (bytes (l.drop 8))) := Lib.hid (by
          have e : (bytes (l.drop 6)).drop 2 = bytes (l.drop 8) := by rw [bytes, bytes, ← List.map_drop, List.drop_drop]
          rw [← e]; exact hL')
        have HGS := Lib.hid hgs
        clear h3 hw3 hR hR3 hbr hbr3 htk hst hRs hbs hL' hLc hgs HF HLB2
        go_wp2_with fail
        rw [← HW3.out]
        clear hf0 hf1 hf2
        go_wp2_with fail
        refine (HTK.out).mono ?_
        rintro e w' ⟨rfl, rfl⟩
        go_wp2_with fail
        refine (HST.out).mono ?_
        rintro e w5 ⟨rfl, rfl⟩
        go_wp2_with fail
        refine ⟨⟨4, A', d - 2, by omega, rfl, rfl, by simp only [ruleN]; omega, by omega, HL', HRS.out, HFs, HGS.out, HBS.out⟩, by simp [intOf]⟩
    · obtain rfl : k = 4 := by omega
      have hc0 := hR.cell 0 (by simp [rpart])
      have hc1 := hR.cell 1 (by simp [rpart])
      have hc2 := hR.cell 2 (by simp [rpart])
      have hc3 := hR.cell 3 (by simp [rpart])
      have hf0 := hR.free 0 (by simp [rpart])
      have hf1 := hR.free 1 (by simp [rpart])
      have hf2 := hR.free 2 (by simp [rpart])
      have hf3 := hR.free 3 (by simp [rpart])
      simp only [rpart, List.getElem_cons_zero, List.getElem_cons_succ] at hc0 hc1 hc2 hc3
      have hs := hR.set4 (.int .u32 (r.a : Int)) (.int .i64 (r.len : Int)) (.int .i64 (r.act : Int)) (.int .i64 (r.next : Int))
      have hbs := below4 hbr (Nat.le_refl _) (.int .u32 (r.a : Int)) (.int .i64 (r.len : Int)) (.int .i64 (r.act : Int)) (.int .i64 (r.next : Int))
      have HS := Lib.hid hs
      have HBS := Lib.hid hbs
      clear hs hbs hR hbr
      go_wp2_with fail
      have hz0 := HS.out.cell 0 (by simp)
      have hz1 := HS.out.cell 1 (by simp)
      have hz2 := HS.out.cell 2 (by simp)
      have hz3 := HS.out.cell 3 (by simp)
      simp only [List.getElem_cons_zero, List.getElem_cons_succ] at hz0 hz1 hz2 hz3
      refine bodyPost_ret (v := .tuple #[.agg #[.int .u32 (r.a : Int), .int .i64 (r.len : Int), .int .i64 (r.act : Int), .int .i64 (r.next : Int)], .int .i64 0]) (by simp [results, Tryz.results133, go_sem, hz0, hz1, hz2, hz3]) rfl ⟨rfl, HBS.out⟩
end Go.Proofs.YtpjoefekhgmlhaaGreat.Tp

namespace Go.Proofs.YtpjoefekhgmlhaaGreat.Tp
open Go.RowKit Mem

/-- Where a node of these rules sends an address. -/
def nextL (l : List RuleT) (a : Nat) : Option Nat := match findL l a with
  | none => none
  | some r => if r.act = 1 then some r.next else none
abbrev optInt (o : Option Nat) : Value := .int .i64 ((o.getD 0 : Nat) : Int)
set_option maxHeartbeats 400000 in
theorem next_any (A : Option Addr) (c : Nat) (l : List RuleT) (a : Nat) (w : World) (hA : RulesAt w A l) (h : ∀ r ∈ l, PreOk r) (ha : a < 4294967296) (hl : l.length ≤ 4096) :
    Calls Tryz.prog 64 #[.slice A l.length c, .int .u32 (a : Int)] w fun e w' => e = .returned (.tuple #[optInt (nextL l a), .bool (nextL l a).isSome]) ∧ Below w.heap.size w w' := by
  have hf := find_any A c l a w hA h ha hl
  cases ho : findL l a with
  | none =>
    have hn : nextL l a = none := by unfold nextL; rw [ho]
    rw [hn]
    rw [ho] at hf
    have HF := Lib.hid hf
    clear hf hn ho h hA
    go_enter Tryz.func64, Tryz.ntmps64
    go_wp2_with fail
    refine (HF.out).mono ?_
    rintro e w2 ⟨rfl, hb2⟩
    simp only [bestOf, Option.getD_none, rule0, Option.isSome_none]
    go_wp2_with fail
    go_ret2
    exact ⟨rfl, hb2.alloc hb2.size _⟩
  | some r =>
    rw [ho] at hf
    obtain ⟨ra, rlen, ract, rnext⟩ := r
    have HF := Lib.hid hf
    by_cases h1 : ract = 1
    · have hn : nextL l a = some rnext := by unfold nextL; rw [ho]; simp [h1]
      rw [hn]
      have t1 : ((ract : Int) != 1) = false := by simp; omega
      have HH1 := Lib.hid h1
      clear hf hn ho h hA h1
      go_enter Tryz.func64, Tryz.ntmps64
      go_wp2_with fail
      refine (HF.out).mono ?_
      rintro e w2 ⟨rfl, hb2⟩
      simp only [bestOf, Option.getD_some, Option.isSome_some]
      go_wp2_with fail
      go_ret2
      exact ⟨rfl, hb2.alloc hb2.size _⟩
    · have hn : nextL l a = none := by unfold nextL; rw [ho]; simp [h1]
      rw [hn]
      have t1 : ((ract : Int) != 1) = true := by simp; omega
      have HH1 := Lib.hid h1
      clear hf hn ho h hA h1
      go_enter Tryz.func64, Tryz.ntmps64
      go_wp2_with fail
      refine (HF.out).mono ?_
      rintro e w2 ⟨rfl, hb2⟩
      simp only [bestOf, Option.getD_some, Option.isSome_some]
      go_wp2_with fail
      go_ret2
      exact ⟨rfl, hb2.alloc hb2.size _⟩

/-! ### networks -/
/-- A slice that reads as the tables of a network. -/
def NetAt (w : World) (A : Option Addr) (net : List (List RuleT)) : Prop :=
  ∃ vs : List Value, vs.length = net.length ∧ Lies w A vs ∧ ∀ i (hi : i < net.length), ∃ B c, vs[i]? = some (.slice B net[i].length c) ∧ RulesAt w B net[i] ∧ net[i].length ≤ c ∧ c ≤ 9223372036854775807
theorem NetAt.below {w w' : World} {A : Option Addr} {net : List (List RuleT)} (h : NetAt w A net) (hb : Below w.heap.size w w') : NetAt w' A net := by
  obtain ⟨vs, h1, h2, h3⟩ := h
  exact ⟨vs, h1, h2.below hb, fun i hi => by
    obtain ⟨B, c, e, hr, hc⟩ := h3 i hi
    exact ⟨B, c, e, hr.below hb, hc⟩⟩
theorem NetAt.drew {w : World} {A : Option Addr} {net : List (List RuleT)} (h : NetAt w A net) (n : Nat) : NetAt (w.drewN n) A net := h.below (below_drawn (Below.refl _ w) n)
/-- One node of it. -/
theorem NetAt.at_ {w : World} {A : Option Addr} {net : List (List RuleT)} (h : NetAt w A net) {i : Nat} (hi : i < net.length) :
    ∃ b off B c, A = some ⟨b, off, none⟩ ∧ b < w.heap.size ∧ w.cell? ⟨b, off + i, none⟩ = some (.slice B net[i].length c) ∧ RulesAt w B net[i] ∧ net[i].length ≤ c ∧ c ≤ 9223372036854775807 := by
  obtain ⟨vs, h1, h2, h3⟩ := h
  obtain ⟨B, c, e, hr, hc, hc'⟩ := h3 i hi
  obtain ⟨b, off, eA, hb, hcell⟩ := h2 (by omega)
  exact ⟨b, off, B, c, eA, hb, hcell i _ e, hr, hc, hc'⟩
/-- A network that may be. -/
structure NetOk (net : List (List RuleT)) : Prop where
  nodes : net.length ≤ 256
  rules : (net.map List.length).sum ≤ 4096
  table : ∀ l ∈ net, TableOk net.length l
theorem NetOk.pre {net : List (List RuleT)} (h : NetOk net) {l : List RuleT} (hl : l ∈ net) : ∀ r ∈ l, PreOk r := fun r hr => ⟨((h.table l hl).rule r hr).a, ((h.table l hl).rule r hr).len⟩
theorem le_sum : ∀ {ns : List Nat} {n : Nat}, n ∈ ns → n ≤ ns.sum
  | m :: ns, n, h => by
    rcases List.mem_cons.1 h with rfl | h
    · simp
    · have := le_sum h; simp; omega
theorem NetOk.few {net : List (List RuleT)} (h : NetOk net) {l : List RuleT} (hl : l ∈ net) : l.length ≤ 4096 := Nat.le_trans (le_sum (List.mem_map.2 ⟨l, hl, rfl⟩)) h.rules
/-- Where a node sends an address. -/
def stepN (net : List (List RuleT)) (a v : Nat) : Option Nat := match net[v]? with
  | none => none
  | some l => nextL l a

set_option maxHeartbeats 400000 in
theorem is_any (A : Option Addr) (n c : Nat) (v : Int) (w : World) : Calls Tryz.prog 63 #[.agg #[.slice A n c], .int .i64 v] w fun e w' => e = .returned (.bool (decide (0 ≤ v ∧ v < (n : Int)))) ∧ Below w.heap.size w w' := by
  by_cases h0 : 0 ≤ v
  · by_cases h1 : v < (n : Int)
    · have e : decide (0 ≤ v ∧ v < (n : Int)) = true := by simp [h0, h1]
      rw [e]
      have t1 : decide (0 ≤ v) = true := by simp [h0]
      have t2 : decide (v < (n : Int)) = true := by simp [h1]
      clear e
      go_enter Tryz.func63, Tryz.ntmps63
      go_wp2_with fail
      go_ret
      exact ⟨rfl, (Below.refl _ _).alloc (Nat.le_refl _) _⟩
    · have e : decide (0 ≤ v ∧ v < (n : Int)) = false := by simp [h1]
      rw [e]
      have t1 : decide (0 ≤ v) = true := by simp [h0]
      have t2 : decide (v < (n : Int)) = false := by simp [h1]
      clear e
      go_enter Tryz.func63, Tryz.ntmps63
      go_wp2_with fail
      go_ret
      exact ⟨rfl, (Below.refl _ _).alloc (Nat.le_refl _) _⟩
  · have e : decide (0 ≤ v ∧ v < (n : Int)) = false := by simp [h0]
    rw [e]
    have t1 : decide (0 ≤ v) = false := by simp [h0]
    clear e
    go_enter Tryz.func63, Tryz.ntmps63
    go_wp2_with fail
    go_ret
    exact ⟨rfl, (Below.refl _ _).alloc (Nat.le_refl _) _⟩
end Go.Proofs.YtpjoefekhgmlhaaGreat.Tp

namespace Go.Proofs.YtpjoefekhgmlhaaGreat.Tp
open Go.RowKit Mem

set_option maxHeartbeats 400000 in
theorem step_any (A : Option Addr) (c : Nat) (net : List (List RuleT)) (a v : Nat) (w : World) (hN : NetAt w A net) (h : NetOk net) (hv : v < net.length) (ha : a < 4294967296) :
    Calls Tryz.prog 27 #[.agg #[.slice A net.length c], .int .u32 (a : Int), .int .i64 (v : Int)] w fun e w' => e = .returned (.tuple #[optInt (stepN net a v), .bool (stepN net a v).isSome]) ∧ Below w.heap.size w w' := by
  have his := fun W => is_any A net.length c (v : Int) W
  have e1 : decide ((0 : Int) ≤ (v : Int) ∧ (v : Int) < (net.length : Int)) = true := by rw [decide_eq_true_eq]; omega
  rw [e1] at his
  obtain ⟨b, off, B, c2, rfl, hb, hcell, hr, hc2, hc2'⟩ := hN.at_ hv
  have hmem := List.getElem_mem hv
  have es : stepN net a v = nextL net[v] a := by unfold stepN; rw [List.getElem?_eq_getElem hv]
  have hnext := fun W (hb : Below w.heap.size w W) => next_any B c2 net[v] a W (hr.below hb) (h.pre hmem) ha (h.few hmem)
  rw [es]
  generalize nextL net[v] a = o at *
  generalize net[v].length = L at *
  have HIS := Lib.hid his
  have HNX := Lib.hid hnext
  clear his e1 es hnext hr hmem h hN
  go_enter Tryz.func27, Tryz.ntmps27
  go_wp2_with fail
  refine (HIS.out _).mono ?_
  rintro e w2 ⟨rfl, hb2⟩
  have hbx : Below w.heap.size w (w.alloc (.cells #[.slice (some ⟨b, off, none⟩) net.length c] 24)) := (Below.refl _ _).alloc (Nat.le_refl _) _
  have hx := box_cell w w2 24 #[.slice (some ⟨b, off, none⟩) net.length c] hb2 0 _ rfl
  have hb2w := hbx.trans (hb2.mono hbx.size)
  have hcell2 := (hb2w.cell (p := ⟨b, off + v, none⟩) hb).trans hcell
  have HB2 := Lib.hid hb2w
  clear hb2 hbx hb2w
  go_wp2_with fail
  refine (HNX.out _ HB2.out).mono ?_
  rintro e w3 ⟨rfl, hb3⟩
  go_wp2_with fail
  go_ret2
  exact ⟨rfl, HB2.out.trans (hb3.mono HB2.out.size)⟩

def sizeTo (net : List (List RuleT)) (k : Nat) : Nat := ((net.take k).map List.length).sum
theorem sizeTo_next {net : List (List RuleT)} {k : Nat} (h : k < net.length) : sizeTo net (k + 1) = sizeTo net k + net[k].length := by
  unfold sizeTo; rw [List.take_succ_eq_append_getElem h, List.map_append, List.sum_append_nat]; simp only [List.map_cons, List.map_nil, List.sum_cons, List.sum_nil, Nat.add_zero]
theorem sizeTo_le (net : List (List RuleT)) (k : Nat) : sizeTo net k ≤ (net.map List.length).sum := by
  unfold sizeTo
  conv => rhs; rw [← List.take_append_drop k net, List.map_append, List.sum_append_nat]
  omega
set_option maxHeartbeats 400000 in
theorem size_any (A : Option Addr) (c : Nat) (net : List (List RuleT)) (w : World) (hN : NetAt w A net) (h : NetOk net) :
    Calls Tryz.prog 55 #[.agg #[.slice A net.length c]] w fun e w' => e = .returned (.int .i64 (((net.map List.length).sum : Nat) : Int)) ∧ Below w.heap.size w w' := by
  have hs := h.rules
  have hln := h.nodes
  obtain ⟨S, hS⟩ : ∃ S, S = (net.map List.length).sum := ⟨_, rfl⟩
  have hle := fun k => sizeTo_le net k
  rw [← hS] at hs hle ⊢
  have HLE := Lib.hid hle
  have HS := Lib.hid hS
  clear h hle hS
  go_enter Tryz.func55, Tryz.ntmps55
  go_wp2_with fail
  have hb0 : Below w.heap.size w (w.alloc (.cells #[.slice A net.length c] 24)) := (Below.refl _ _).alloc (Nat.le_refl _) _
  have hN0 := hN.below hb0
  obtain ⟨w1, hw1⟩ : ∃ w1, w1 = w.alloc (.cells #[.slice A net.length c] 24) := ⟨_, rfl⟩
  rw [← hw1] at hb0 hN0 ⊢
  clear hw1 hN
  go_loopw [3, 9] (fun s i wr => ∃ k : Nat, k ≤ net.length ∧ i = .int .i64 k ∧ s = .int .i64 ((sizeTo net k : Nat) : Int) ∧ w1 = wr) (fun _ i _ => net.length - (intOf i).toNat)
  case atStart => exact ⟨0, by omega, rfl, by simp [sizeTo], rfl⟩
  case round =>
    obtain ⟨k, hk, rfl, rfl, rfl⟩ := hrel
    by_cases hlt : k < net.length
    · obtain ⟨b, off, B, c2, rfl, hb, hcell, hr, hc2, hc2'⟩ := hN0.at_ hlt
      have hnx := sizeTo_next hlt
      have h1 := HLE.out (k + 1)
      obtain ⟨L, hL⟩ : ∃ L, L = net[k].length := ⟨_, rfl⟩
      rw [← hL] at hcell hnx
      obtain ⟨z, hz⟩ : ∃ z, z = sizeTo net k := ⟨_, rfl⟩
      rw [← hz] at hnx ⊢
      have h2 : z + L ≤ 4096 := by omega
      have HNX := Lib.hid hnx
      clear hr hnx hz hL h1
      go_wp2_with fail
      refine ⟨⟨k + 1, by omega, by go_num, by rw [HNX.out]; simp, by trivial⟩, by simp [intOf]; omega⟩
    · have ek : k = net.length := by omega
      subst ek
      have e : sizeTo net net.length = S := by rw [HS.out]; unfold sizeTo; rw [List.take_of_length_le (Nat.le_refl _)]
      rw [e]
      clear e
      go_wp2_with fail
      go_ret
      exact ⟨rfl, hb0⟩

set_option maxRecDepth 100000 in
set_option maxHeartbeats 1000000 in
theorem nmay_any (A : Option Addr) (c : Nat) (net : List (List RuleT)) (w : World) (hN : NetAt w A net) (h : NetOk net) :
    Calls Tryz.prog 23 #[.agg #[.slice A net.length c]] w fun e w' => e = .returned (.int .i64 0) ∧ Below w.heap.size w w' := by
  have hln := h.nodes
  have hsm := h.rules
  have hsz := fun W hW => size_any A c net W hW h
  have H := Lib.hid h
  obtain ⟨S, hS⟩ : ∃ S, S = (net.map List.length).sum := ⟨_, rfl⟩
  rw [← hS] at hsm hsz
  have HSZ := Lib.hid hsz
  clear h hsz hS
  go_enter Tryz.func23, Tryz.ntmps23
  have hb0 : Below w.heap.size w (w.alloc (.cells #[.slice A net.length c] 24)) := (Below.refl _ _).alloc (Nat.le_refl _) _
  have hN0 := hN.below hb0
  have HN0 := Lib.hid hN0
  have HB0 := Lib.hid hb0
  clear hb0 hN0
  go_wp2_with fail
  refine (HSZ.out _ HN0.out).mono ?_
  rintro e w2 ⟨rfl, hb2⟩
  have hx := box_cell w w2 24 #[.slice A net.length c] hb2 0 _ rfl
  have hb2w := HB0.out.trans (hb2.mono HB0.out.size)
  have hN2 := hN.below hb2w
  have hgx : w.heap.size < w2.heap.size := by have := hb2.size; simp at this; omega
  clear hb2
  go_wp2_with fail
  go_loopw [18] (fun i wr => ∃ k : Nat, k ≤ net.length ∧ i = .int .i64 k ∧ Below w2.heap.size w2 wr) (fun i _ => net.length - (intOf i).toNat)
  case atStart => exact ⟨0, by omega, rfl, Below.refl _ _⟩
  case round =>
    obtain ⟨k, hk, rfl, hbr⟩ := hrel
    by_cases hlt : k < net.length
    · obtain ⟨b, off, B, c2, hAe, hb, hcell, hr, hc2, hc2'⟩ := (hN2.below hbr).at_ hlt
      have hxr := (hbr.cell (p := ⟨w.heap.size, 0, none⟩) hgx).trans hx
      have hmem := List.getElem_mem hlt
      have htm := fun W (hW : RulesAt W B net[k]) => tmay_any B c2 net[k] net.length W hW (H.out.table _ hmem) hln (H.out.few hmem)
      generalize net[k] = l at *
      have HTM := Lib.hid htm
      have HR := Lib.hid hr
      have HN := Lib.hid hN
      have HN2 := Lib.hid hN2
      clear htm hr hmem hN hN2 HN0
      subst hAe
      go_wp2_with fail
      refine (HTM.out _ HR.out).mono ?_
      rintro e w3 ⟨rfl, hb3⟩
      go_wp2_with fail
      refine ⟨⟨k + 1, by omega, by go_num, hbr.trans (hb3.mono hbr.size)⟩, by simp [intOf]; omega⟩
    · go_wp2_with fail
      go_ret
      exact ⟨rfl, hb2w.trans (hbr.mono hb2w.size)⟩
end Go.Proofs.YtpjoefekhgmlhaaGreat.Tp
