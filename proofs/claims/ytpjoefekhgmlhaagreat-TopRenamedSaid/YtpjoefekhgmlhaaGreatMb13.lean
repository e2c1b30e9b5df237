/- CONTRACT of rule.Put, of rules whose numbers fit. -/
import Derived.Test.YtpjoefekhgmlhaaGreatMb12
import Derived.Test.YtpjoefekhgmlhaaGreatMb10
import Derived.Deep.RegionHeld3
namespace Go.Proofs.YtpjoefekhgmlhaaGreat.Tp
open Go.RowKit Mem

/-- A rule's numbers fit. -/
structure RuleFits (r : RuleT) : Prop where
  a : r.a < 4294967296
  len : r.len < 256
  act : r.act < 256
  next : r.next < 65536
def ruleB (r : RuleT) : List Nat := be 4 r.a ++ be 1 r.len ++ be 1 r.act ++ be 2 r.next
theorem ruleB_len (r : RuleT) : (ruleB r).length = 8 := rfl
theorem ruleB_lt {r : RuleT} (h : RuleFits r) : ∀ b ∈ ruleB r, b < 256 := by
  intro b hb
  unfold ruleB at hb
  rcases List.mem_append.1 hb with hb | hb
  · rcases List.mem_append.1 hb with hb | hb
    · rcases List.mem_append.1 hb with hb | hb
      · exact be_lt (by omega) (by have := h.a; omega) b hb
      · exact be_lt (by omega) (by have := h.len; omega) b hb
    · exact be_lt (by omega) (by have := h.act; omega) b hb
  · exact be_lt (by omega) (by have := h.next; omega) b hb

theorem _root_.Go.Proofs.YtpjoefekhgmlhaaGreat.Mem.Lies.cell_at {w : World} {b off : Nat} {xs : List Value} (h : Lies w (some ⟨b, off, none⟩) xs) (i : Nat) (u : Value) (hu : xs[i]? = some u) : w.cell? ⟨b, off + i, none⟩ = some u := by
  obtain ⟨b', off', e, _, hc⟩ := h (by have := (List.getElem?_eq_some_iff.1 hu).1; omega)
  injection e with e
  injection e with e1 e2 _
  subst e1 e2
  exact hc i u hu
theorem below_drew {B : Nat} {a w : World} (h : Below B a w) : Below B a w.drew := ⟨h.os, h.tape, h.output, h.size, h.block⟩
/-- How many bytes k fields have. -/
def ruleN : Nat → Nat
  | 0 => 0
  | 1 => 4
  | 2 => 5
  | 3 => 6
  | _ => 8
set_option maxRecDepth 100000 in
set_option maxHeartbeats 2000000 in
theorem rput_any (r : RuleT) (h : RuleFits r) (w : World) : Calls Tryz.prog 68 #[rv r] w (VPost w (bytes (ruleB r)) 0) := by
  have hp4 : ∀ W, Calls Tryz.prog 105 #[.int .i64 (r.a : Int), .int .i64 4] W (VPost W (bytes (be 4 r.a)) 0) := fun W => put_any (size := 4) (n := r.a) (by omega) (by have := h.a; omega) W
  have hp1 : ∀ W, Calls Tryz.prog 105 #[.int .i64 (r.len : Int), .int .i64 1] W (VPost W (bytes (be 1 r.len)) 0) := fun W => put_any (size := 1) (n := r.len) (by omega) (by have := h.len; omega) W
  have hp2 : ∀ W, Calls Tryz.prog 105 #[.int .i64 (r.act : Int), .int .i64 1] W (VPost W (bytes (be 1 r.act)) 0) := fun W => put_any (size := 1) (n := r.act) (by omega) (by have := h.act; omega) W
  have hp3 : ∀ W, Calls Tryz.prog 105 #[.int .i64 (r.next : Int), .int .i64 2] W (VPost W (bytes (be 2 r.next)) 0) := fun W => put_any (size := 2) (n := r.next) (by omega) (by have := h.next; omega) W
  have hg1 := fun W => get1 r h.a W
  have hg2 := fun W => get2 r W
  have hg3 := fun W => get3 r W
  have hg4 := fun W => get4 r W
  have hmk : ∀ w, Sem.run Tryz.prog (Instr.makeSlice 45 (.int .i64 0) (.int .i64 8)) w = .ok (.slice (some ⟨w.heap.size, 0, none⟩) 0 8) (w.alloc (.cells (madeCells #[.int .u8 0] 8) 5)) := run_make_room (P := Tryz.prog) 45 5 (.int .u8 0) 1 Tryz.underlying45 byte_info rfl .i64 .i64 8 (by omega) (by omega)
  obtain ⟨wa, hwa⟩ : ∃ wa, wa = w.alloc (.cells #[.int .u32 (r.a : Int), .int .i64 (r.len : Int), .int .i64 (r.act : Int), .int .i64 (r.next : Int)] 43) := ⟨_, rfl⟩
  obtain ⟨wb, hwb⟩ : ∃ wb, wb = wa.alloc (.cells (madeCells #[.int .u8 0] 8) 5) := ⟨_, rfl⟩
  have sa : wa.heap.size = w.heap.size + 1 := by rw [hwa]; simp
  have hown : wb.ownsRow w.heap.size 5 1 (.slice (some ⟨w.heap.size + 1, 0, none⟩) 0 8) 0 (bytes []) := by
    rw [hwb, ← sa]
    exact World.ownsRow_made wa (madeCells #[.int .u8 0] 8) 8 (e := 5) (size := 1) (base := w.heap.size) (by omega) (by simp only [maxLen]; omega) (by simp [madeCells])
  have ba : Below w.heap.size w wa := by rw [hwa]; exact (Below.refl _ _).alloc (Nat.le_refl _) _
  have bb : Below w.heap.size w wb := by rw [hwb]; exact ba.alloc ba.size _
  have bc : Below wa.heap.size wa wb := by rw [hwb]; exact (Below.refl _ _).alloc (Nat.le_refl _) _
  have hz : ∀ i u, #[.int .u32 (r.a : Int), .int .i64 (r.len : Int), .int .i64 (r.act : Int), .int .i64 (r.next : Int)][i]? = some u → wb.cell? ⟨w.heap.size, i, none⟩ = some u := fun i u hu =>
    (bc.cell (p := ⟨w.heap.size, i, none⟩) (by rw [sa]; exact Nat.lt_succ_self _)).trans (by rw [hwa, cell_of_row _ _ i _ _ (0, 0) (heap_alloc_new w _)]; exact hu)
  have sb : wb.heap.size = w.heap.size + 2 := by rw [hwb]; simp [sa]
  have gb : w.heap.size < wb.heap.size := by rw [hwb]; simp [sa]; omega
  have hz0 : wb.cell? ⟨w.heap.size, 0, none⟩ = some (.int .u32 (r.a : Int)) := hz 0 _ rfl
  have hz1 : wb.cell? ⟨w.heap.size, 1, none⟩ = some (.int .i64 (r.len : Int)) := hz 1 _ rfl
  have hz2 : wb.cell? ⟨w.heap.size, 2, none⟩ = some (.int .i64 (r.act : Int)) := hz 2 _ rfl
  have hz3 : wb.cell? ⟨w.heap.size, 3, none⟩ = some (.int .i64 (r.next : Int)) := hz 3 _ rfl
  have hfs := fields_any wb
  rw [hwa] at hwb
  have HW := Lib.hid hwb
  have HFS := Lib.hid hfs
  have HO := Lib.hid hown
  have HBB := Lib.hid bb
  have HZ := Lib.hid (And.intro hz0 (And.intro hz1 (And.intro hz2 hz3)))
  have HP4 := Lib.hid hp4
  have HP1 := Lib.hid hp1
  have HP2 := Lib.hid hp2
  have HP3 := Lib.hid hp3
  have HG1 := Lib.hid hg1
  have HG2 := Lib.hid hg2
  have HG3 := Lib.hid hg3
  have HG4 := Lib.hid hg4
  clear hz0 hz1 hz2 hz3 hz hwb hfs hown bb ba bc hp4 hp1 hp2 hp3 hg1 hg2 hg3 hg4
  go_enter Tryz.func68, Tryz.ntmps68
  go_wp2_with fail
  rw [← HW.out]
  refine (HFS.out).mono ?_
  rintro e w2 ⟨g, rfl, hgn, hg, hfc, hb2⟩
  have hbw2 := HBB.out.trans (hb2.mono HBB.out.size)
  have hy0 := (hb2.cell (p := ⟨w.heap.size, 0, none⟩) gb).trans HZ.out.1
  have hy1 := (hb2.cell (p := ⟨w.heap.size, 1, none⟩) gb).trans HZ.out.2.1
  have hy2 := (hb2.cell (p := ⟨w.heap.size, 2, none⟩) gb).trans HZ.out.2.2.1
  have hy3 := (hb2.cell (p := ⟨w.heap.size, 3, none⟩) gb).trans HZ.out.2.2.2
  have g2 : w.heap.size < w2.heap.size := Nat.lt_of_lt_of_le gb hb2.size
  have hown2 := own_below HO.out hb2
  have HFC := Lib.hid hfc
  have HB2 := Lib.hid hbw2
  have HY := Lib.hid (And.intro hy0 (And.intro hy1 (And.intro hy2 hy3)))
  have HO2 := Lib.hid hown2
  clear hb2 hbw2 hfc hy0 hy1 hy2 hy3 hown2 HZ HO HFS HW HBB
  have HFL : Hid (Held w2 (Value.slice (some ⟨w.heap.size + 1, 0, none⟩) 0 8).ownBlock (some ⟨g, 0, none⟩) fieldsV) := Lib.hid ⟨fun _ => ⟨g, 0, rfl, hg, fun i u hu => by rw [Nat.zero_add]; exact HFC.out i u hu⟩, fun _ a ha e => by
    injection ha with ha
    injection e with e
    rw [← ha] at e
    exact absurd e (show w.heap.size + 1 ≠ g by omega)⟩
  have HRL : Hid (Held w2 (Value.slice (some ⟨w.heap.size + 1, 0, none⟩) 0 8).ownBlock (some ⟨w.heap.size, 0, none⟩) (rc r)) := Lib.hid ⟨fun _ => ⟨w.heap.size, 0, rfl, g2, fun i u hu => by
    rw [Nat.zero_add]
    match i with
    | 0 => simp at hu; subst hu; exact HY.out.1
    | 1 => simp at hu; subst hu; exact HY.out.2.1
    | 2 => simp at hu; subst hu; exact HY.out.2.2.1
    | 3 => simp at hu; subst hu; exact HY.out.2.2.2
    | _ + 4 => simp at hu⟩, fun _ a ha e => by
    injection ha with ha
    injection e with e
    rw [← ha] at e
    exact absurd e (show w.heap.size + 1 ≠ w.heap.size by omega)⟩
  go_wp2_with fail
  go_loopw [4, 12] (fun s i wr => ∃ k : Nat, k ≤ 4 ∧ i = .int .i64 k ∧ wr.ownsRow w.heap.size 5 1 s (ruleN k) (bytes ((ruleB r).take (ruleN k))) ∧ Below w.heap.size w wr ∧ Hid (Held wr s.ownBlock (some ⟨g, 0, none⟩) fieldsV) ∧ Hid (Held wr s.ownBlock (some ⟨w.heap.size, 0, none⟩) (rc r))) (fun _ i _ => 4 - (intOf i).toNat)
  case atStart => exact ⟨0, by omega, rfl, HO2.out, HB2.out, HFL, HRL⟩
  case round =>
    obtain ⟨k, hk, rfl, hown, hbr, HF, HR⟩ := hrel
    obtain ⟨A5, m5, rfl, hm1, hm2⟩ := own_form hown
    by_cases hlt : k < 4
    · have hr0 := HR.out.lies.cell_at 0 _ rfl
      have hr1 := HR.out.lies.cell_at 1 _ rfl
      have hr2 := HR.out.lies.cell_at 2 _ rfl
      have hr3 := HR.out.lies.cell_at 3 _ rfl
      simp only [Nat.zero_add] at hr0 hr1 hr2 hr3
      have gr : w.heap.size < wr.heap.size := block_lt_of_cell hr0
      have gr : w.heap.size < wr.heap.size := block_lt_of_cell hr0
      have hk4 : k = 0 ∨ k = 1 ∨ k = 2 ∨ k = 3 := by omega
      rcases hk4 with rfl | rfl | rfl | rfl
      · have hf0 := HF.out.lies.cell_at 0 _ rfl
        have hf1 := HF.out.lies.cell_at 1 _ rfl
        have hf2 := HF.out.lies.cell_at 2 _ rfl
        simp only [Nat.zero_add] at hf0 hf1 hf2
        obtain ⟨w3, hw3⟩ : ∃ w3, w3 = wr.alloc (.cells #[.int .i64 4, .func (.func 124) #[] #[], .func (.func 125) #[] #[]] 182) := ⟨_, rfl⟩
        have h3 : Below wr.heap.size wr w3 := by rw [hw3]; exact (Below.refl _ _).alloc (Nat.le_refl _) _
        have s3 : wr.heap.size < w3.heap.size := by rw [hw3]; simp
        have q0 : w3.cell? ⟨wr.heap.size, 0, none⟩ = some (.int .i64 4) := by rw [hw3, cell_of_row _ _ 0 _ _ (0, 0) (heap_alloc_new wr _)]; rfl
        have q1 : w3.cell? ⟨wr.heap.size, 1, none⟩ = some (.func (.func 124) #[] #[]) := by rw [hw3, cell_of_row _ _ 1 _ _ (0, 0) (heap_alloc_new wr _)]; rfl
        have q2 := (h3.cell (p := ⟨w.heap.size, 0, none⟩) gr).trans hr0
        have q3 := (h3.cell (p := ⟨w.heap.size, 1, none⟩) gr).trans hr1
        have q4 := (h3.cell (p := ⟨w.heap.size, 2, none⟩) gr).trans hr2
        have q5 := (h3.cell (p := ⟨w.heap.size, 3, none⟩) gr).trans hr3
        have g3 : w.heap.size < w3.heap.size := Nat.lt_trans gr s3
        have KS : Hid (∀ W, Below w3.heap.size w3 W → Below w3.heap.size w3 W ∧ W.cell? ⟨wr.heap.size, 0, none⟩ = some (.int .i64 4) ∧ W.cell? ⟨wr.heap.size, 1, none⟩ = some (.func (.func 124) #[] #[]) ∧ W.cell? ⟨w.heap.size, 0, none⟩ = some (.int .u32 (r.a : Int)) ∧ W.cell? ⟨w.heap.size, 1, none⟩ = some (.int .i64 (r.len : Int)) ∧ W.cell? ⟨w.heap.size, 2, none⟩ = some (.int .i64 (r.act : Int)) ∧ W.cell? ⟨w.heap.size, 3, none⟩ = some (.int .i64 (r.next : Int))) :=
          Lib.hid fun W hW => ⟨hW, (hW.cell (p := ⟨wr.heap.size, 0, none⟩) s3).trans q0, (hW.cell (p := ⟨wr.heap.size, 1, none⟩) s3).trans q1, (hW.cell (p := ⟨w.heap.size, 0, none⟩) g3).trans q2, (hW.cell (p := ⟨w.heap.size, 1, none⟩) g3).trans q3, (hW.cell (p := ⟨w.heap.size, 2, none⟩) g3).trans q4, (hW.cell (p := ⟨w.heap.size, 3, none⟩) g3).trans q5⟩
        have H3 := Lib.hid h3
        have HW3 := Lib.hid hw3
        have HBR := Lib.hid hbr
        have HOWN := Lib.hid hown
        clear q0 q1 q2 q3 q4 q5 h3 hw3 hbr hown
        go_wp2_with fail
        rw [← HW3.out]
        clear hr0 hr1 hr2 hr3 hf0 hf1 hf2 hmk
        go_region_held3 (fun W => Below w3.heap.size w3 W ∧ W.cell? ⟨wr.heap.size, 0, none⟩ = some (.int .i64 4) ∧ W.cell? ⟨wr.heap.size, 1, none⟩ = some (.func (.func 124) #[] #[]) ∧ W.cell? ⟨w.heap.size, 0, none⟩ = some (.int .u32 (r.a : Int)) ∧ W.cell? ⟨w.heap.size, 1, none⟩ = some (.int .i64 (r.len : Int)) ∧ W.cell? ⟨w.heap.size, 2, none⟩ = some (.int .i64 (r.act : Int)) ∧ W.cell? ⟨w.heap.size, 3, none⟩ = some (.int .i64 (r.next : Int)))
          (first | exact KS.out _ (below_drew (Below.refl _ _)) | exact KS.out _ ((below_drew (Below.refl _ _)).trans hb4) | exact KS.out _ ((below_drew (Below.refl _ _)).trans (hb4.trans (hb5.mono hb4.size))))
          (first | (go_at_call 124; refine (HG1.out _).mono ?_; rintro e w4 ⟨rfl, hb4⟩) | (go_at_call 105; refine (HP4.out _).mono ?_; rintro e w5 ⟨R5, c5, rfl, hL5, hb5, _, _⟩))
        have hbq : Below w3.heap.size w3 w5 := (below_drew (Below.refl _ _)).trans (hb4.trans (hb5.mono hb4.size))
        have hbq2 : Below wr.heap.size wr w5 := H3.out.trans (hbq.mono H3.out.size)
        have hown5 := own_below HOWN.out hbq2
        have hb5w := HBR.out.trans (hbq2.mono HBR.out.size)
        have hln : (be 4 r.a).length = 4 := rfl
        rw [hln]
        have HF5 := Lib.hid (HF.out.below hbq2)
        have HR5 := Lib.hid (HR.out.below hbq2)
        have HB5 := Lib.hid hb5w
        have HL5 := Lib.hid hL5
        clear hbq hbq2 hb4 hb5 hb5w hL5 hln HF HR H3 HOWN HW3 KS
        go_wp2_with (at_builtin; refine wpList_appN rfl (.tmp 29) (.tmp 30) _ rfl Tryz.underlying45 byte_info rfl (by omega) (by omega) w w5 HB5.out _ _ _ _ rfl hown5 R5 4 c5 _ rfl rfl HL5.out (bytes_one _) (by simp only [ruleN]; omega) ?_; intro S6 c6 w6 hown6 hc6 hc6' hb6 hg6 hat6)
        refine ⟨⟨1, by omega, rfl, hown6, hb6, Lib.hid (HF5.out.step hg6 hat6), Lib.hid (HR5.out.step hg6 hat6)⟩, by simp [intOf]⟩
      · have hf0 := HF.out.lies.cell_at 3 _ rfl
        have hf1 := HF.out.lies.cell_at 4 _ rfl
        have hf2 := HF.out.lies.cell_at 5 _ rfl
        simp only [Nat.zero_add] at hf0 hf1 hf2
        obtain ⟨w3, hw3⟩ : ∃ w3, w3 = wr.alloc (.cells #[.int .i64 1, .func (.func 126) #[] #[], .func (.func 127) #[] #[]] 182) := ⟨_, rfl⟩
        have h3 : Below wr.heap.size wr w3 := by rw [hw3]; exact (Below.refl _ _).alloc (Nat.le_refl _) _
        have s3 : wr.heap.size < w3.heap.size := by rw [hw3]; simp
        have q0 : w3.cell? ⟨wr.heap.size, 0, none⟩ = some (.int .i64 1) := by rw [hw3, cell_of_row _ _ 0 _ _ (0, 0) (heap_alloc_new wr _)]; rfl
        have q1 : w3.cell? ⟨wr.heap.size, 1, none⟩ = some (.func (.func 126) #[] #[]) := by rw [hw3, cell_of_row _ _ 1 _ _ (0, 0) (heap_alloc_new wr _)]; rfl
        have q2 := (h3.cell (p := ⟨w.heap.size, 0, none⟩) gr).trans hr0
        have q3 := (h3.cell (p := ⟨w.heap.size, 1, none⟩) gr).trans hr1
        have q4 := (h3.cell (p := ⟨w.heap.size, 2, none⟩) gr).trans hr2
        have q5 := (h3.cell (p := ⟨w.heap.size, 3, none⟩) gr).trans hr3
        have g3 : w.heap.size < w3.heap.size := Nat.lt_trans gr s3
        have KS : Hid (∀ W, Below w3.heap.size w3 W → Below w3.heap.size w3 W ∧ W.cell? ⟨wr.heap.size, 0, none⟩ = some (.int .i64 1) ∧ W.cell? ⟨wr.heap.size, 1, none⟩ = some (.func (.func 126) #[] #[]) ∧ W.cell? ⟨w.heap.size, 0, none⟩ = some (.int .u32 (r.a : Int)) ∧ W.cell? ⟨w.heap.size, 1, none⟩ = some (.int .i64 (r.len : Int)) ∧ W.cell? ⟨w.heap.size, 2, none⟩ = some (.int .i64 (r.act : Int)) ∧ W.cell? ⟨w.heap.size, 3, none⟩ = some (.int .i64 (r.next : Int))) :=
          Lib.hid fun W hW => ⟨hW, (hW.cell (p := ⟨wr.heap.size, 0, none⟩) s3).trans q0, (hW.cell (p := ⟨wr.heap.size, 1, none⟩) s3).trans q1, (hW.cell (p := ⟨w.heap.size, 0, none⟩) g3).trans q2, (hW.cell (p := ⟨w.heap.size, 1, none⟩) g3).trans q3, (hW.cell (p := ⟨w.heap.size, 2, none⟩) g3).trans q4, (hW.cell (p := ⟨w.heap.size, 3, none⟩) g3).trans q5⟩
        have H3 := Lib.hid h3
        have HW3 := Lib.hid hw3
        have HBR := Lib.hid hbr
        have HOWN := Lib.hid hown
        clear q0 q1 q2 q3 q4 q5 h3 hw3 hbr hown
        go_wp2_with fail
        rw [← HW3.out]
        clear hr0 hr1 hr2 hr3 hf0 hf1 hf2 hmk
        go_region_held3 (fun W => Below w3.heap.size w3 W ∧ W.cell? ⟨wr.heap.size, 0, none⟩ = some (.int .i64 1) ∧ W.cell? ⟨wr.heap.size, 1, none⟩ = some (.func (.func 126) #[] #[]) ∧ W.cell? ⟨w.heap.size, 0, none⟩ = some (.int .u32 (r.a : Int)) ∧ W.cell? ⟨w.heap.size, 1, none⟩ = some (.int .i64 (r.len : Int)) ∧ W.cell? ⟨w.heap.size, 2, none⟩ = some (.int .i64 (r.act : Int)) ∧ W.cell? ⟨w.heap.size, 3, none⟩ = some (.int .i64 (r.next : Int)))
          (first | exact KS.out _ (below_drew (Below.refl _ _)) | exact KS.out _ ((below_drew (Below.refl _ _)).trans hb4) | exact KS.out _ ((below_drew (Below.refl _ _)).trans (hb4.trans (hb5.mono hb4.size))))
          (first | (go_at_call 126; refine (HG2.out _).mono ?_; rintro e w4 ⟨rfl, hb4⟩) | (go_at_call 105; refine (HP1.out _).mono ?_; rintro e w5 ⟨R5, c5, rfl, hL5, hb5, _, _⟩))
        have hbq : Below w3.heap.size w3 w5 := (below_drew (Below.refl _ _)).trans (hb4.trans (hb5.mono hb4.size))
        have hbq2 : Below wr.heap.size wr w5 := H3.out.trans (hbq.mono H3.out.size)
        have hown5 := own_below HOWN.out hbq2
        have hb5w := HBR.out.trans (hbq2.mono HBR.out.size)
        have hln : (be 1 r.len).length = 1 := rfl
        rw [hln]
        have HF5 := Lib.hid (HF.out.below hbq2)
        have HR5 := Lib.hid (HR.out.below hbq2)
        have HB5 := Lib.hid hb5w
        have HL5 := Lib.hid hL5
        clear hbq hbq2 hb4 hb5 hb5w hL5 hln HF HR H3 HOWN HW3 KS
        go_wp2_with (at_builtin; refine wpList_appN rfl (.tmp 29) (.tmp 30) _ rfl Tryz.underlying45 byte_info rfl (by omega) (by omega) w w5 HB5.out _ _ _ _ rfl hown5 R5 1 c5 _ rfl rfl HL5.out (bytes_one _) (by simp only [ruleN]; omega) ?_; intro S6 c6 w6 hown6 hc6 hc6' hb6 hg6 hat6)
        refine ⟨⟨2, by omega, rfl, hown6, hb6, Lib.hid (HF5.out.step hg6 hat6), Lib.hid (HR5.out.step hg6 hat6)⟩, by simp [intOf]⟩
      · have hf0 := HF.out.lies.cell_at 6 _ rfl
        have hf1 := HF.out.lies.cell_at 7 _ rfl
        have hf2 := HF.out.lies.cell_at 8 _ rfl
        simp only [Nat.zero_add] at hf0 hf1 hf2
        obtain ⟨w3, hw3⟩ : ∃ w3, w3 = wr.alloc (.cells #[.int .i64 1, .func (.func 128) #[] #[], .func (.func 129) #[] #[]] 182) := ⟨_, rfl⟩
        have h3 : Below wr.heap.size wr w3 := by rw [hw3]; exact (Below.refl _ _).alloc (Nat.le_refl _) _
        have s3 : wr.heap.size < w3.heap.size := by rw [hw3]; simp
        have q0 : w3.cell? ⟨wr.heap.size, 0, none⟩ = some (.int .i64 1) := by rw [hw3, cell_of_row _ _ 0 _ _ (0, 0) (heap_alloc_new wr _)]; rfl
        have q1 : w3.cell? ⟨wr.heap.size, 1, none⟩ = some (.func (.func 128) #[] #[]) := by rw [hw3, cell_of_row _ _ 1 _ _ (0, 0) (heap_alloc_new wr _)]; rfl
        have q2 := (h3.cell (p := ⟨w.heap.size, 0, none⟩) gr).trans hr0
        have q3 := (h3.cell (p := ⟨w.heap.size, 1, none⟩) gr).trans hr1
        have q4 := (h3.cell (p := ⟨w.heap.size, 2, none⟩) gr).trans hr2
        have q5 := (h3.cell (p := ⟨w.heap.size, 3, none⟩) gr).trans hr3
        have g3 : w.heap.size < w3.heap.size := Nat.lt_trans gr s3
        have KS : Hid (∀ W, Below w3.heap.size w3 W → Below w3.heap.size w3 W ∧ W.cell? ⟨wr.heap.size, 0, none⟩ = some (.int .i64 1) ∧ W.cell? ⟨wr.heap.size, 1, none⟩ = some (.func (.func 128) #[] #[]) ∧ W.cell? ⟨w.heap.size, 0, none⟩ = some (.int .u32 (r.a : Int)) ∧ W.cell? ⟨w.heap.size, 1, none⟩ = some (.int .i64 (r.len : Int)) ∧ W.cell? ⟨w.heap.size, 2, none⟩ = some (.int .i64 (r.act : Int)) ∧ W.cell? ⟨w.heap.size, 3, none⟩ = some (.int .i64 (r.next : Int))) :=
          Lib.hid fun W hW => ⟨hW, (hW.cell (p := ⟨wr.heap.size, 0, none⟩) s3).trans q0, (hW.cell (p := ⟨wr.heap.size, 1, none⟩) s3).trans q1, (hW.cell (p := ⟨w.heap.size, 0, none⟩) g3).trans q2, (hW.cell (p := ⟨w.heap.size, 1, none⟩) g3).trans q3, (hW.cell (p := ⟨w.heap.size, 2, none⟩) g3).trans q4, (hW.cell (p := ⟨w.heap.size, 3, none⟩) g3).trans q5⟩
        have H3 := Lib.hid h3
        have HW3 := Lib.hid hw3
        have HBR := Lib.hid hbr
        have HOWN := Lib.hid hown
        clear q0 q1 q2 q3 q4 q5 h3 hw3 hbr hown
        go_wp2_with fail
        rw [← HW3.out]
        clear hr0 hr1 hr2 hr3 hf0 hf1 hf2 hmk
        go_region_held3 (fun W => Below w3.heap.size w3 W ∧ W.cell? ⟨wr.heap.size, 0, none⟩ = some (.int .i64 1) ∧ W.cell? ⟨wr.heap.size, 1, none⟩ = some (.func (.func 128) #[] #[]) ∧ W.cell? ⟨w.heap.size, 0, none⟩ = some (.int .u32 (r.a : Int)) ∧ W.cell? ⟨w.heap.size, 1, none⟩ = some (.int .i64 (r.len : Int)) ∧ W.cell? ⟨w.heap.size, 2, none⟩ = some (.int .i64 (r.act : Int)) ∧ W.cell? ⟨w.heap.size, 3, none⟩ = some (.int .i64 (r.next : Int)))
          (first | exact KS.out _ (below_drew (Below.refl _ _)) | exact KS.out _ ((below_drew (Below.refl _ _)).trans hb4) | exact KS.out _ ((below_drew (Below.refl _ _)).trans (hb4.trans (hb5.mono hb4.size))))
          (first | (go_at_call 128; refine (HG3.out _).mono ?_; rintro e w4 ⟨rfl, hb4⟩) | (go_at_call 105; refine (HP2.out _).mono ?_; rintro e w5 ⟨R5, c5, rfl, hL5, hb5, _, _⟩))
        have hbq : Below w3.heap.size w3 w5 := (below_drew (Below.refl _ _)).trans (hb4.trans (hb5.mono hb4.size))
        have hbq2 : Below wr.heap.size wr w5 := H3.out.trans (hbq.mono H3.out.size)
        have hown5 := own_below HOWN.out hbq2
        have hb5w := HBR.out.trans (hbq2.mono HBR.out.size)
        have hln : (be 1 r.act).length = 1 := rfl
        rw [hln]
        have HF5 := Lib.hid (HF.out.below hbq2)
        have HR5 := Lib.hid (HR.out.below hbq2)
        have HB5 := Lib.hid hb5w
        have HL5 := Lib.hid hL5
        clear hbq hbq2 hb4 hb5 hb5w hL5 hln HF HR H3 HOWN HW3 KS
        go_wp2_with (at_builtin; refine wpList_appN rfl (.tmp 29) (.tmp 30) _ rfl Tryz.underlying45 byte_info rfl (by omega) (by omega) w w5 HB5.out _ _ _ _ rfl hown5 R5 1 c5 _ rfl rfl HL5.out (bytes_one _) (by simp only [ruleN]; omega) ?_; intro S6 c6 w6 hown6 hc6 hc6' hb6 hg6 hat6)
        refine ⟨⟨3, by omega, rfl, hown6, hb6, Lib.hid (HF5.out.step hg6 hat6), Lib.hid (HR5.out.step hg6 hat6)⟩, by simp [intOf]⟩
      · have hf0 := HF.out.lies.cell_at 9 _ rfl
        have hf1 := HF.out.lies.cell_at 10 _ rfl
        have hf2 := HF.out.lies.cell_at 11 _ rfl
        simp only [Nat.zero_add] at hf0 hf1 hf2
        obtain ⟨w3, hw3⟩ : ∃ w3, w3 = wr.alloc (.cells #[.int .i64 2, .func (.func 130) #[] #[], .func (.func 131) #[] #[]] 182) := ⟨_, rfl⟩
        have h3 : Below wr.heap.size wr w3 := by rw [hw3]; exact (Below.refl _ _).alloc (Nat.le_refl _) _
        have s3 : wr.heap.size < w3.heap.size := by rw [hw3]; simp
        have q0 : w3.cell? ⟨wr.heap.size, 0, none⟩ = some (.int .i64 2) := by rw [hw3, cell_of_row _ _ 0 _ _ (0, 0) (heap_alloc_new wr _)]; rfl
        have q1 : w3.cell? ⟨wr.heap.size, 1, none⟩ = some (.func (.func 130) #[] #[]) := by rw [hw3, cell_of_row _ _ 1 _ _ (0, 0) (heap_alloc_new wr _)]; rfl
        have q2 := (h3.cell (p := ⟨w.heap.size, 0, none⟩) gr).trans hr0
        have q3 := (h3.cell (p := ⟨w.heap.size, 1, none⟩) gr).trans hr1
        have q4 := (h3.cell (p := ⟨w.heap.size, 2, none⟩) gr).trans hr2
        have q5 := (h3.cell (p := ⟨w.heap.size, 3, none⟩) gr).trans hr3
        have g3 : w.heap.size < w3.heap.size := Nat.lt_trans gr s3
        have KS : Hid (∀ W, Below w3.heap.size w3 W → Below w3.heap.size w3 W ∧ W.cell? ⟨wr.heap.size, 0, none⟩ = some (.int .i64 2) ∧ W.cell? ⟨wr.heap.size, 1, none⟩ = some (.func (.func 130) #[] #[]) ∧ W.cell? ⟨w.heap.size, 0, none⟩ = some (.int .u32 (r.a : Int)) ∧ W.cell? ⟨w.heap.size, 1, none⟩ = some (.int .i64 (r.len : Int)) ∧ W.cell? ⟨w.heap.size, 2, none⟩ = some (.int .i64 (r.act : Int)) ∧ W.cell? ⟨w.heap.size, 3, none⟩ = some (.int .i64 (r.next : Int))) :=
          Lib.hid fun W hW => ⟨hW, (hW.cell (p := ⟨wr.heap.size, 0, none⟩) s3).trans q0, (hW.cell (p := ⟨wr.heap.size, 1, none⟩) s3).trans q1, (hW.cell (p := ⟨w.heap.size, 0, none⟩) g3).trans q2, (hW.cell (p := ⟨w.heap.size, 1, none⟩) g3).trans q3, (hW.cell (p := ⟨w.heap.size, 2, none⟩) g3).trans q4, (hW.cell (p := ⟨w.heap.size, 3, none⟩) g3).trans q5⟩
        have H3 := Lib.hid h3
        have HW3 := Lib.hid hw3
        have HBR := Lib.hid hbr
        have HOWN := Lib.hid hown
        clear q0 q1 q2 q3 q4 q5 h3 hw3 hbr hown
        go_wp2_with fail
        rw [← HW3.out]
        clear hr0 hr1 hr2 hr3 hf0 hf1 hf2 hmk
        go_region_held3 (fun W => Below w3.heap.size w3 W ∧ W.cell? ⟨wr.heap.size, 0, none⟩ = some (.int .i64 2) ∧ W.cell? ⟨wr.heap.size, 1, none⟩ = some (.func (.func 130) #[] #[]) ∧ W.cell? ⟨w.heap.size, 0, none⟩ = some (.int .u32 (r.a : Int)) ∧ W.cell? ⟨w.heap.size, 1, none⟩ = some (.int .i64 (r.len : Int)) ∧ W.cell? ⟨w.heap.size, 2, none⟩ = some (.int .i64 (r.act : Int)) ∧ W.cell? ⟨w.heap.size, 3, none⟩ = some (.int .i64 (r.next : Int)))
          (first | exact KS.out _ (below_drew (Below.refl _ _)) | exact KS.out _ ((below_drew (Below.refl _ _)).trans hb4) | exact KS.out _ ((below_drew (Below.refl _ _)).trans (hb4.trans (hb5.mono hb4.size))))
          (first | (go_at_call 130; refine (HG4.out _).mono ?_; rintro e w4 ⟨rfl, hb4⟩) | (go_at_call 105; refine (HP3.out _).mono ?_; rintro e w5 ⟨R5, c5, rfl, hL5, hb5, _, _⟩))
        have hbq : Below w3.heap.size w3 w5 := (below_drew (Below.refl _ _)).trans (hb4.trans (hb5.mono hb4.size))
        have hbq2 : Below wr.heap.size wr w5 := H3.out.trans (hbq.mono H3.out.size)
        have hown5 := own_below HOWN.out hbq2
        have hb5w := HBR.out.trans (hbq2.mono HBR.out.size)
        have hln : (be 2 r.next).length = 2 := rfl
        rw [hln]
        have HF5 := Lib.hid (HF.out.below hbq2)
        have HR5 := Lib.hid (HR.out.below hbq2)
        have HB5 := Lib.hid hb5w
        have HL5 := Lib.hid hL5
        clear hbq hbq2 hb4 hb5 hb5w hL5 hln HF HR H3 HOWN HW3 KS
        go_wp2_with (at_builtin; refine wpList_appN rfl (.tmp 29) (.tmp 30) _ rfl Tryz.underlying45 byte_info rfl (by omega) (by omega) w w5 HB5.out _ _ _ _ rfl hown5 R5 2 c5 _ rfl rfl HL5.out (bytes_one _) (by simp only [ruleN]; omega) ?_; intro S6 c6 w6 hown6 hc6 hc6' hb6 hg6 hat6)
        refine ⟨⟨4, by omega, rfl, hown6, hb6, Lib.hid (HF5.out.step hg6 hat6), Lib.hid (HR5.out.step hg6 hat6)⟩, by simp [intOf]⟩
    · obtain rfl : k = 4 := by omega
      go_wp2_with fail
      go_ret2
      exact ⟨A5, m5, rfl, .of_own hown, hbr, hm1, hm2⟩
end Go.Proofs.YtpjoefekhgmlhaaGreat.Tp
