/- CONTRACTS: slices.Index, slices.Clone (of ints), analyze.Ranks. Conditions: what is looked for is there; rows of one at least; every vector ranked. -/
import Derived.Test.YtpjoefekhgmlhaaGreatMb27
import Derived.Test.YtpjoefekhgmlhaaGreatMb34
namespace Go.Proofs.YtpjoefekhgmlhaaGreat.Tp
open Go.RowKit Mem

set_option maxRecDepth 100000 in
theorem sindex_any (A : Option Addr) (c x : Nat) (l : List Nat) (w : World) (hA : Lies w A (nums l)) (hx : x ∈ l) (hl : l.length ≤ 1000000) :
    Calls Tryz.prog 20 #[.slice A l.length c, .int .i64 (x : Int)] w fun e w' => e = .returned (.int .i64 ((l.idxOf x : Nat) : Int)) ∧ w = w' := by
  have hA' : Lies w A (l.map fun n : Nat => Value.int .i64 (n : Int)) := hA
  have HA := Lib.hid hA'
  have HX := Lib.hid hx
  clear hA hA' hx
  go_enter Tryz.func20, Tryz.ntmps20
  go_wp2_with fail
  go_loopw [8] (fun i wr => ∃ k : Nat, k ≤ l.length ∧ i = .int .i64 k ∧ Hid (∀ j (hj : j < l.length), j < k → l[j] ≠ x) ∧ Hid (w = wr)) (fun i _ => l.length - (intOf i).toNat)
  case atStart => exact ⟨0, by omega, rfl, Lib.hid (fun j hj h => absurd h (by omega)), Lib.hid rfl⟩
  case round =>
    obtain ⟨k, hk, rfl, HN, HW⟩ := hrel
    obtain rfl := HW.out
    by_cases hlt : k < l.length
    · obtain ⟨b, off, hAe, hbb, hk0⟩ := Lies.at_map HA.out hlt
      obtain ⟨y, hy⟩ : ∃ y, y = l[k] := ⟨_, rfl⟩
      rw [← hy] at hk0
      by_cases he : y = x
      · have t : ((x : Int) == (y : Int)) = true := by simp [he]
        have hio : l.idxOf x = k := by
          have h1 : l[k] = x := by rw [← hy]; exact he
          rcases Nat.lt_trichotomy (l.idxOf x) k with h2 | h2 | h2
          · exact absurd (List.getElem_idxOf (List.idxOf_lt_length_of_mem HX.out)) (HN.out _ _ h2)
          · exact h2
          · have := List.not_of_lt_findIdx (p := (· == x)) (xs := l) (i := k) h2
            simp [h1] at this
        have HIO := Lib.hid hio
        clear hio hy he
        subst hAe
        go_wp2_with fail
        go_ret
        exact ⟨by rw [HIO.out]; rfl, rfl⟩
      · have t : ((x : Int) == (y : Int)) = false := by rw [beq_eq_false_iff_ne]; omega
        have hn' : ∀ j (hj : j < l.length), j < k + 1 → l[j] ≠ x := fun j hj hjk => by
          by_cases ej : j = k
          · subst ej; rw [← hy]; exact he
          · exact HN.out j hj (by omega)
        have HN' := Lib.hid hn'
        clear hn' hy he
        subst hAe
        go_wp2_with fail
        refine ⟨⟨k + 1, by omega, by go_num, HN', Lib.hid trivial⟩, by simp [intOf]; omega⟩
    · exfalso
      have h2 := List.idxOf_lt_length_of_mem HX.out
      exact HN.out _ h2 (by omega) (List.getElem_idxOf h2)
theorem eql_some {P : Program} (t e : TypeId) (w : World) (a : Addr) (l c : Nat) (h : P.underlying t = some (.slice e)) : (binOp .eql t (.slice (some a) l c) (.slice none 0 0)).run P w = .ok (.bool false) w := by
  simp only [binOp]
  simp [run_equal_slice_nil w t e (some a) l c h]
set_option maxRecDepth 100000 in
set_option maxHeartbeats 1000000 in
theorem sclone_any (A : Option Addr) (c : Nat) (l : List Int) (w : World) (hA : Lies w A (Gr.ints l)) (hpos : 0 < l.length) (hl : l.length ≤ 1000000) :
    Calls Tryz.prog 22 #[.slice A l.length c] w (VecPost w l) := by
  obtain ⟨b, off, hAe, hbb, -⟩ := Lies.at_map hA hpos
  have hA1 := Lib.hid (hA.below (bal w (.cells #[] 3)))
  obtain ⟨i0, hi, hz0, hz1, hz2⟩ := info_parts Gr.int_info
  have hown := World.ownsRow_lit (e := 3) (size := 1) (base := w.heap.size) w #[] 0 (Nat.le_refl _) (by unfold maxLen; omega) rfl
  have hb1 := bal w (.cells #[] 3)
  have HB1 := Lib.hid hb1
  have heq := eql_some 29 3 (P := Tryz.prog) w ⟨b, off, none⟩ l.length c Tryz.underlying29
  clear hA hb1
  subst hAe
  go_enter Tryz.func22, Tryz.ntmps22
  go_wp2_with (at_builtin; refine wpList_append_lies _ rfl (.tmp 5) (.tmp 6) _ rfl w.heap.size 3 i0 _ 1 8 Tryz.underlying29 hi hz0 hz1 hz2 rfl (by omega) (.slice (some ⟨w.heap.size, 0, none⟩) 0 0) 0 _ rfl hown _ l.length c _ rfl (by simp) hA1.out (by intro u hu; obtain ⟨n, _, rfl⟩ := List.mem_map.1 hu; rfl) (by simp only [maxLen]; omega) (by omega) (Nat.le_of_lt (by simp)) ?_; intro v2 w2 hO2 hg2 hat2; obtain ⟨S2, c2, rfl, hc2, hc2'⟩ := own_form hO2)
  go_ret
  rw [List.nil_append] at hO2
  rw [Nat.zero_add] at hO2 hc2
  exact ⟨S2, c2, rfl, .of_own hO2, HB1.out.grown hg2 HB1.out.size (fun g hg => by injection hg with hg; exact Nat.le_of_eq hg), new_of hO2, hc2, hc2'⟩
/-- All rows of ranks, each of its vector. -/
def ranksV (V : List (List Int)) : List (List Int) := V.map Gr.ranksL
def RanksAllPost (w : World) (V : List (List Int)) (e : Ending) (w' : World) : Prop := ∃ R m rows, e = .returned (.tuple #[.slice R V.length m, .int .i64 0]) ∧ Lies w' R rows ∧ VecsAt 0 w' (fun _ => False) rows (ranksV V) ∧ Below w.heap.size w w'
set_option maxRecDepth 100000 in
set_option maxHeartbeats 4000000 in
theorem aranks_any (F H V : Option Addr) (cf ch cv : Nat) (s : AtS) (w : World) (hA : AtomsAt w F H V s) (he : ∀ v ∈ s.V, Gr.errno v = 0) (hr : ∀ v ∈ s.V, Gr.allRanked v = true) (hl : s.V.length ≤ 100000) :
    Calls Tryz.prog 21 #[atomsV F H V s.F.length s.H.length s.V.length cf ch cv] w (RanksAllPost w s.V) := by
  obtain ⟨w1, hw1⟩ : ∃ w1, w1 = w.alloc (.cells #[.slice F s.F.length cf, .slice H s.H.length ch, .slice V s.V.length cv] 58) := ⟨_, rfl⟩
  have hb1 : Below w.heap.size w w1 := by rw [hw1]; exact bal _ _
  have hr1 : VRow w1 w.heap.size [.slice F s.F.length cf, .slice H s.H.length ch, .slice V s.V.length cv] := by rw [hw1]; exact VRow.new w #[.slice F s.F.length cf, .slice H s.H.length ch, .slice V s.V.length cv] _
  have hx2 := (hr1.get (i := 2) rfl).1
  have hmk := run_make_room (P := Tryz.prog) 56 29 (.slice none 0 0) 24 Tryz.underlying56 vecs_info rfl .i64 .i64 s.V.length (by omega) (by omega)
  have hmown := World.ownsRow_made w1 (madeCells #[.slice none 0 0] s.V.length) s.V.length (e := 29) (size := 1) (base := w1.heap.size) (Nat.le_refl _) (by simp only [maxLen]; omega) (by simp [madeCells])
  obtain ⟨mk, hmkd⟩ : ∃ mk, mk = Obj.cells (madeCells #[.slice none 0 0] s.V.length) 29 := ⟨_, rfl⟩
  rw [← hmkd] at hmk hmown
  have hb2 := bal w1 mk
  have hx2' := (hb2.cell (p := ⟨w.heap.size, 2, none⟩) hr1.lt).trans hx2
  rw [hw1] at hx2 hx2'
  obtain ⟨w2, hw2⟩ : ∃ w2, w2 = w1.alloc mk := ⟨_, rfl⟩
  rw [← hw2] at hmown hb2
  rw [hw1] at hw2
  have hbw := hb1.trans (hb2.mono hb1.size)
  obtain ⟨hF, hH, rows, hV, hrows⟩ := hA
  obtain ⟨nV, hnV⟩ : ∃ nV, nV = s.V.length := ⟨_, rfl⟩
  rw [← hnV] at hx2 hx2' hmk hmown hl ⊢
  have HW2 := Lib.hid hw2
  have HV := Lib.hid hV
  have HROWS := Lib.hid hrows
  have HOWN := Lib.hid hmown
  have HBW := Lib.hid hbw
  have HE := Lib.hid he
  have HR := Lib.hid hr
  have HNV := Lib.hid hnV
  have HB1 := Lib.hid hb1
  have S1 : Hid (w1.heap.size = w.heap.size + 1) := Lib.hid (by rw [hw1]; simp)
  obtain ⟨iV, hiV, hV0, hV1, hV2⟩ := info_parts vecs_info
  rw [← hnV] at HW2
  generalize s.F.length = nF at *
  generalize s.H.length = nH at *
  clear hw1 hb1 hr1 hmkd hb2 hw2 hbw hF hH hV hrows hmown he hr hnV
  go_enter Tryz.func21, Tryz.ntmps21
  go_wp2_with fail
  rw [← HW2.out]
  clear hmk hx2 hx2' HW2
  go_loopw [4, 16] (fun s4 i wr => ∃ (k : Nat) (S : Option Addr) (cp : Nat) (rs : List Value), k ≤ nV ∧ s4 = .slice S k cp ∧ i = .int .i64 k ∧ Hid (wr.ownsRow w1.heap.size 29 1 (.slice S k cp) k rs) ∧ Hid (VecsAt 0 wr (fun b => ob S = some b) rs (ranksV (s.V.take k))) ∧ Hid (Below w.heap.size w wr) ∧ Hid (w1.heap.size ≤ wr.heap.size)) (fun _ i _ => nV - (intOf i).toNat)
  case atStart => exact ⟨0, _, nV, [], by omega, rfl, rfl, Lib.hid (by have h := HOWN.out; rw [S1.out] at h ⊢; exact h), Lib.hid ⟨rfl, fun i hi => absurd hi (by simp [ranksV])⟩, HBW, Lib.hid (by have := HOWN.out.lt w1.heap.size rfl; omega)⟩
  case round =>
    clear HOWN HBW
    obtain ⟨k, S, cp, rs, hk, rfl, rfl, HO, HRS, HB, HS⟩ := hrel
    by_cases hlt : k < nV
    · have hlt' : k < s.V.length := by rw [← HNV.out]; exact hlt
      obtain ⟨R, m, hrow, hLv, -⟩ := HROWS.out.row k hlt'
      obtain ⟨b, off, hAe, hbb, hcV⟩ := HV.out (by rw [HROWS.out.len]; omega)
      have hk0 := (HB.out.cell (p := ⟨b, off + k, none⟩) hbb).trans (hcV k _ hrow)
      have hmem := List.getElem_mem hlt'
      have hgr := Gr.ranks_yesN R m s.V[k] wr (hLv.below HB.out) (HE.out _ hmem)
      have har := HR.out _ hmem
      have hnx : ranksV (s.V.take (k + 1)) = ranksV (s.V.take k) ++ [Gr.ranksL s.V[k]] := by unfold ranksV; rw [List.take_succ_eq_append_getElem hlt', List.map_append]; rfl
      obtain ⟨v, hv⟩ : ∃ v, v = s.V[k] := ⟨_, rfl⟩
      rw [← hv] at hk0 hgr har hnx
      have HGR := Lib.hid hgr
      have HAR := Lib.hid har
      have HNX := Lib.hid hnx
      clear hrow hLv hcV hmem hgr har hnx hv
      subst hAe
      go_wp2_with fail
      refine (HGR.out).mono ?_
      rintro e w3 (⟨-, R3, m3, rfl, hL3, hb3, hn3⟩ | ⟨hno, -, -⟩)
      · have hO3 := own_below HO.out hb3
        have hfr : ∀ a, R3 = some a → ¬ ob S = some a.block := fun a ha e => by
          have h1 := hn3 a ha
          have h2 := (HO.out.lt a.block (by rw [ob_eq]; exact e)).2
          omega
        have hV3 := (HRS.out.step hb3.size (fun b hb _ => hb3.block b hb) (fun _ _ ht => ht)).snoc (R := R3) (v := Gr.ranksL v) (m := m3) hL3 (fun _ a ha => ⟨Nat.zero_le _, hfr a ha⟩)
        rw [← HNX.out] at hV3
        obtain ⟨nr, hu⟩ : ∃ nr, nr = (Gr.ranksL v).length := ⟨_, rfl⟩
        rw [← hu] at hV3 ⊢
        have hal := bal w3 (.cells #[.slice R3 nr m3] 29)
        have hO4 := own_below hO3 hal
        have HV4 := Lib.hid (hV3.step hal.size (fun b hb _ => hal.block b hb) (fun _ _ ht => ht))
        have hB4 := (HB.out.trans (hb3.mono HB.out.size)).trans (hal.mono (Nat.le_trans HB.out.size hb3.size))
        have HB4 := Lib.hid hB4
        have HONE := Lib.hid (Lies.new w3 #[.slice R3 nr m3] 29)
        have hbase : w1.heap.size ≤ (w3.alloc (.cells #[.slice R3 nr m3] 29)).heap.size := Nat.le_trans (Nat.le_trans HS.out hb3.size) hal.size
        have HOL := Lib.hid HO.out.lt
        clear hL3 hb3 hn3 hO3 hfr hV3 hu hal hB4 HO HRS HB HS HGR HAR HNX
        go_wp2_with (at_builtin; refine wpList_append_lies _ rfl (.tmp 28) (.tmp 30) _ rfl w1.heap.size 29 iV _ 1 24 Tryz.underlying56 hiV hV0 hV1 hV2 rfl (by omega) (.slice S k cp) k _ rfl hO4 _ 1 1 _ rfl rfl HONE.out (by intro x hx; simp at hx; subst hx; rfl) (by simp only [maxLen]; omega) (by omega) hbase ?_; intro v7 w7 hO7 hg7 hat7; obtain ⟨S7, c7, rfl, _, _⟩ := own_form hO7)
        have hB7 := HB4.out.grown hg7 HB4.out.size (fun g e => by have h1 := (HOL.out g e).1; have h2 := HB1.out.size; omega)
        rw [ob_eq] at hg7
        rw [ob_eq, ob_eq] at hat7
        have hV7 := HV4.out.step (T2 := fun b => ob S7 = some b) hg7.size (fun b hb ht => hg7.block b hb (fun e => ht e.symm)) (fun b hb ht => by
          rcases hat7 with e | e
          · rw [← e]; exact ht
          · rw [e] at ht; injection ht with ht; omega)
        refine ⟨⟨k + 1, S7, c7, _, by omega, rfl, by go_num, Lib.hid hO7, Lib.hid hV7, Lib.hid hB7, Lib.hid (Nat.le_trans hbase hg7.size)⟩, by simp [intOf]; omega⟩
      · rw [HAR.out] at hno; cases hno
    · obtain rfl : k = nV := by omega
      have hr := HRS.out
      rw [HNV.out, List.take_of_length_le (Nat.le_refl _)] at hr
      have HRR := Lib.hid (hr.step (T2 := fun _ => False) (Nat.le_refl _) (fun _ _ _ => rfl) (fun _ _ hf => hf.elim))
      clear hr HRS
      go_wp2_with fail
      go_ret2
      exact ⟨S, cp, rs, by rw [← HNV.out]; rfl, .of_own HO.out, HRR.out, HB.out⟩
end Go.Proofs.YtpjoefekhgmlhaaGreat.Tp
