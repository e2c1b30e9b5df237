/- CONTRACTS of frame.Section and frame.Open. Conditions: fewer than 16384 bytes in a section. · CONTRACTS of rule.fields and the functions that it holds. -/
import Derived.Test.YtpjoefekhgmlhaaGreatMb11
import Derived.Test.YtpjoefekhgmlhaaGreatMb10
import Derived.Test.YtpjoefekhgmlhaaGreatMb06
import Derived.Laws.EntriesVeiled
namespace Go.Proofs.YtpjoefekhgmlhaaGreat.Tp
open Go.RowKit Mem

def sectB (tag : Nat) (l : List Nat) : List Nat := [tag] ++ gp l.length ++ l
theorem gput_anyN (n : Nat) (ni : Int) (e : ni = (n : Int)) (hn : n < 16384) (w : World) : Calls Tryz.prog 66 #[.int .i64 ni] w (VPost w (bytes (gp n)) 0) := by
  subst e; exact gput_any n hn w
theorem gtake_anyN (A : Option Addr) (N c : Nat) (n : Nat) (rest : List Nat) (w : World) (hN : (gp n ++ rest).length = N) (hn : n < 16384) (hA : Lies w A (bytes (gp n ++ rest))) (hl : N ≤ 9223372036854775807) :
    Calls Tryz.prog 80 #[.slice A N c] w fun e w' => e = .returned (.tuple #[.int .i64 (n : Int), .int .i64 ((gp n).length : Int), .int .i64 0]) ∧ w = w' := by
  subst hN; exact gtake_any A c n rest w hn hA hl

set_option maxRecDepth 100000 in
set_option maxHeartbeats 1000000 in
theorem section_any (A : Option Addr) (c tag : Nat) (l : List Nat) (w : World) (hA : Lies w A (bytes l)) (hl : l.length < 16384) (_ht : tag < 256) :
    Calls Tryz.prog 69 #[.int .u8 (tag : Int), .slice A l.length c] w (VPost w (bytes (sectB tag l)) 0) := by
  obtain ⟨gl, hgl⟩ : ∃ gl, gl = gp l.length := ⟨_, rfl⟩
  obtain ⟨fb, hfb⟩ : ∃ fb, fb = sectB tag l := ⟨_, rfl⟩
  have hfr : fb = [tag] ++ gl ++ l := by rw [hfb, hgl]; rfl
  have hgp := fun W => gput_any l.length hl W
  have hg2 := gp_len l.length
  rw [← hgl] at hgp hg2
  obtain ⟨g, hg⟩ : ∃ g, g = gl.length := ⟨_, rfl⟩
  rw [← hg] at hg2
  obtain ⟨hg1, hg2⟩ := hg2
  have hmk : ∀ w, Sem.run Tryz.prog (Instr.makeSlice 45 (.int .i64 0) (.int .i64 (1 + (g : Int) + (l.length : Int)))) w = .ok (.slice (some ⟨w.heap.size, 0, none⟩) 0 (1 + g + l.length)) (w.alloc (.cells (madeCells #[.int .u8 0] (1 + g + l.length)) 5)) := by
    have := run_make_room (P := Tryz.prog) 45 5 (.int .u8 0) 1 Tryz.underlying45 byte_info rfl .i64 .i64 (1 + g + l.length) (by omega) (by omega)
    rw [Int.natCast_add, Int.natCast_add] at this
    exact this
  have hmown := fun (W : World) => World.ownsRow_made W (madeCells #[.int .u8 0] (1 + g + l.length)) (1 + g + l.length) (e := 5) (size := 1) (base := W.heap.size) (Nat.le_refl W.heap.size) (by simp only [maxLen]; omega) (by simp [madeCells])
  have HGP := Lib.hid hgp
  have HFR := Lib.hid hfr
  have HG := Lib.hid hg
  have HM := Lib.hid hmown
  rw [← hfb]
  clear hgl hfb hfr hgp hg hmown
  go_enter Tryz.func69, Tryz.ntmps69
  go_wp2_with fail
  refine (HGP.out _).mono ?_
  rintro e w1 ⟨R, m1, rfl, hL, hb1, _, _⟩
  rw [bytes_len, ← HG.out]
  have hA1 := hA.below hb1
  have hs1 := hb1.size
  obtain ⟨mk, hmkd⟩ : ∃ mk, mk = Obj.cells (madeCells #[.int .u8 0] (1 + g + l.length)) 5 := ⟨_, rfl⟩
  have hown1 := (own_mono (HM.out w1) hs1).alloc (.cells #[.int .u8 (tag : Int)] 5)
  rw [← hmkd] at hmk hown1
  have hone := Lies.new (w1.alloc mk) #[.int .u8 (tag : Int)] 5
  rw [show (w1.alloc mk).heap.size = w1.heap.size + 1 by simp] at hone
  have hbW : Below w.heap.size w ((w1.alloc mk).alloc (.cells #[.int .u8 (tag : Int)] 5)) := (hb1.alloc hs1 _).alloc (by simp; omega) _
  have hL1 := (hL.alloc mk).alloc (.cells #[.int .u8 (tag : Int)] 5)
  have HBW := Lib.hid hbW
  have HL1 := Lib.hid hL1
  have hne : ∀ a, R = some a → a.block ≠ w1.heap.size := fun a ha => by
    intro e
    obtain ⟨b, off, e2, hlt, _⟩ := hL (by rw [bytes_len, ← HG.out]; omega)
    rw [ha] at e2
    injection e2 with e2
    rw [e2] at e
    simp at e
    omega
  have HNE := Lib.hid hne
  have HONE := Lib.hid hone
  have HGL : Hid ((bytes gl).length = g) := Lib.hid (by rw [bytes_len, ← HG.out])
  clear hb1 HM hmkd hbW hone hL hL1 hne
  go_wp2_with (first
    | (at_builtin; refine wpList_app rfl (.tmp 28) (.tmp 30) _ rfl Tryz.underlying45 byte_info rfl (by omega) (by omega) w _ HBW.out _ _ _ _ rfl hown1 _ 1 1 _ rfl rfl HONE.out (by intro u hu; simp at hu; subst hu; rfl) (by omega) ?_; intro S3 c3 w3 hown3 hc3 hc3' hb3 hg3; simp only [Nat.zero_add, List.nil_append] at hown3 hc3 ⊢; have HB3 := Lib.hid hb3; clear hown1 HBW HONE hb3)
    | (at_builtin; refine wpList_app rfl (.tmp 32) (.tmp 33) _ rfl Tryz.underlying45 byte_info rfl (by omega) (by omega) w w3 HB3.out _ _ _ _ rfl hown3 R g m1 _ rfl (by rw [HGL.out, Nat.mul_one]) ?cgl (bytes_one gl) (by omega) ?_; rotate_left; intro S4 c4 w4 hown4 hc4 hc4' hb4 _; have HB4 := Lib.hid hb4; have hA4 := hA.below HB4.out; clear hown3 hb4 HB3)
    | (at_builtin; refine wpList_app rfl (.tmp 35) (.tmp 36) _ rfl Tryz.underlying45 byte_info rfl (by omega) (by omega) w w4 HB4.out _ _ _ _ rfl hown4 A l.length c _ rfl (by simp) hA4 (bytes_one l) (by omega) ?_; intro S5 c5 w5 hown5 hc5 hc5' hb5 _))
  case cgl => exact lies_grown HL1.out hg3 (fun a ha e => HNE.out a ha (by injection e with e; exact e.symm))
  go_ret2
  have hL5 := Lies.of_own hown5
  have e5 : [Value.int .u8 (tag : Int)] ++ bytes gl ++ bytes l = bytes fb := by rw [HFR.out, bytes_app, bytes_app]; rfl
  rw [e5] at hL5
  have hfl : (bytes fb).length = 1 + g + l.length := by rw [HFR.out, bytes_len, List.length_append, List.length_append, ← HG.out]; rfl
  exact ⟨S5, c5, Gr.tup_ret hfl.symm, hL5, hb5, by rw [hfl]; exact hc5, hc5'⟩

/-- What is in a section, and what is behind it. -/
def OpenPost (w : World) (l rest : List Nat) (e : Ending) (w' : World) : Prop := ∃ R1 m1 R2 m2, e = .returned (.tuple #[.slice R1 l.length m1, .slice R2 rest.length m2, .int .i64 0]) ∧
  Lies w' R1 (bytes l) ∧ Lies w' R2 (bytes rest) ∧ Below w.heap.size w w' ∧ l.length ≤ m1 ∧ m1 ≤ 9223372036854775807 ∧ rest.length ≤ m2 ∧ m2 ≤ 9223372036854775807 ∧ Gr.New w R2
/-- A new slice is told. -/
def SPostN (w : World) (xs : List Value) (e : Ending) (w' : World) : Prop := ∃ R m, e = .returned (.slice R xs.length m) ∧ Lies w' R xs ∧ Below w.heap.size w w' ∧ xs.length ≤ m ∧ m ≤ 9223372036854775807 ∧ Gr.New w R
theorem own_new (A : Option Addr) (c : Nat) (l : List Nat) (w : World) (hA : Lies w A (bytes l)) (hl : l.length ≤ 4294967296) :
    Calls Tryz.prog 78 #[.slice A l.length c] w (SPostN w (bytes l)) := by
  obtain ⟨i0, hi, hz0, hz1, hz2⟩ := info_parts byte_info
  go_enter Tryz.func78, Tryz.ntmps78
  have hown := World.ownsRow_nil w w.heap.size 5 1
  go_wp2_with (at_builtin; refine wpList_append_lies _ rfl (.const (.slice none 0 0)) (.tmp 3) _ rfl w.heap.size 5 i0 _ 1 1 Tryz.underlying45 hi hz0 hz1 hz2 rfl (by omega) (.slice none 0 0) 0 _ rfl hown A l.length c (bytes l) rfl (by simp) hA (bytes_one _) (by simp only [maxLen]; omega) (by omega) (Nat.le_refl _) ?_; intro v3 w3 hown3 hg3 hat3)
  simp only [Nat.zero_add, List.nil_append] at hown3
  obtain ⟨A5, m5, rfl, hm1, hm2⟩ := own_form hown3
  go_ret
  exact ⟨A5, m5, ret_slice (by simp), .of_own hown3, (Below.refl _ w).grown hg3 (Nat.le_refl _) (fun g h => by cases h), by simpa using hm1, hm2, new_of hown3⟩
theorem own_anyN (A : Option Addr) (n c : Nat) (l : List Nat) (w : World) (hn : l.length = n) (hA : Lies w A (bytes l)) (hl : n ≤ 4294967296) :
    Calls Tryz.prog 78 #[.slice A n c] w (SPost w (bytes l)) := by
  subst hn; exact own_any A c l w hA hl

set_option maxRecDepth 100000 in
set_option maxHeartbeats 1000000 in
theorem open_any (A : Option Addr) (n c tag : Nat) (l rest : List Nat) (w : World) (hn : (sectB tag l ++ rest).length = n) (hA : Lies w A (bytes (sectB tag l ++ rest))) (hl : l.length < 16384) (hr : rest.length ≤ 1000000) (hc : n ≤ c) (hc2 : c ≤ 9223372036854775807) :
    Calls Tryz.prog 107 #[.int .u8 (tag : Int), .slice A n c] w (OpenPost w l rest) := by
  obtain ⟨gl, hgl⟩ : ∃ gl, gl = gp l.length := ⟨_, rfl⟩
  have hgt := fun B N k W h1 hB h2 => gtake_anyN B N k l.length (l ++ rest) W h1 hl hB h2
  have hg2 := gp_len l.length
  rw [← hgl] at hgt hg2
  obtain ⟨g, hg⟩ : ∃ g, g = gl.length := ⟨_, rfl⟩
  rw [← hg] at hg2 hgt
  obtain ⟨hg1, hg2⟩ := hg2
  have hfr : sectB tag l ++ rest = [tag] ++ (gl ++ (l ++ rest)) := by unfold sectB; rw [← hgl]; simp
  rw [hfr] at hn hA
  have hnn : n = 1 + (g + (l.length + rest.length)) := by rw [← hn, List.length_append, List.length_append, List.length_append, ← hg]; rfl
  obtain ⟨b, off, rfl, hb, hcell⟩ := hA.at_map (show 0 < ([tag] ++ (gl ++ (l ++ rest))).length by simp)
  simp only [List.cons_append, List.getElem_cons_zero, Nat.add_zero] at hcell
  have hbn := bytes_len ([tag] ++ (gl ++ (l ++ rest)))
  rw [hn] at hbn
  obtain ⟨A1, hcut1, hL1⟩ := cut_l bty bsz (some ⟨b, off, none⟩) n c 1 1 rfl (by omega) hc
  have q1 := hL1 w _ hA hbn
  have e1 : (bytes ([tag] ++ (gl ++ (l ++ rest)))).drop 1 = bytes (gl ++ (l ++ rest)) := rfl
  rw [e1] at q1
  have hgt1 := hgt A1 (n - 1) (c - 1) w (by rw [List.length_append, List.length_append, ← hg]; omega) q1 (by omega)
  obtain ⟨A2, hcut2, hL2⟩ := cut_l bty bsz (some ⟨b, off, none⟩) n c (1 + g) (1 + (g : Int)) (by omega) (by omega) hc
  have q2 := hL2 w _ hA hbn
  have e2 : (bytes ([tag] ++ (gl ++ (l ++ rest)))).drop (1 + g) = bytes (l ++ rest) := by
    rw [bytes_app, bytes_app gl, ← List.append_assoc, List.drop_append_of_le_length (by simp only [List.length_append, bytes_len, ← hg]; simp), List.drop_of_length_le (by simp only [List.length_append, bytes_len, ← hg]; simp), List.nil_append]
  rw [e2] at q2
  obtain ⟨N, hN⟩ : ∃ N, N = n - (1 + g) := ⟨_, rfl⟩
  obtain ⟨C, hC⟩ : ∃ C, C = c - (1 + g) := ⟨_, rfl⟩
  rw [← hN, ← hC] at hcut2
  have hN1 : N = l.length + rest.length := by omega
  have hN2 : N ≤ C := by omega
  obtain ⟨A3, hcut3, hL3⟩ := cut_hm bty bsz A2 N C l.length (l.length : Int) (l.length : Int) rfl rfl (by omega)
  have q3 := hL3 w _ q2
  have e3 : (bytes (l ++ rest)).take l.length = bytes l := by rw [bytes_app, List.take_append_of_le_length (by rw [bytes_len]; omega), List.take_of_length_le (by rw [bytes_len]; omega)]
  rw [e3] at q3
  obtain ⟨A4, hcut4, hL4⟩ := cut_l bty bsz A2 N C l.length (l.length : Int) rfl (by omega) hN2
  have q4 := hL4 w _ q2 (by rw [bytes_len, List.length_append]; omega)
  have e4 : (bytes (l ++ rest)).drop l.length = bytes rest := by rw [bytes_app, List.drop_append_of_le_length (by rw [bytes_len]; omega), List.drop_of_length_le (by rw [bytes_len]; omega), List.nil_append]
  rw [e4] at q4
  have hd : N - l.length = rest.length := by omega
  rw [hd] at hcut4
  have t1 : ((n : Int) == 0) = false := by rw [beq_eq_false_iff_ne]; omega
  have t2 : ((tag : Int) != (tag : Int)) = false := by simp
  have HGT := Lib.hid hgt1
  have hn1 : 1 ≤ n := by omega
  have hn3 : 1 + g ≤ n := by omega
  have hlN : l.length ≤ N := by omega
  have hcC : C ≤ 9223372036854775807 := by omega
  clear hgl hgt hg hfr hn hnn hbn hL1 hL2 hL3 hL4 e1 e2 e3 e4 hgt1 hd hN hC hN1 q1 q2 hA
  go_enter Tryz.func107, Tryz.ntmps107
  go_wp2_with fail
  refine (HGT.out).mono ?_
  rintro e w' ⟨rfl, rfl⟩
  go_wp2_with fail
  go_region_with (first
    | (go_at_call_of 78 (Value.slice A3 l.length l.length); refine (own_any A3 l.length l _ (by first | exact q3 | exact q3.drew) (by omega)).mono ?_; rintro e w2 ⟨R1, m1, rfl, hL1, hb2, hm1, hm1'⟩; rw [bytes_len])
    | (go_at_call_of 78 (Value.slice A4 rest.length (C - l.length)); refine (own_new A4 (C - l.length) rest _ (by first | exact q4.below hb2 | exact (q4.drew).below hb2) (by omega)).mono ?_; rintro e w3 ⟨R2, m2, rfl, hL2, hb3, hm2, hm2', hnew⟩; rw [bytes_len]))
  have hb2' : Below w.heap.size w w2 := ⟨hb2.os, hb2.tape, hb2.output, hb2.size, hb2.block⟩
  have hbe := hb2'.trans (hb3.mono hb2'.size)
  have hL1' := hL1.below hb3
  have HBE := Lib.hid hbe
  have HBE2 : Hid (w.heap.size ≤ w2.heap.size) := Lib.hid hb2'.size
  clear hb2 hb2' hb3 hL1 hbe
  go_wp2_with fail
  go_ret3
  exact ⟨R1, m1, R2, m2, rfl, hL1', hL2, HBE.out, by rw [bytes_len] at hm1; exact hm1, hm1', by rw [bytes_len] at hm2; exact hm2, hm2', fun a ha => Nat.le_trans HBE2.out (hnew a ha)⟩
end Go.Proofs.YtpjoefekhgmlhaaGreat.Tp

namespace Go.Proofs.YtpjoefekhgmlhaaGreat.Tp
open Go.RowKit Mem

/-- How a rule's fields are told. -/
abbrev fn0 (n : Nat) : Value := .func (.func n) #[] #[]
def fieldsV : List Value := [.int .i64 4, fn0 124, fn0 125, .int .i64 1, fn0 126, fn0 127, .int .i64 1, fn0 128, fn0 129, .int .i64 2, fn0 130, fn0 131]
def FieldsPost (w : World) (e : Ending) (w' : World) : Prop := ∃ g, e = .returned (.slice (some ⟨g, 0, none⟩) 4 4) ∧ w.heap.size ≤ g ∧ g < w'.heap.size ∧ (∀ i u, fieldsV[i]? = some u → w'.cell? ⟨g, i, none⟩ = some u) ∧ Below w.heap.size w w'
set_option maxHeartbeats 400000 in
theorem fields_any (w : World) : Calls Tryz.prog 104 #[] w (FieldsPost w) := by
  have hb : Below w.heap.size w (w.alloc (.cells fieldsV.toArray 182)) := (Below.refl _ _).alloc (Nat.le_refl _) _
  have hc : ∀ i u, fieldsV[i]? = some u → (w.alloc (.cells fieldsV.toArray 182)).cell? ⟨w.heap.size, i, none⟩ = some u := fun i u hu => by
    rw [cell_of_row _ _ i _ _ (0, 0) (heap_alloc_new w _)]; simpa using hu
  have hg : w.heap.size < (w.alloc (.cells fieldsV.toArray 182)).heap.size := by simp
  have HB := Lib.hid hb
  have HC := Lib.hid hc
  have HG := Lib.hid hg
  clear hb hc hg
  go_enter Tryz.func104, Tryz.ntmps104
  go_wp2_with fail
  go_ret
  exact ⟨_, rfl, Nat.le_refl _, HG.out, HC.out, HB.out⟩

theorem get1 (r : RuleT) (ha : r.a < 4294967296) (w : World) : Calls Tryz.prog 124 #[rv r] w fun e w' => e = .returned (.int .i64 (r.a : Int)) ∧ Below w.heap.size w w' := by
  have hb : Below w.heap.size w (w.alloc (.cells #[.int .u32 (r.a : Int), .int .i64 (r.len : Int), .int .i64 (r.act : Int), .int .i64 (r.next : Int)] 43)) := (Below.refl _ _).alloc (Nat.le_refl _) _
  go_enter Tryz.func124, Tryz.ntmps124
  go_wp2_with fail
  go_ret
  exact ⟨rfl, hb⟩
theorem get2 (r : RuleT) (w : World) : Calls Tryz.prog 126 #[rv r] w fun e w' => e = .returned (.int .i64 (r.len : Int)) ∧ Below w.heap.size w w' := by
  have hb : Below w.heap.size w (w.alloc (.cells #[.int .u32 (r.a : Int), .int .i64 (r.len : Int), .int .i64 (r.act : Int), .int .i64 (r.next : Int)] 43)) := (Below.refl _ _).alloc (Nat.le_refl _) _
  go_enter Tryz.func126, Tryz.ntmps126
  go_wp2_with fail
  go_ret
  exact ⟨rfl, hb⟩
theorem get3 (r : RuleT) (w : World) : Calls Tryz.prog 128 #[rv r] w fun e w' => e = .returned (.int .i64 (r.act : Int)) ∧ Below w.heap.size w w' := by
  have hb : Below w.heap.size w (w.alloc (.cells #[.int .u32 (r.a : Int), .int .i64 (r.len : Int), .int .i64 (r.act : Int), .int .i64 (r.next : Int)] 43)) := (Below.refl _ _).alloc (Nat.le_refl _) _
  go_enter Tryz.func128, Tryz.ntmps128
  go_wp2_with fail
  go_ret
  exact ⟨rfl, hb⟩
theorem get4 (r : RuleT) (w : World) : Calls Tryz.prog 130 #[rv r] w fun e w' => e = .returned (.int .i64 (r.next : Int)) ∧ Below w.heap.size w w' := by
  have hb : Below w.heap.size w (w.alloc (.cells #[.int .u32 (r.a : Int), .int .i64 (r.len : Int), .int .i64 (r.act : Int), .int .i64 (r.next : Int)] 43)) := (Below.refl _ _).alloc (Nat.le_refl _) _
  go_enter Tryz.func130, Tryz.ntmps130
  go_wp2_with fail
  go_ret
  exact ⟨rfl, hb⟩

theorem set1 (g n : Nat) (xs : List Value) (hx : 0 < xs.length) (hn : n < 4294967296) (w : World) (h : VRow w g xs) : Calls Tryz.prog 125 #[.pointer (some ⟨g, 0, none⟩), .int .i64 (n : Int)] w fun e w' => e = .returned (.tuple #[]) ∧ w' = w.setCell ⟨g, 0, none⟩ (.int .u32 (n : Int)) := by
  have h0 := h.cell 0 hx
  have f0 := h.free 0 hx
  go_enter Tryz.func125, Tryz.ntmps125
  go_wp2_with fail
  exact bodyPost_end (v := .tuple #[]) (by simp [results, Tryz.results125, go_sem]) rfl ⟨rfl, rfl⟩
theorem set2 (g n : Nat) (xs : List Value) (hx : 1 < xs.length) (w : World) (h : VRow w g xs) : Calls Tryz.prog 127 #[.pointer (some ⟨g, 0, none⟩), .int .i64 (n : Int)] w fun e w' => e = .returned (.tuple #[]) ∧ w' = w.setCell ⟨g, 1, none⟩ (.int .i64 (n : Int)) := by
  have h0 := h.cell 1 hx
  have f0 := h.free 1 hx
  go_enter Tryz.func127, Tryz.ntmps127
  go_wp2_with fail
  exact bodyPost_end (v := .tuple #[]) (by simp [results, Tryz.results127, go_sem]) rfl ⟨rfl, rfl⟩
theorem set3 (g n : Nat) (xs : List Value) (hx : 2 < xs.length) (w : World) (h : VRow w g xs) : Calls Tryz.prog 129 #[.pointer (some ⟨g, 0, none⟩), .int .i64 (n : Int)] w fun e w' => e = .returned (.tuple #[]) ∧ w' = w.setCell ⟨g, 2, none⟩ (.int .i64 (n : Int)) := by
  have h0 := h.cell 2 hx
  have f0 := h.free 2 hx
  go_enter Tryz.func129, Tryz.ntmps129
  go_wp2_with fail
  exact bodyPost_end (v := .tuple #[]) (by simp [results, Tryz.results129, go_sem]) rfl ⟨rfl, rfl⟩
theorem set4 (g n : Nat) (xs : List Value) (hx : 3 < xs.length) (w : World) (h : VRow w g xs) : Calls Tryz.prog 131 #[.pointer (some ⟨g, 0, none⟩), .int .i64 (n : Int)] w fun e w' => e = .returned (.tuple #[]) ∧ w' = w.setCell ⟨g, 3, none⟩ (.int .i64 (n : Int)) := by
  have h0 := h.cell 3 hx
  have f0 := h.free 3 hx
  go_enter Tryz.func131, Tryz.ntmps131
  go_wp2_with fail
  exact bodyPost_end (v := .tuple #[]) (by simp [results, Tryz.results131, go_sem]) rfl ⟨rfl, rfl⟩
end Go.Proofs.YtpjoefekhgmlhaaGreat.Tp
