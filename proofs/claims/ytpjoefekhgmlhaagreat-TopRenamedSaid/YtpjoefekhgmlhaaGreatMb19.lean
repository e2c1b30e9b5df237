/- CONTRACT of certfile's list[int].read, of bytes that hold what is taken. · CONTRACT of certfile's reader.part. · CONTRACT of certfile's list[Part].read, of bytes that hold what is taken. -/
import Derived.Test.YtpjoefekhgmlhaaGreatMb18
namespace Go.Proofs.YtpjoefekhgmlhaaGreat.Tp
open Go.RowKit Mem

theorem near_grown {g : Nat} {W wr w6 : World} {own : Option Nat} (h : Near none none g W wr) (hg : wr.grownBy w6 own) (ho : ∀ b, own = some b → W.heap.size ≤ b) : Near none none g W w6 :=
  ⟨hg.os.trans h.os, hg.tape.trans h.tape, hg.output.trans h.output, Nat.le_trans h.size hg.size, fun b hb hg' _ => (hg.block b (Nat.lt_of_lt_of_le hb h.size) (fun e => by have := ho b e.symm; omega)).trans (h.block b hb hg' (fun e => by cases e)), .inl rfl⟩
theorem own_near {base g : Nat} {W W' : World} {e : TypeId} {size n c k : Nat} {S : Option Addr} {xs : List Value} (h : W.ownsRow base e size (.slice S n c) k xs) (hn : Near none none g W W') (hg : (Value.slice S n c).ownBlock ≠ some g) : W'.ownsRow base e size (.slice S n c) k xs := by
  refine ⟨h.1, ?_⟩
  rcases h.2 with h0 | ⟨b, cap, cur, hv, hb, hh, h1, h2, h3, h4⟩
  · exact .inl h0
  · have hlt : b < W.heap.size := by
      rcases Nat.lt_or_ge b W.heap.size with h' | h'
      · exact h'
      · rw [Array.getElem?_eq_none h'] at hh; cases hh
    have hbg : b ≠ g := fun e => hg (by rw [hv, e]; rfl)
    exact .inr ⟨b, cap, cur, hv, hb, (hn.block b hlt hbg (fun e => by cases e)).trans hh, h1, h2, h3, h4⟩
theorem int_info' : (Tryz.prog.info? 3).map (fun i => (i.zero, i.size, i.bytes)) = some (some (.int .i64 0), 1, 8) := by kernel_rfl
/-- Numbers are told, in a new slice; the reader has gone on. -/
def RLPost (w0 W : World) (g nodes : Nat) (xs : List Nat) (l : List Nat) (e : Ending) (W' : World) : Prop :=
  ∃ R m B d, e = .returned (.slice R xs.length m) ∧ Lies W' R (nums xs) ∧ Gr.New W R ∧ RAt w0 W' g nodes B d l ∧ Near none none g W W' ∧ xs.length ≤ m ∧ m ≤ 9223372036854775807
set_option maxRecDepth 100000 in
set_option maxHeartbeats 2000000 in
theorem rints_any (w0 W : World) (g nodes : Nat) (B : Option Addr) (d : Nat) (xs l : List Nat) (hR : RAt w0 W g nodes B d (xs.flatMap gp ++ l)) (hB : Below w0.heap.size w0 W) (hg0 : w0.heap.size ≤ g) (hx : ∀ x ∈ xs, x < 16384) (hl : xs.length ≤ 10000) :
    Calls Tryz.prog 42 #[.agg #[.func (.func 41) #[] #[]], .pointer (some ⟨g, 0, none⟩), .int .i64 (xs.length : Int)] W (RLPost w0 W g nodes xs l) := by
  obtain ⟨W1, hW1⟩ : ∃ W1, W1 = W.alloc (.cells #[.func (.func 41) #[] #[]] 98) := ⟨_, rfl⟩
  have hal : Below W.heap.size W W1 := by rw [hW1]; exact (Below.refl _ _).alloc (Nat.le_refl _) _
  have s1 : W1.heap.size = W.heap.size + 1 := by rw [hW1]; simp
  have hbx : W1.cell? ⟨W.heap.size, 0, none⟩ = some (.func (.func 41) #[] #[]) := by rw [hW1, cell_of_row _ _ 0 _ _ (0, 0) (heap_alloc_new W _)]; rfl
  have hR1 := hR.near hal
  have hB1 := hB.trans (hal.mono hB.size)
  have hglt := hR.row.lt
  have HW1 := Lib.hid hW1
  have HR1 := Lib.hid hR1
  have HB1 := Lib.hid hB1
  have HBX := Lib.hid hbx
  have HX := Lib.hid hx
  have HAL := Lib.hid hal
  clear hW1 hR1 hB1 hbx hx hR hB hal
  go_enter Tryz.func42, Tryz.ntmps42
  go_wp2_with fail
  rw [← HW1.out]
  go_loopw [7, 10] (fun s i wr => ∃ (k : Nat) (B : Option Addr) (d : Nat), k ≤ xs.length ∧ i = .int .i64 k ∧ wr.ownsRow W1.heap.size 3 1 s k (nums (xs.take k)) ∧ Hid (RAt w0 wr g nodes B d ((xs.drop k).flatMap gp ++ l)) ∧ Hid (Near none none g W1 wr)) (fun _ i _ => xs.length - (intOf i).toNat)
  case atStart => exact ⟨0, B, d, by omega, rfl, World.ownsRow_nil _ _ _ _, HR1, Lib.hid (.of_below (Below.refl _ _))⟩
  case round =>
    clear HR1
    obtain ⟨k, B', d', hk, rfl, hown, HRr, HNr⟩ := hrel
    obtain ⟨S, cp, rfl, hc1, hc2⟩ := own_form hown
    by_cases hlt : k < xs.length
    · have hgs : (Value.slice S k cp).ownBlock ≠ some g := fun e => by have := (hown.lt g e).1; omega
      have hbw : Below w0.heap.size w0 wr := HB1.out.trans ⟨HNr.out.os, HNr.out.tape, HNr.out.output, HNr.out.size, fun b hb => HNr.out.block b (Nat.lt_of_lt_of_le hb HB1.out.size) (by omega) (fun e => by cases e)⟩
      have hcell : wr.cell? ⟨W.heap.size, 0, none⟩ = some (.func (.func 41) #[] #[]) := by
        rw [World.cell?_of_block (w := W1) (HNr.out.block W.heap.size (by omega) (by omega) (fun e => by cases e))]; exact HBX.out
      have hsp : (xs.drop k).flatMap gp ++ l = gp xs[k] ++ ((xs.drop (k + 1)).flatMap gp ++ l) := by rw [List.drop_eq_getElem_cons hlt, List.flatMap_cons, List.append_assoc]
      have hrr := HRr.out
      rw [hsp] at hrr
      have hgr := rgroup_any w0 wr g nodes B' d' xs[k] _ hrr hbw (HX.out _ (List.getElem_mem hlt))
      have hnx : nums (xs.take (k + 1)) = nums (xs.take k) ++ [.int .i64 (xs[k] : Int)] := by rw [List.take_succ_eq_append_getElem hlt, nums, List.map_append]; rfl
      obtain ⟨x, hxe⟩ : ∃ x, x = xs[k] := ⟨_, rfl⟩
      rw [← hxe] at hgr hnx
      have HGR := Lib.hid hgr
      have HNX := Lib.hid hnx
      have HOWN := Lib.hid hown
      have HGS := Lib.hid hgs
      clear hrr hgr hnx hown hbw hsp hxe hgs
      go_wp2_with fail
      refine (HGR.out).mono ?_
      rintro e w4 ⟨B4, d4, rfl, hR4, hN4⟩
      have hown4 := own_near HOWN.out hN4 HGS.out
      have hc4 : w4.cell? ⟨g, 2, none⟩ = some (.int .i64 0) := hR4.row.cell 2 (by simp)
      have hn4w := HNr.out.trans hN4
      have hal4 : Below w4.heap.size w4 (w4.alloc (.cells #[.int .i64 (x : Int)] 3)) := (Below.refl _ _).alloc (Nat.le_refl _) _
      have hone := Lies.new w4 #[.int .i64 (x : Int)] 3
      have hR5 := hR4.near hal4
      have hown5 := own_below hown4 hal4
      have hn5w := hn4w.trans (.of_below hal4)
      have hsz5 : W1.heap.size ≤ (w4.alloc (.cells #[.int .i64 (x : Int)] 3)).heap.size := hn5w.size
      have HR5 := Lib.hid hR5
      have HN5 := Lib.hid hn5w
      have HONE := Lib.hid hone
      have HOL : Hid (∀ b, (Value.slice S k cp).ownBlock = some b → W1.heap.size ≤ b) := Lib.hid fun b e => (hown5.lt b e).1
      obtain ⟨i0, hi, hz0, hz1, hz2⟩ := info_parts int_info'
      clear hcell hR4 hN4 hown4 hn4w hal4 hone hR5 hn5w HGR HOWN HNr HRr
      go_wp2_with (at_builtin; refine wpList_append_lies _ rfl (.tmp 21) (.tmp 23) _ rfl W1.heap.size 3 i0 _ 1 8 Tryz.underlying29 hi hz0 hz1 hz2 rfl (by omega) (.slice S k cp) k _ rfl hown5 _ 1 1 _ rfl rfl HONE.out (by intro u hu; simp at hu; subst hu; rfl) (by simp only [maxLen]; omega) (by omega) hsz5 ?_; intro v6 w6 hown6 hg6 hat6)
      refine ⟨⟨k + 1, B4, d4, by omega, by go_num, by rw [HNX.out]; exact hown6, Lib.hid ⟨HR5.out.row.keep hg6.size (hg6.block g HR5.out.row.lt (fun e => HGS.out e.symm)), HR5.out.lies, HR5.out.byte, HR5.out.cap, HR5.out.max⟩, Lib.hid (near_grown HN5.out hg6 HOL.out)⟩, by simp [intOf]; omega⟩
    · obtain rfl : k = xs.length := by omega
      have hR := HRr.out
      rw [List.drop_of_length_le (Nat.le_refl _)] at hR
      rw [List.take_of_length_le (Nat.le_refl _)] at hown
      have HRf : Hid (RAt w0 wr g nodes B' d' l) := Lib.hid (by simpa using hR)
      clear hR
      go_wp2_with fail
      go_ret
      exact ⟨S, cp, B', d', rfl, .of_own hown, new_mono (new_of hown) HAL.out.size, HRf.out, (Near.of_below HAL.out).trans HNr.out, hc1, hc2⟩
end Go.Proofs.YtpjoefekhgmlhaaGreat.Tp

namespace Go.Proofs.YtpjoefekhgmlhaaGreat.Tp
open Go.RowKit Mem

/-- A part is told, its ranks in a new slice; the reader has gone on. -/
def RPartPost (w0 W : World) (g nodes : Nat) (p : PartT) (l : List Nat) (e : Ending) (W' : World) : Prop :=
  ∃ R m B d, e = .returned (.agg #[.int .u32 (p.f : Int), .int .u32 (p.t : Int), .slice R p.ranks.length m]) ∧ Lies W' R (nums p.ranks) ∧ Gr.New W R ∧ RAt w0 W' g nodes B d l ∧ Near none none g W W' ∧ p.ranks.length ≤ m ∧ m ≤ 9223372036854775807
theorem near_to {w0 W W' : World} {g : Nat} (hB : Below w0.heap.size w0 W) (hg0 : w0.heap.size ≤ g) (h : Near none none g W W') : Below w0.heap.size w0 W' :=
  hB.trans ⟨h.os, h.tape, h.output, h.size, fun b hb => h.block b (Nat.lt_of_lt_of_le hb hB.size) (by omega) (fun e => by cases e)⟩
set_option maxRecDepth 100000 in
set_option maxHeartbeats 2000000 in
theorem rpart_any (w0 W : World) (g : Nat) (B : Option Addr) (d : Nat) (p : PartT) (l : List Nat) (hR : RAt w0 W g p.ranks.length B d (partB p ++ l)) (hB : Below w0.heap.size w0 W) (hg0 : w0.heap.size ≤ g) (hx : ∀ x ∈ p.ranks, x < 16384) (hl : p.ranks.length ≤ 10000) (hf : p.f < 4294967296) (ht : p.t < 4294967296) :
    Calls Tryz.prog 39 #[.pointer (some ⟨g, 0, none⟩)] W (RPartPost w0 W g p.ranks.length p l) := by
  obtain ⟨W1, hW1⟩ : ∃ W1, W1 = W.alloc (.cells #[.int .u32 0, .int .u32 0, .slice none 0 0] 51) := ⟨_, rfl⟩
  have hal : Below W.heap.size W W1 := by rw [hW1]; exact (Below.refl _ _).alloc (Nat.le_refl _) _
  have s1 : W1.heap.size = W.heap.size + 1 := by rw [hW1]; simp
  have hrow : VRow W1 W.heap.size [.int .u32 0, .int .u32 0, .slice none 0 0] := by rw [hW1]; exact VRow.new W #[.int .u32 0, .int .u32 0, .slice none 0 0] _
  have hglt := hR.row.lt
  have hR1 := hR.near hal
  have hsp : partB p ++ l = be 4 p.f ++ (be 4 p.t ++ (p.ranks.flatMap gp ++ l)) := by unfold partB; simp [List.append_assoc]
  rw [hsp] at hR1
  have hB1 := hB.trans (hal.mono hB.size)
  have hn1 := rnum_any w0 W1 g p.ranks.length B d 4 p.f (be 4 p.f) _ hR1 hB1 (by omega) rfl ofBe_be4
  have HW1 := Lib.hid hW1
  have HB1 := Lib.hid hB1
  have HN1 := Lib.hid hn1
  have HROW := Lib.hid hrow
  have HX := Lib.hid hx
  have HAL := Lib.hid hal
  clear hW1 hR1 hB1 hn1 hx hR hB hal hsp hrow
  go_enter Tryz.func39, Tryz.ntmps39
  go_wp2_with fail
  rw [← HW1.out]
  refine (HN1.out).mono ?_
  rintro e w2 ⟨B2, d2, rfl, hR2, hN2⟩
  have hn2 := rnum_any w0 w2 g p.ranks.length B2 d2 4 p.t (be 4 p.t) _ hR2 (near_to HB1.out hg0 hN2) (by omega) rfl ofBe_be4
  have HN2 := Lib.hid hN2
  have HM2 := Lib.hid hn2
  clear hn2 hR2 hN2 HN1
  go_wp2_with fail
  refine (HM2.out).mono ?_
  rintro e w3 ⟨B3, d3, rfl, hR3, hN3⟩
  have hN3' := HN2.out.trans hN3
  have hn3 := rints_any w0 w3 g p.ranks.length B3 d3 p.ranks l hR3 (near_to HB1.out hg0 hN3') hg0 HX.out hl
  have hc1 : w3.cell? ⟨g, 1, none⟩ = some (.int .i64 (p.ranks.length : Int)) := hR3.row.cell 1 (by simp)
  have HN3 := Lib.hid hN3'
  have HM3 := Lib.hid hn3
  clear hn3 hR3 hN3 hN3' HM2 HN2
  go_wp2_with fail
  refine (HM3.out).mono ?_
  rintro e w4 ⟨R4, m4, B4, d4, rfl, hL4, hnew4, hR4, hN4, hm4, hm4'⟩
  have hn14 := HN3.out.trans hN4
  have hrow4 : VRow w4 W.heap.size [.int .u32 0, .int .u32 0, .slice none 0 0] := HROW.out.keep hn14.size (hn14.block W.heap.size (by omega) (by omega) (fun e => by cases e))
  have hq0 := hrow4.cell 0 (by simp)
  have hq1 := hrow4.cell 1 (by simp)
  have hq2 := hrow4.cell 2 (by simp)
  have hf0 := hrow4.free 0 (by simp)
  have hf1 := hrow4.free 1 (by simp)
  have hf2 := hrow4.free 2 (by simp)
  simp only [List.getElem_cons_zero, List.getElem_cons_succ] at hq0 hq1 hq2
  have hr5 := ((hrow4.set_ 0 (.int .u32 (p.f : Int))).set_ 1 (.int .u32 (p.t : Int))).set_ 2 (.slice R4 p.ranks.length m4)
  have hgn : W.heap.size ≠ g := by omega
  have hR5 : RAt w0 (((w4.setCell ⟨W.heap.size, 0, none⟩ (.int .u32 (p.f : Int))).setCell ⟨W.heap.size, 1, none⟩ (.int .u32 (p.t : Int))).setCell ⟨W.heap.size, 2, none⟩ (.slice R4 p.ranks.length m4)) g p.ranks.length B4 d4 l := ⟨((hR4.row.other hgn _).other hgn _).other hgn _, hR4.lies, hR4.byte, hR4.cap, hR4.max⟩
  have hne : ∀ a, R4 = some a → a.block ≠ W.heap.size := fun a ha e => by have h1 := hnew4 a ha; have h2 := HN3.out.size; omega
  have hL5 := lies_setCell (lies_setCell (lies_setCell hL4 (p := ⟨W.heap.size, 0, none⟩) (.int .u32 (p.f : Int)) hne) (p := ⟨W.heap.size, 1, none⟩) (.int .u32 (p.t : Int)) hne) (p := ⟨W.heap.size, 2, none⟩) (.slice R4 p.ranks.length m4) hne
  have hn5 : Near none none g W (((w4.setCell ⟨W.heap.size, 0, none⟩ (.int .u32 (p.f : Int))).setCell ⟨W.heap.size, 1, none⟩ (.int .u32 (p.t : Int))).setCell ⟨W.heap.size, 2, none⟩ (.slice R4 p.ranks.length m4)) := by
    have h1 := (Near.of_below (own := none) (g := g) HAL.out).trans hn14
    refine ⟨h1.os, h1.tape, h1.output, by simpa using h1.size, fun b hb hg _ => ?_, .inl rfl⟩
    have hbn : b ≠ W.heap.size := by omega
    rw [Below.heap_setCell _ _ _ _ hbn, Below.heap_setCell _ _ _ _ hbn, Below.heap_setCell _ _ _ _ hbn]
    exact h1.block b hb hg (fun e => by cases e)
  have HR5 := Lib.hid hR5
  have HL5 := Lib.hid hL5
  have HN5 := Lib.hid hn5
  have HR6 := Lib.hid hr5
  have HNEW : Hid (Gr.New W R4) := Lib.hid (new_mono hnew4 (by have := HN3.out.size; omega))
  clear hrow4 hr5 hR5 hL5 hn5 hn14 hR4 hN4 hL4 hnew4 HM3 HN3 hne hc1
  go_wp2_with fail
  have hz0 := HR6.out.cell 0 (by simp)
  have hz1 := HR6.out.cell 1 (by simp)
  have hz2 := HR6.out.cell 2 (by simp)
  simp only [List.set_cons_zero, List.set_cons_succ, List.getElem_cons_zero, List.getElem_cons_succ] at hz0 hz1 hz2
  exact bodyPost_ret (v := .agg #[.int .u32 (p.f : Int), .int .u32 (p.t : Int), .slice R4 p.ranks.length m4]) (by simp [results, Tryz.results39, go_sem, hz0, hz1, hz2]) rfl ⟨R4, m4, B4, d4, rfl, HL5.out, HNEW.out, HR5.out, HN5.out, hm4, hm4'⟩
end Go.Proofs.YtpjoefekhgmlhaaGreat.Tp

namespace Go.Proofs.YtpjoefekhgmlhaaGreat.Tp
open Go.RowKit Mem

theorem lies_near {w w' : World} {g : Nat} {A : Option Addr} {xs : List Value} (h : Lies w A xs) (hn : Near none none g w w') (hg : ∀ a, A = some a → a.block ≠ g) : Lies w' A xs := fun h0 => by
  obtain ⟨b, off, e, hb, hc⟩ := h h0
  refine ⟨b, off, e, Nat.lt_of_lt_of_le hb hn.size, fun i u hu => ?_⟩
  rw [World.cell?_of_block (w := w) (hn.block b hb (hg _ e) (fun e => by cases e))]
  exact hc i u hu
/-- Parts, their ranks in slices that are new since w0, away from a block. -/
def RowsP (w0 w : World) (own : Option Nat) (vs : List Value) (ps : List PartT) : Prop := vs.length = ps.length * 3 ∧ ∀ i (hi : i < ps.length), ∃ R c, vs[i * 3]? = some (.int .u32 (ps[i].f : Int)) ∧ vs[i * 3 + 1]? = some (.int .u32 (ps[i].t : Int)) ∧ vs[i * 3 + 2]? = some (.slice R ps[i].ranks.length c) ∧
  Held w own R (nums ps[i].ranks) ∧ ps[i].ranks.length ≤ c ∧ c ≤ 9223372036854775807 ∧ Gr.New w0 R
theorem RowsP.step {w0 w w' : World} {own own' : Option Nat} {vs : List Value} {ps : List PartT} (h : RowsP w0 w own vs ps) (hg : w.grownBy w' own) (hat : own' = own ∨ own' = some w.heap.size) : RowsP w0 w' own' vs ps :=
  ⟨h.1, fun i hi => by
    obtain ⟨R, c, e1, e2, e3, hh, h2⟩ := h.2 i hi
    exact ⟨R, c, e1, e2, e3, hh.step hg hat, h2⟩⟩
theorem RowsP.below {w0 w w' : World} {own : Option Nat} {vs : List Value} {ps : List PartT} (h : RowsP w0 w own vs ps) (hb : Below w.heap.size w w') : RowsP w0 w' own vs ps :=
  ⟨h.1, fun i hi => by
    obtain ⟨R, c, e1, e2, e3, hh, h2⟩ := h.2 i hi
    exact ⟨R, c, e1, e2, e3, hh.below hb, h2⟩⟩
theorem RowsP.near {w0 w w' : World} {own : Option Nat} {vs : List Value} {ps : List PartT} {g : Nat} (h : RowsP w0 w own vs ps) (hn : Near none none g w w') (hg : g < w0.heap.size) : RowsP w0 w' own vs ps :=
  ⟨h.1, fun i hi => by
    obtain ⟨R, c, e1, e2, e3, hh, h2, h3, h4⟩ := h.2 i hi
    exact ⟨R, c, e1, e2, e3, ⟨lies_near hh.lies hn (fun a ha e => by have := h4 a ha; omega), hh.apart⟩, h2, h3, h4⟩⟩
theorem RowsP.snoc {w0 w : World} {own : Option Nat} {vs : List Value} {ps : List PartT} (h : RowsP w0 w own vs ps) {R : Option Addr} {c : Nat} {p : PartT} (hl : Held w own R (nums p.ranks)) (h1 : p.ranks.length ≤ c) (h2 : c ≤ 9223372036854775807) (hn : Gr.New w0 R) :
    RowsP w0 w own (vs ++ [.int .u32 (p.f : Int), .int .u32 (p.t : Int), .slice R p.ranks.length c]) (ps ++ [p]) := by
  refine ⟨by simp [h.1]; omega, fun i hi => ?_⟩
  rw [List.length_append, List.length_singleton] at hi
  by_cases e : i < ps.length
  · obtain ⟨R', c', e1, e2, e3, hh⟩ := h.2 i e
    refine ⟨R', c', ?_, ?_, ?_, ?_⟩
    · rw [List.getElem?_append_left (by rw [h.1]; omega), List.getElem_append_left e]; exact e1
    · rw [List.getElem?_append_left (by rw [h.1]; omega), List.getElem_append_left e]; exact e2
    · rw [List.getElem?_append_left (by rw [h.1]; omega), List.getElem_append_left e]; exact e3
    · rw [List.getElem_append_left e]; exact hh
  · have ei : i = ps.length := by omega
    subst ei
    refine ⟨R, c, ?_, ?_, ?_, ?_⟩
    · rw [List.getElem?_append_right (by rw [h.1]; exact Nat.le_refl _), h.1]; simp
    · rw [List.getElem?_append_right (by rw [h.1]; omega), h.1]; simp [show ps.length * 3 + 1 - ps.length * 3 = 1 by omega]
    · rw [List.getElem?_append_right (by rw [h.1]; omega), h.1]; simp [show ps.length * 3 + 2 - ps.length * 3 = 2 by omega]
    · simpa using ⟨hl, h1, h2, hn⟩
theorem RowsP.parts {w0 w : World} {own : Option Nat} {vs : List Value} {ps : List PartT} (h : RowsP w0 w own vs ps) {A : Option Addr} (hA : Lies w A vs) : PartsAt w A ps :=
  ⟨vs, h.1, hA, fun i hi => by
    obtain ⟨R, c, e1, e2, e3, hh, h2, h3, _⟩ := h.2 i hi
    exact ⟨R, c, e1, e2, e3, hh.lies, h2, h3⟩⟩
theorem part_info : (Tryz.prog.info? 51).map (fun i => (i.zero, i.size, i.bytes)) = some (some (.agg #[.int .u32 0, .int .u32 0, .slice none 0 0]), 3, 32) := by kernel_rfl
/-- Parts are told, in new memory; the reader has gone on. -/
def RPPost (w0 W : World) (g nodes : Nat) (ps : List PartT) (l : List Nat) (e : Ending) (W' : World) : Prop :=
  ∃ R m B d vs, e = .returned (.slice R ps.length m) ∧ Lies W' R vs ∧ RowsP W W' none vs ps ∧ Gr.New W R ∧ RAt w0 W' g nodes B d l ∧ Near none none g W W' ∧ ps.length ≤ m ∧ m ≤ 9223372036854775807
theorem RowsP.mono {w0 w1 w : World} {own : Option Nat} {vs : List Value} {ps : List PartT} (h : RowsP w1 w own vs ps) (hs : w0.heap.size ≤ w1.heap.size) : RowsP w0 w own vs ps :=
  ⟨h.1, fun i hi => by
    obtain ⟨R, c, e1, e2, e3, hh, h2, h3, h4⟩ := h.2 i hi
    exact ⟨R, c, e1, e2, e3, hh, h2, h3, new_mono h4 hs⟩⟩
theorem RowsP.none {w1 w : World} {own : Option Nat} {vs : List Value} {ps : List PartT} (h : RowsP w1 w own vs ps) : RowsP w1 w none vs ps :=
  ⟨h.1, fun i hi => by
    obtain ⟨R, c, e1, e2, e3, hh, h2⟩ := h.2 i hi
    exact ⟨R, c, e1, e2, e3, hh.none, h2⟩⟩
set_option maxRecDepth 100000 in
set_option maxHeartbeats 2000000 in
theorem rparts_any (w0 W : World) (g n : Nat) (B : Option Addr) (d : Nat) (ps : List PartT) (l : List Nat) (hR : RAt w0 W g n B d (ps.flatMap partB ++ l)) (hB : Below w0.heap.size w0 W) (hg0 : w0.heap.size ≤ g) (h : PartsOk n ps) (hn : n ≤ 256) :
    Calls Tryz.prog 40 #[.agg #[.func (.func 39) #[] #[]], .pointer (some ⟨g, 0, none⟩), .int .i64 (ps.length : Int)] W (RPPost w0 W g n ps l) := by
  have hfew := h.meets.few
  obtain ⟨W1, hW1⟩ : ∃ W1, W1 = W.alloc (.cells #[.func (.func 39) #[] #[]] 93) := ⟨_, rfl⟩
  have hal : Below W.heap.size W W1 := by rw [hW1]; exact (Below.refl _ _).alloc (Nat.le_refl _) _
  have s1 : W1.heap.size = W.heap.size + 1 := by rw [hW1]; simp
  have hbx : W1.cell? ⟨W.heap.size, 0, none⟩ = some (.func (.func 39) #[] #[]) := by rw [hW1, cell_of_row _ _ 0 _ _ (0, 0) (heap_alloc_new W _)]; rfl
  have hR1 := hR.near hal
  have hB1 := hB.trans (hal.mono hB.size)
  have hglt := hR.row.lt
  have HW1 := Lib.hid hW1
  have HR1 := Lib.hid hR1
  have HB1 := Lib.hid hB1
  have HBX := Lib.hid hbx
  have H := Lib.hid h
  have HAL := Lib.hid hal
  clear hW1 hR1 hB1 hbx h hR hB hal
  go_enter Tryz.func40, Tryz.ntmps40
  go_wp2_with fail
  rw [← HW1.out]
  go_loopw [7, 10] (fun s i wr => ∃ (k : Nat) (B : Option Addr) (d : Nat) (S : Option Addr) (cp : Nat) (vs : List Value), k ≤ ps.length ∧ i = .int .i64 k ∧ s = .slice S k cp ∧ wr.ownsRow W1.heap.size 51 3 (.slice S k cp) k vs ∧ Hid (RowsP W1 wr (Value.slice S k cp).ownBlock vs (ps.take k)) ∧ Hid (RAt w0 wr g n B d ((ps.drop k).flatMap partB ++ l)) ∧ Hid (Near none none g W1 wr)) (fun _ i _ => ps.length - (intOf i).toNat)
  case atStart => exact ⟨0, B, d, none, 0, [], by omega, rfl, rfl, World.ownsRow_nil _ _ _ _, Lib.hid ⟨rfl, fun i hi => absurd hi (by simp)⟩, HR1, Lib.hid (.of_below (Below.refl _ _))⟩
  case round =>
    clear HR1
    obtain ⟨k, B', d', S, cp, vs, hk, rfl, rfl, hown, HPr, HRr, HNr⟩ := hrel
    obtain ⟨S0, cp0, e0, hc1, hc2⟩ := own_form hown
    injection e0 with e0 _ e2
    subst e0 e2
    by_cases hlt : k < ps.length
    · have hgs : (Value.slice S k cp).ownBlock ≠ some g := fun e => by have := (hown.lt g e).1; omega
      have hbw : Below w0.heap.size w0 wr := near_to HB1.out hg0 HNr.out
      have hcell : wr.cell? ⟨W.heap.size, 0, none⟩ = some (.func (.func 39) #[] #[]) := by
        rw [World.cell?_of_block (w := W1) (HNr.out.block W.heap.size (by omega) (by omega) (fun e => by cases e))]; exact HBX.out
      have hsp : (ps.drop k).flatMap partB ++ l = partB ps[k] ++ ((ps.drop (k + 1)).flatMap partB ++ l) := by rw [List.drop_eq_getElem_cons hlt, List.flatMap_cons, List.append_assoc]
      have hrr := HRr.out
      rw [hsp] at hrr
      have hmem := List.getElem_mem hlt
      have hpl := H.out.len _ hmem
      have hpn := H.out.meets.num _ hmem
      have hgr := rpart_any w0 wr g B' d' ps[k] _ (by rw [hpl]; exact hrr) hbw hg0 (fun x hx => by have := H.out.rank _ hmem x hx; omega) (by omega) hpn.1 hpn.2
      rw [hpl] at hgr
      have htk : ps.take (k + 1) = ps.take k ++ [ps[k]] := List.take_succ_eq_append_getElem hlt
      obtain ⟨p, hp⟩ : ∃ p, p = ps[k] := ⟨_, rfl⟩
      rw [← hp] at hgr htk hpl
      have hgo : ∀ b, (Value.slice S k cp).ownBlock = some b → b < wr.heap.size := fun b e => (hown.lt b e).2
      have HGR := Lib.hid hgr
      have HTK := Lib.hid htk
      have HOWN := Lib.hid hown
      have HGS := Lib.hid hgs
      have HGO := Lib.hid hgo
      have HPL := Lib.hid hpl
      clear hrr hgr htk hown hbw hsp hp hgs hgo hmem hpl hpn
      go_wp2_with fail
      refine (HGR.out).mono ?_
      rintro e w4 ⟨R4, m4, B4, d4, rfl, hL4, hnew4, hR4, hN4, hm4, hm4'⟩
      have hown4 := own_near HOWN.out hN4 HGS.out
      have hP4 := HPr.out.near hN4 (by omega)
      have hheld4 : Held w4 (Value.slice S k cp).ownBlock R4 (nums p.ranks) := Held.fresh hL4 hnew4 HGO.out
      have hsn4 := hP4.snoc hheld4 hm4 hm4' (new_mono hnew4 HNr.out.size)
      rw [← HTK.out] at hsn4
      have hn4w := HNr.out.trans hN4
      obtain ⟨L, hL⟩ : ∃ L, L = p.ranks.length := ⟨_, rfl⟩
      rw [← hL] at hsn4 ⊢
      have ha5 : Below w4.heap.size w4 (w4.alloc (.cells #[.int .u32 (p.f : Int), .int .u32 (p.t : Int), .slice R4 L m4] 51)) := (Below.refl _ _).alloc (Nat.le_refl _) _
      obtain ⟨w5, hw5⟩ : ∃ w5, w5 = w4.alloc (.cells #[.int .u32 (p.f : Int), .int .u32 (p.t : Int), .slice R4 L m4] 51) := ⟨_, rfl⟩
      have s5 : w5.heap.size = w4.heap.size + 1 := by rw [hw5]; simp
      rw [← hw5] at ha5
      have hq : ∀ i u, #[.int .u32 (p.f : Int), .int .u32 (p.t : Int), .slice R4 L m4][i]? = some u → w5.cell? ⟨w4.heap.size, i, none⟩ = some u := fun i u hu => by
        rw [hw5, cell_of_row _ _ i _ _ (0, 0) (heap_alloc_new w4 _)]; exact hu
      have hq0 : w5.cell? ⟨w4.heap.size, 0, none⟩ = some (.int .u32 (p.f : Int)) := hq 0 _ rfl
      have hq1 : w5.cell? ⟨w4.heap.size, 1, none⟩ = some (.int .u32 (p.t : Int)) := hq 1 _ rfl
      have hq2 : w5.cell? ⟨w4.heap.size, 2, none⟩ = some (.slice R4 L m4) := hq 2 _ rfl
      have hc4 : w4.cell? ⟨g, 2, none⟩ = some (.int .i64 0) := hR4.row.cell 2 (by simp)
      have hc5 : w5.cell? ⟨g, 2, none⟩ = some (.int .i64 0) := (hR4.near ha5).row.cell 2 (by simp)
      have ha6 : Below w5.heap.size w5 (w5.alloc (.cells #[.int .u32 (p.f : Int), .int .u32 (p.t : Int), .slice R4 L m4] 51)) := (Below.refl _ _).alloc (Nat.le_refl _) _
      have hone := Lies.new w5 #[.int .u32 (p.f : Int), .int .u32 (p.t : Int), .slice R4 L m4] 51
      have hR6 := (hR4.near ha5).near ha6
      have hown6 := own_below (own_below hown4 ha5) ha6
      have hsn6 := (hsn4.below ha5).below ha6
      have hn6 := (hn4w.trans (.of_below ha5)).trans (.of_below ha6)
      have hsz6 := hn6.size
      rw [s5] at hone
      rw [hw5] at hone hR6 hown6 hsn6 hn6 hsz6 hq0 hq1 hq2 hc5
      have HR6 := Lib.hid hR6
      have HN6 := Lib.hid hn6
      have HSN := Lib.hid hsn6
      have HONE := Lib.hid hone
      have HOL : Hid (∀ b, (Value.slice S k cp).ownBlock = some b → W1.heap.size ≤ b) := Lib.hid fun b e => (hown6.lt b e).1
      obtain ⟨i0, hi, hz0, hz1, hz2⟩ := info_parts part_info
      clear hcell hR4 hN4 hL4 hnew4 hown4 hP4 hheld4 hsn4 hn4w hL ha5 hw5 s5 hq ha6 hone hR6 hsn6 hn6 HGR HOWN HNr HRr HPr
      go_wp2_with (at_builtin; refine wpList_append_lies _ rfl (.tmp 21) (.tmp 23) _ rfl W1.heap.size 51 i0 _ 3 32 Tryz.underlying28 hi hz0 hz1 hz2 rfl (by omega) (.slice S k cp) k _ rfl hown6 _ 1 1 _ rfl rfl HONE.out (by intro u hu; simp at hu; rcases hu with rfl | rfl | rfl <;> rfl) (by simp only [maxLen]; omega) (by omega) hsz6 ?_; intro v7 w7 hown7 hg7 hat7; obtain ⟨S7, c7, rfl, _, _⟩ := own_form hown7)
      refine ⟨⟨k + 1, B4, d4, S7, c7, _, by omega, by go_num, rfl, hown7, Lib.hid (HSN.out.step hg7 hat7), Lib.hid ⟨HR6.out.row.keep hg7.size (hg7.block g HR6.out.row.lt (fun e => HGS.out e.symm)), HR6.out.lies, HR6.out.byte, HR6.out.cap, HR6.out.max⟩, Lib.hid (near_grown HN6.out hg7 HOL.out)⟩, by simp [intOf]; omega⟩
    · obtain rfl : k = ps.length := by omega
      have hR := HRr.out
      have hP := HPr.out
      rw [List.drop_of_length_le (Nat.le_refl _)] at hR
      rw [List.take_of_length_le (Nat.le_refl _)] at hP
      have HRf : Hid (RAt w0 wr g n B' d' l) := Lib.hid (by simpa using hR)
      have HPf : Hid (RowsP W wr none vs ps) := Lib.hid (hP.none.mono HAL.out.size)
      clear hR hP
      go_wp2_with fail
      go_ret
      exact ⟨S, cp, B', d', vs, rfl, .of_own hown, HPf.out, new_mono (new_of hown) HAL.out.size, HRf.out, (Near.of_below HAL.out).trans HNr.out, hc1, hc2⟩
end Go.Proofs.YtpjoefekhgmlhaaGreat.Tp
