/- CONTRACT of certfile.Take, of bytes that certfile.Put makes: words, and a certificate of no loop. Conditions: at most 1000000 bytes. · CONTRACTS: trie's span.meet, span.holds. Conditions: lengths 0 to 32, addresses below 2^32. -/
import Derived.Test.YtpjoefekhgmlhaaGreatMb19
import Derived.Deep.RegionHeld3
import Derived.Test.YtpjoefekhgmlhaaGreatMb09
import Derived.WalkLawsBesides
namespace Go.Proofs.YtpjoefekhgmlhaaGreat.Tp
open Go.RowKit Mem

theorem heap_set {w : World} {b k : Nat} {cs : Array Value} {t : TypeId} (h : w.heap[b]? = some (.cells cs t (0, 0))) (v : Value) : (w.setCell ⟨b, k, none⟩ v).heap[b]? = some (.cells (cs.setIfInBounds k v) t (0, 0)) := by
  unfold World.setCell
  simp [Array.getElem?_modify, h]
theorem below_set2 {B : Nat} {w W : World} (h : Below B w W) {b k : Nat} (v : Value) : Below B (w.setCell ⟨b, k, none⟩ v) (W.setCell ⟨b, k, none⟩ v) := by
  refine ⟨h.os, h.tape, h.output, by simpa using h.size, fun i hi => ?_⟩
  unfold World.setCell
  rw [Array.getElem?_modify, Array.getElem?_modify, h.block i hi]
/-- No cell of it is a byte. -/
def NoByte (cs : Array Value) : Prop := ∀ (i : Nat) (x : Int), cs[i]? ≠ some (.int .u8 x)
theorem lies_noByte {w : World} {A : Option Addr} {l : List Nat} {b k : Nat} {cs : Array Value} {t : TypeId} (h : Lies w A (bytes l)) (hb : w.heap[b]? = some (.cells cs t (0, 0))) (hn : NoByte cs) (v : Value) : Lies (w.setCell ⟨b, k, none⟩ v) A (bytes l) := fun hl => by
  obtain ⟨g, off, e, hg, hc⟩ := h hl
  have hne : b ≠ g := fun he => by
    subst he
    cases l with
    | nil => simp at hl
    | cons x l =>
      have h0 := hc 0 _ (by rfl)
      rw [cell_of_row w b (off + 0) cs t (0, 0) hb] at h0
      exact hn _ _ h0
  exact ⟨g, off, e, by simpa using hg, fun i u hu => by
    rw [World.cell?_setCell_other (h := by intro e'; injection e' with e' _ _; exact hne e')]
    exact hc i u hu⟩
/-- A reader, and a block beside it that holds no bytes. -/
structure Hold (w0 W : World) (g nodes : Nat) (B : Option Addr) (d : Nat) (l : List Nat) (b2 : Nat) (cs : Array Value) (t : TypeId) : Prop where
  rat : RAt w0 W g nodes B d l
  below : Below w0.heap.size w0 W
  blk : w0.heap[b2]? = some (.cells cs t (0, 0))
  low : w0.heap.size ≤ g
theorem Hold.lt {w0 W : World} {g nodes : Nat} {B : Option Addr} {d : Nat} {l : List Nat} {b2 : Nat} {cs : Array Value} {t : TypeId} (h : Hold w0 W g nodes B d l b2 cs t) : b2 < w0.heap.size := by
  rcases Nat.lt_or_ge b2 w0.heap.size with h' | h'
  · exact h'
  · have := h.blk; rw [Array.getElem?_eq_none h'] at this; cases this
theorem Hold.here {w0 W : World} {g nodes : Nat} {B : Option Addr} {d : Nat} {l : List Nat} {b2 : Nat} {cs : Array Value} {t : TypeId} (h : Hold w0 W g nodes B d l b2 cs t) : W.heap[b2]? = some (.cells cs t (0, 0)) := (h.below.block b2 h.lt).trans h.blk
theorem Hold.set_ {w0 W : World} {g nodes : Nat} {B : Option Addr} {d : Nat} {l : List Nat} {b2 : Nat} {cs : Array Value} {t : TypeId} (h : Hold w0 W g nodes B d l b2 cs t) (hn : NoByte cs) (k : Nat) (v : Value) : Hold (w0.setCell ⟨b2, k, none⟩ v) (W.setCell ⟨b2, k, none⟩ v) g nodes B d l b2 (cs.setIfInBounds k v) t := by
  have hlt := h.lt
  have hlow := h.low
  refine ⟨⟨h.rat.row.other (p := ⟨b2, k, none⟩) (by show b2 ≠ g; omega) v, lies_noByte h.rat.lies h.blk hn v, h.rat.byte, h.rat.cap, h.rat.max⟩, ?_, heap_set h.blk v, by simpa using hlow⟩
  have := below_set2 (b := b2) (k := k) h.below v
  simpa using this
/-- Behind a step of the reader's. -/
theorem Hold.step {w0 W W' : World} {g nodes nodes' : Nat} {B B' : Option Addr} {d d' : Nat} {l l' : List Nat} {b2 : Nat} {cs : Array Value} {t : TypeId} (h : Hold w0 W g nodes B d l b2 cs t) (hR : RAt w0 W' g nodes' B' d' l') (hN : Near none none g W W') : Hold w0 W' g nodes' B' d' l' b2 cs t :=
  ⟨hR, near_to h.below h.low hN, h.blk, h.low⟩
theorem Hold.nodes {w0 W : World} {g nodes : Nat} {B : Option Addr} {d : Nat} {l : List Nat} {b2 : Nat} {cs : Array Value} {t : TypeId} (h : Hold w0 W g nodes B d l b2 cs t) (n : Nat) : Hold w0 (W.setCell ⟨g, 1, none⟩ (.int .i64 (n : Int))) g n B d l b2 cs t :=
  ⟨⟨h.rat.row.set_ 1 _, h.rat.lies, h.rat.byte, h.rat.cap, h.rat.max⟩, h.below.setCell (p := ⟨g, 1, none⟩) h.low _, h.blk, h.low⟩
theorem row_of {w : World} {b : Nat} {cs : Array Value} {t : TypeId} (h : w.heap[b]? = some (.cells cs t (0, 0))) : VRow w b cs.toList := by
  refine ⟨?_, fun i hi => ?_, fun i hi => frozen_of_row _ _ i _ t h⟩
  · rcases Nat.lt_or_ge b w.heap.size with h' | h'
    · exact h'
    · rw [Array.getElem?_eq_none h'] at h; cases h
  · rw [cell_of_row _ _ i _ t (0, 0) h]
    simp at hi
    simp [hi]
/-- A certificate is told, and how many nodes. -/
def CTakePost (w : World) (n : Nat) (c : CertT) (e : Ending) (w' : World) : Prop := ∃ v, e = .returned (.tuple #[v, .int .i64 (n : Int), .int .i64 0]) ∧ CertAt w' v c ∧ Below w.heap.size w w'
theorem certIn_parts {n : Nat} {c : CertT} (h : c.verdict = 1) : certIn n c = be 1 c.verdict ++ (gp n ++ (gp c.parts.length ++ (c.parts.flatMap partB ++ []))) := by
  unfold certIn headB; rw [if_pos h]; simp [List.append_assoc]
theorem certIn_trace {n : Nat} {c : CertT} (h : c.verdict = 2) : certIn n c = be 1 c.verdict ++ (gp n ++ (be 4 c.dest ++ (gp c.trace.length ++ (c.trace.flatMap gp ++ [])))) := by
  unfold certIn headB; rw [if_neg (by omega)]; simp [List.append_assoc]

set_option maxRecDepth 100000 in
set_option maxHeartbeats 2000000 in
theorem ctake_parts (A : Option Addr) (N cp n : Nat) (c : CertT) (w : World) (e1 : c.verdict = 1) (hps : PartsOk n c.parts) (hd : c.dest = 0) (htr : c.trace = []) (hn : n ≤ 256) (hM : (certIn n c).length ≤ 1000000) (hN : (certB n c).length = N) (hA : Lies w A (bytes (certB n c))) (hc : N ≤ cp) (hc2 : cp ≤ 9223372036854775807) :
    Calls Tryz.prog 15 #[.slice A N cp] w (CTakePost w n c) := by
  have hok : CertOk n c := .inl ⟨e1, hps, hd, htr⟩
  obtain ⟨w1, hw1⟩ : ∃ w1, w1 = w.alloc (.cells #[.int .i64 0, .slice none 0 0, .int .u32 0, .slice none 0 0] 31) := ⟨_, rfl⟩
  have s1 : w1.heap.size = w.heap.size + 1 := by rw [hw1]; simp
  have ba : Below w.heap.size w w1 := by rw [hw1]; exact (Below.refl _ _).alloc (Nat.le_refl _) _
  have hblk : w1.heap[w.heap.size]? = some (.cells #[.int .i64 0, .slice none 0 0, .int .u32 0, .slice none 0 0] 31 (0, 0)) := by rw [hw1]; exact heap_alloc_new w _
  have hft := ftake_any A N cp (certIn n c) 1129468977 w1 (by omega) (by rw [← hN]; exact frameB_len _ _) (hA.below ba) (certIn_lt hok hn) hM hc hc2
  have hcm := fun v W (hv : CertAt W v c) => cmay_any v n n c W hv hok hn
  rw [cmayE_self hok] at hcm
  have hcap : (certIn n c).length = (certIn n c).length := rfl
  have hbyte := certIn_lt hok hn
  have hspl := certIn_parts (n := n) e1
  obtain ⟨L, hL0⟩ : ∃ L, L = (certIn n c).length := ⟨_, rfl⟩
  have t1 : ((c.verdict : Int) != 1) = false := by rw [e1]; rfl
  have t2 : ((c.verdict : Int) == 1) = true := by rw [e1]; rfl
  have HW1 := Lib.hid hw1
  have HFT := Lib.hid hft
  have HCM := Lib.hid hcm
  have HBA := Lib.hid ba
  have HBLK := Lib.hid hblk
  have HBYTE := Lib.hid hbyte
  have HSPL := Lib.hid hspl
  have HPS := Lib.hid hps
  have HE := Lib.hid (And.intro e1 (And.intro hd htr))
  clear hok hw1 hft hcm ba hblk hbyte hspl hps e1 hd htr hA hN hcap hM
  go_enter Tryz.func15, Tryz.ntmps15
  go_wp2_with fail
  rw [← HW1.out]
  refine (HFT.out).mono ?_
  rintro e w2 ⟨R, m, rfl, hL, hb2, hm1, hm2⟩
  rw [bytes_len] at hm1
  rw [bytes_len, ← hL0]
  rw [← hL0] at hm1
  obtain ⟨w3, hw3⟩ : ∃ w3, w3 = w2.alloc (.cells #[.slice R L m, .int .i64 0, .int .i64 0] 87) := ⟨_, rfl⟩
  have h3 : Below w2.heap.size w2 w3 := by rw [hw3]; exact (Below.refl _ _).alloc (Nat.le_refl _) _
  have hrow3 : VRow w3 w2.heap.size [.slice R L m, .int .i64 0, .int .i64 0] := by rw [hw3]; exact VRow.new w2 #[.slice R L m, .int .i64 0, .int .i64 0] _
  have hblk2 := (hb2.block w.heap.size (by omega)).trans HBLK.out
  have hH3 : Hold w2 w3 w2.heap.size 0 R m (certIn n c) w.heap.size _ _ := ⟨⟨by rw [← hL0]; exact hrow3, hL, HBYTE.out, by rw [← hL0]; exact hm1, hm2⟩, h3, hblk2, Nat.le_refl _⟩
  rw [HSPL.out] at hH3
  have hn1 := rnum_any w2 w3 w2.heap.size 0 R m 1 c.verdict (be 1 c.verdict) _ hH3.rat hH3.below (by omega) rfl ofBe_be1
  have hbw3 : Below w.heap.size w w3 := (HBA.out.trans (hb2.mono HBA.out.size)).trans (h3.mono (by have := hb2.size; omega))
  have HW3 := Lib.hid hw3
  have HN1 := Lib.hid hn1
  have HH3 := Lib.hid hH3
  have HB3 := Lib.hid hbw3
  have gw : w.heap.size < w2.heap.size := by have := hb2.size; omega
  clear hw3 h3 hrow3 hblk2 hH3 hn1 hbw3 hL hb2 HFT HBA HBLK HBYTE HW1 HSPL hL0
  go_wp2_with fail
  rw [← HW3.out]
  refine (HN1.out).mono ?_
  rintro e w4 ⟨B4, d4, rfl, hR4, hN4⟩
  have HH4 := Lib.hid (HH3.out.step hR4 hN4)
  have HB4 := Lib.hid (HB3.out.trans (hN4.below (by omega) (fun b hb => (by cases hb)) HB3.out.size))
  have hrow := row_of HH4.out.here
  have hq0 : w4.cell? ⟨w.heap.size, 0, none⟩ = some (.int .i64 0) := hrow.cell 0 (by simp)
  have hf0 := hrow.free 0 (by simp)
  have HH5 := Lib.hid (HH4.out.set_ (by intro i x; rcases i with _ | _ | _ | _ | i <;> simp) 0 (.int .i64 (c.verdict : Int)))
  have HB5 := Lib.hid (HB4.out.setCell (p := ⟨w.heap.size, 0, none⟩) (Nat.le_refl _) (.int .i64 (c.verdict : Int)))
  obtain ⟨w5, hw5⟩ : ∃ w5, w5 = w4.setCell ⟨w.heap.size, 0, none⟩ (.int .i64 (c.verdict : Int)) := ⟨_, rfl⟩
  obtain ⟨v5, hv5⟩ : ∃ v5, v5 = w2.setCell ⟨w.heap.size, 0, none⟩ (.int .i64 (c.verdict : Int)) := ⟨_, rfl⟩
  rw [← hw5, ← hv5] at HH5
  have hrow5 := row_of HH5.out.here
  have hz0 : w5.cell? ⟨w.heap.size, 0, none⟩ = some (.int .i64 (c.verdict : Int)) := hrow5.cell 0 (by simp)
  have hz0' := hz0
  rw [hw5] at hz0'
  rw [← hw5] at HB5
  have hn5 := rcount_any v5 w5 w2.heap.size 0 B4 d4 n 256 _ HH5.out.rat HH5.out.below (by omega) hn
  have HN5 := Lib.hid hn5
  have HW5 := Lib.hid hw5
  clear hR4 hN4 hrow hrow5 hn5 hw5 hz0 hv5 HN1 HW3 HH3 HB3
  go_wp2_with fail
  rw [← HW5.out]
  clear hq0 hf0 hz0'
  refine (HN5.out).mono ?_
  rintro e w6 ⟨B6, d6, rfl, hR6, hN6⟩
  have HH6 := Lib.hid (HH5.out.step hR6 hN6)
  have HB6 := Lib.hid (HB5.out.trans (hN6.below (by omega) (fun b hb => (by cases hb)) HB5.out.size))
  have hg1 : w6.cell? ⟨w2.heap.size, 1, none⟩ = some (.int .i64 0) := hR6.row.cell 1 (by simp)
  have hgf : w6.frozen? ⟨w2.heap.size, 1, none⟩ = false := hR6.row.free 1 (by simp)
  have HH7 := Lib.hid (HH6.out.nodes n)
  have HB7 := Lib.hid (HB6.out.setCell (p := ⟨w2.heap.size, 1, none⟩) (Nat.le_of_lt gw) (.int .i64 (n : Int)))
  obtain ⟨w7, hw7⟩ : ∃ w7, w7 = w6.setCell ⟨w2.heap.size, 1, none⟩ (.int .i64 (n : Int)) := ⟨_, rfl⟩
  rw [← hw7] at HH7 HB7
  have hz : w7.cell? ⟨w.heap.size, 0, none⟩ = some (.int .i64 (c.verdict : Int)) := (row_of HH7.out.here).cell 0 (by simp)
  have hz' := hz
  rw [hw7] at hz'
  have hfew := HPS.out.meets.few
  have hn7 := rcount_any v5 w7 w2.heap.size n B6 d6 c.parts.length 8193 _ HH7.out.rat HH7.out.below (by omega) hfew
  have HN7 := Lib.hid hn7
  have HW7 := Lib.hid hw7
  clear hR6 hN6 hz hn7 hw7 HN5 HW5 HH5 HB5 HH4 HB4 HH6 HB6
  go_wp2_with fail
  rw [← HW7.out]
  clear hg1 hgf hz'
  refine (HN7.out).mono ?_
  rintro e w8 ⟨B8, d8, rfl, hR8, hN8⟩
  have HH8 := Lib.hid (HH7.out.step hR8 hN8)
  have HB8 := Lib.hid (HB7.out.trans (hN8.below (by omega) (fun b hb => (by cases hb)) HB7.out.size))
  have hn8 := rparts_any v5 w8 w2.heap.size n B8 d8 c.parts [] HH8.out.rat HH8.out.below HH8.out.low HPS.out hn
  have HN8 := Lib.hid hn8
  clear hR8 hN8 hn8 HN7 HW7 HH7 HB7
  go_wp2_with fail
  refine (HN8.out).mono ?_
  rintro e w9 ⟨R9, m9, B9, d9, vs, rfl, hL9, hP9, hnew9, hR9, hN9, hm9, hm9'⟩
  have HH9 := Lib.hid (HH8.out.step hR9 hN9)
  have HB9 := Lib.hid (HB8.out.trans (hN9.below (by omega) (fun b hb => (by cases hb)) HB8.out.size))
  have hrow9 := row_of HH9.out.here
  have hq1 : w9.cell? ⟨w.heap.size, 1, none⟩ = some (.slice none 0 0) := hrow9.cell 1 (by simp)
  have hf1 : w9.frozen? ⟨w.heap.size, 1, none⟩ = false := hrow9.free 1 (by simp)
  have HH10 := Lib.hid (HH9.out.set_ (by intro i x; rcases i with _ | _ | _ | _ | i <;> simp) 1 (.slice R9 c.parts.length m9))
  have HB10 := Lib.hid (HB9.out.setCell (p := ⟨w.heap.size, 1, none⟩) (Nat.le_refl _) (.slice R9 c.parts.length m9))
  have hset := Near.set_ none w.heap.size 1 w9 (.slice R9 c.parts.length m9)
  have hlt8 : w.heap.size < w8.heap.size := by have := HH8.out.rat.row.lt; omega
  have hpa : PartsAt (w9.setCell ⟨w.heap.size, 1, none⟩ (.slice R9 c.parts.length m9)) R9 c.parts := (hP9.near hset hlt8).parts (lies_near hL9 hset (fun a ha e => by have := hnew9 a ha; omega))
  obtain ⟨w10, hw10⟩ : ∃ w10, w10 = w9.setCell ⟨w.heap.size, 1, none⟩ (.slice R9 c.parts.length m9) := ⟨_, rfl⟩
  rw [← hw10] at HH10 HB10 hpa
  have HPA := Lib.hid hpa
  have HW10 := Lib.hid hw10
  have hr10 := HH10.out.rat.row
  rw [List.length_nil] at hr10
  have hr10' := hr10
  rw [hw10] at hr10'
  have hy0 : (w9.setCell ⟨w.heap.size, 1, none⟩ (.slice R9 c.parts.length m9)).cell? ⟨w2.heap.size, 0, none⟩ = some (.slice B9 0 d9) := hr10'.cell 0 (by simp)
  have hy2 : (w9.setCell ⟨w.heap.size, 1, none⟩ (.slice R9 c.parts.length m9)).cell? ⟨w2.heap.size, 2, none⟩ = some (.int .i64 0) := hr10'.cell 2 (by simp)
  clear hR9 hN9 hrow9 hset hL9 hP9 hnew9 hpa hr10 hr10' hw10 HN8 HH8 HB8 HH9 HB9
  go_wp2_with fail
  rw [← HW10.out]
  clear hq1 hf1 hy0 hy2
  have KS : Hid (∀ W, Below w10.heap.size w10 W → ((W.cell? ⟨w.heap.size, 0, none⟩ = some (.int .i64 (c.verdict : Int)) ∧ W.cell? ⟨w.heap.size, 1, none⟩ = some (.slice R9 c.parts.length m9) ∧ W.cell? ⟨w.heap.size, 2, none⟩ = some (.int .u32 0) ∧ W.cell? ⟨w.heap.size, 3, none⟩ = some (.slice none 0 0)) ∧ (W.frozen? ⟨w.heap.size, 0, none⟩ = false ∧ W.frozen? ⟨w.heap.size, 1, none⟩ = false ∧ W.frozen? ⟨w.heap.size, 2, none⟩ = false ∧ W.frozen? ⟨w.heap.size, 3, none⟩ = false) ∧ W.cell? ⟨w2.heap.size, 1, none⟩ = some (.int .i64 (n : Int)) ∧ W.cell? ⟨w2.heap.size, 2, none⟩ = some (.int .i64 0) ∧ W.frozen? ⟨w2.heap.size, 2, none⟩ = false ∧ CertAt W (.agg #[.int .i64 (c.verdict : Int), .slice R9 c.parts.length m9, .int .u32 0, .slice none 0 0]) c ∧ Below w.heap.size w W)) := Lib.hid fun W hW => by
    have HH := HH10.out.step (HH10.out.rat.near hW) (.of_below hW)
    have hrow := row_of HH.here
    have hr := HH.rat.row
    obtain ⟨_, h2, h3⟩ := HE.out
    exact ⟨⟨hrow.cell 0 (by simp), hrow.cell 1 (by simp), hrow.cell 2 (by simp), hrow.cell 3 (by simp)⟩, ⟨hrow.free 0 (by simp), hrow.free 1 (by simp), hrow.free 2 (by simp), hrow.free 3 (by simp)⟩, hr.cell 1 (by simp), hr.cell 2 (by simp), hr.free 2 (by simp),
      ⟨R9, none, m9, 0, by rw [h2, h3]; rfl, HPA.out.below hW, by rw [h3]; exact Lies.nil _ _⟩, HB10.out.trans (hW.mono HB10.out.size)⟩
  have hcm := HCM.out _ _ (KS.out w10.drew (below_drew (Below.refl _ _))).2.2.2.2.2.1
  have HCM2 := Lib.hid hcm
  clear hcm HH10 HB10 HW10 HPA HCM
  go_region_held3 (fun W => (W.cell? ⟨w.heap.size, 0, none⟩ = some (.int .i64 (c.verdict : Int)) ∧ W.cell? ⟨w.heap.size, 1, none⟩ = some (.slice R9 c.parts.length m9) ∧ W.cell? ⟨w.heap.size, 2, none⟩ = some (.int .u32 0) ∧ W.cell? ⟨w.heap.size, 3, none⟩ = some (.slice none 0 0)) ∧ (W.frozen? ⟨w.heap.size, 0, none⟩ = false ∧ W.frozen? ⟨w.heap.size, 1, none⟩ = false ∧ W.frozen? ⟨w.heap.size, 2, none⟩ = false ∧ W.frozen? ⟨w.heap.size, 3, none⟩ = false) ∧ W.cell? ⟨w2.heap.size, 1, none⟩ = some (.int .i64 (n : Int)) ∧ W.cell? ⟨w2.heap.size, 2, none⟩ = some (.int .i64 0) ∧ W.frozen? ⟨w2.heap.size, 2, none⟩ = false ∧ CertAt W (.agg #[.int .i64 (c.verdict : Int), .slice R9 c.parts.length m9, .int .u32 0, .slice none 0 0]) c ∧ Below w.heap.size w W)
    (first | exact KS.out _ (below_drew (Below.refl _ _)) | exact KS.out _ ((below_drew (Below.refl _ _)).trans hb12) | (rw [setCell_self (KS.out _ ((below_drew (Below.refl _ _)).trans hb12)).2.2.2.1]; exact KS.out _ ((below_drew (Below.refl _ _)).trans hb12)))
    (first | (go_at_call 24; refine (HCM2.out).mono ?_; rintro e w12 ⟨rfl, hb12⟩; have hs2 := setCell_self (KS.out _ ((below_drew (Below.refl _ _)).trans hb12)).2.2.2.1))
  obtain ⟨⟨hx0, hx1, hx2, hx3⟩, ⟨hf0, hf1, hf2, hf3⟩, hy1, hy2, hy3, hcert, hbe⟩ := KS.out _ ((below_drew (Below.refl _ _)).trans hb12)
  have HCE := Lib.hid hcert
  have HBE := Lib.hid hbe
  clear hs2 hb12 hcert hbe KS HCM2
  have z0 := setCell_self hx0
  have z1 := setCell_self hx1
  have z2 := setCell_self hx2
  have z3 := setCell_self hx3
  go_wp2_with fail
  go_region
  go_wp2_with fail
  refine bodyPost_ret (v := .tuple #[.agg #[.int .i64 (c.verdict : Int), .slice R9 c.parts.length m9, .int .u32 0, .slice none 0 0], .int .i64 (n : Int), .int .i64 0]) (by simp [results, Tryz.results15, go_sem, hx0, hx1, hx2, hx3]) rfl ⟨_, rfl, HCE.out.below (below_drew (Below.refl _ _)), below_drew HBE.out⟩

set_option maxRecDepth 100000 in
set_option maxHeartbeats 2000000 in
theorem ctake_trace (A : Option Addr) (N cp n : Nat) (c : CertT) (w : World) (e1 : c.verdict = 2) (hps : c.parts = []) (hd : c.dest < 4294967296) (htr : TraceOk c.trace) (hln : c.trace.length ≤ n) (hlt : ∀ x ∈ c.trace, x < n) (hn : n ≤ 256) (hM : (certIn n c).length ≤ 1000000) (hN : (certB n c).length = N) (hA : Lies w A (bytes (certB n c))) (hc : N ≤ cp) (hc2 : cp ≤ 9223372036854775807) :
    Calls Tryz.prog 15 #[.slice A N cp] w (CTakePost w n c) := by
  have hok : CertOk n c := .inr ⟨e1, hps, hd, htr, hln, hlt⟩
  obtain ⟨w1, hw1⟩ : ∃ w1, w1 = w.alloc (.cells #[.int .i64 0, .slice none 0 0, .int .u32 0, .slice none 0 0] 31) := ⟨_, rfl⟩
  have s1 : w1.heap.size = w.heap.size + 1 := by rw [hw1]; simp
  have ba : Below w.heap.size w w1 := by rw [hw1]; exact (Below.refl _ _).alloc (Nat.le_refl _) _
  have hblk : w1.heap[w.heap.size]? = some (.cells #[.int .i64 0, .slice none 0 0, .int .u32 0, .slice none 0 0] 31 (0, 0)) := by rw [hw1]; exact heap_alloc_new w _
  have hft := ftake_any A N cp (certIn n c) 1129468977 w1 (by omega) (by rw [← hN]; exact frameB_len _ _) (hA.below ba) (certIn_lt hok hn) hM hc hc2
  have hcm := fun v W (hv : CertAt W v c) => cmay_any v n n c W hv hok hn
  rw [cmayE_self hok] at hcm
  have hcap : (certIn n c).length = (certIn n c).length := rfl
  have hbyte := certIn_lt hok hn
  have hspl := certIn_trace (n := n) e1
  obtain ⟨L, hL0⟩ : ∃ L, L = (certIn n c).length := ⟨_, rfl⟩
  have t0 : ((c.verdict : Int) != 1) = true := by rw [e1]; rfl
  have t1 : ((c.verdict : Int) != 2) = false := by rw [e1]; rfl
  have t2 : ((c.verdict : Int) == 1) = false := by rw [e1]; rfl
  have HW1 := Lib.hid hw1
  have HFT := Lib.hid hft
  have HCM := Lib.hid hcm
  have HBA := Lib.hid ba
  have HBLK := Lib.hid hblk
  have HBYTE := Lib.hid hbyte
  have HSPL := Lib.hid hspl
  have HTR := Lib.hid htr
  have HLT := Lib.hid hlt
  have HD := Lib.hid hd
  have HE := Lib.hid hps
  clear hok hw1 hft hcm ba hblk hbyte hspl hps e1 hd htr hlt hA hN hcap hM
  go_enter Tryz.func15, Tryz.ntmps15
  go_wp2_with fail
  rw [← HW1.out]
  refine (HFT.out).mono ?_
  rintro e w2 ⟨R, m, rfl, hL, hb2, hm1, hm2⟩
  rw [bytes_len] at hm1
  rw [bytes_len, ← hL0]
  rw [← hL0] at hm1
  obtain ⟨w3, hw3⟩ : ∃ w3, w3 = w2.alloc (.cells #[.slice R L m, .int .i64 0, .int .i64 0] 87) := ⟨_, rfl⟩
  have h3 : Below w2.heap.size w2 w3 := by rw [hw3]; exact (Below.refl _ _).alloc (Nat.le_refl _) _
  have hrow3 : VRow w3 w2.heap.size [.slice R L m, .int .i64 0, .int .i64 0] := by rw [hw3]; exact VRow.new w2 #[.slice R L m, .int .i64 0, .int .i64 0] _
  have hblk2 := (hb2.block w.heap.size (by omega)).trans HBLK.out
  have hH3 : Hold w2 w3 w2.heap.size 0 R m (certIn n c) w.heap.size _ _ := ⟨⟨by rw [← hL0]; exact hrow3, hL, HBYTE.out, by rw [← hL0]; exact hm1, hm2⟩, h3, hblk2, Nat.le_refl _⟩
  rw [HSPL.out] at hH3
  have hn1 := rnum_any w2 w3 w2.heap.size 0 R m 1 c.verdict (be 1 c.verdict) _ hH3.rat hH3.below (by omega) rfl ofBe_be1
  have hbw3 : Below w.heap.size w w3 := (HBA.out.trans (hb2.mono HBA.out.size)).trans (h3.mono (by have := hb2.size; omega))
  have HW3 := Lib.hid hw3
  have HN1 := Lib.hid hn1
  have HH3 := Lib.hid hH3
  have HB3 := Lib.hid hbw3
  have gw : w.heap.size < w2.heap.size := by have := hb2.size; omega
  clear hw3 h3 hrow3 hblk2 hH3 hn1 hbw3 hL hb2 HFT HBA HBLK HBYTE HW1 HSPL hL0
  go_wp2_with fail
  rw [← HW3.out]
  refine (HN1.out).mono ?_
  rintro e w4 ⟨B4, d4, rfl, hR4, hN4⟩
  have HH4 := Lib.hid (HH3.out.step hR4 hN4)
  have HB4 := Lib.hid (HB3.out.trans (hN4.below (by omega) (fun b hb => (by cases hb)) HB3.out.size))
  have hrow := row_of HH4.out.here
  have hq0 : w4.cell? ⟨w.heap.size, 0, none⟩ = some (.int .i64 0) := hrow.cell 0 (by simp)
  have hf0 := hrow.free 0 (by simp)
  have HH5 := Lib.hid (HH4.out.set_ (by intro i x; rcases i with _ | _ | _ | _ | i <;> simp) 0 (.int .i64 (c.verdict : Int)))
  have HB5 := Lib.hid (HB4.out.setCell (p := ⟨w.heap.size, 0, none⟩) (Nat.le_refl _) (.int .i64 (c.verdict : Int)))
  obtain ⟨w5, hw5⟩ : ∃ w5, w5 = w4.setCell ⟨w.heap.size, 0, none⟩ (.int .i64 (c.verdict : Int)) := ⟨_, rfl⟩
  obtain ⟨v5, hv5⟩ : ∃ v5, v5 = w2.setCell ⟨w.heap.size, 0, none⟩ (.int .i64 (c.verdict : Int)) := ⟨_, rfl⟩
  rw [← hw5, ← hv5] at HH5
  have hrow5 := row_of HH5.out.here
  have hz0 : w5.cell? ⟨w.heap.size, 0, none⟩ = some (.int .i64 (c.verdict : Int)) := hrow5.cell 0 (by simp)
  have hz0' := hz0
  rw [hw5] at hz0'
  rw [← hw5] at HB5
  have hn5 := rcount_any v5 w5 w2.heap.size 0 B4 d4 n 256 _ HH5.out.rat HH5.out.below (by omega) hn
  have HN5 := Lib.hid hn5
  have HW5 := Lib.hid hw5
  clear hR4 hN4 hrow hrow5 hn5 hw5 hz0 hv5 HN1 HW3 HH3 HB3
  go_wp2_with fail
  rw [← HW5.out]
  clear hq0 hf0 hz0'
  refine (HN5.out).mono ?_
  rintro e w6 ⟨B6, d6, rfl, hR6, hN6⟩
  have HH6 := Lib.hid (HH5.out.step hR6 hN6)
  have HB6 := Lib.hid (HB5.out.trans (hN6.below (by omega) (fun b hb => (by cases hb)) HB5.out.size))
  have hg1 : w6.cell? ⟨w2.heap.size, 1, none⟩ = some (.int .i64 0) := hR6.row.cell 1 (by simp)
  have hgf : w6.frozen? ⟨w2.heap.size, 1, none⟩ = false := hR6.row.free 1 (by simp)
  have HH7 := Lib.hid (HH6.out.nodes n)
  have HB7 := Lib.hid (HB6.out.setCell (p := ⟨w2.heap.size, 1, none⟩) (Nat.le_of_lt gw) (.int .i64 (n : Int)))
  obtain ⟨w7, hw7⟩ : ∃ w7, w7 = w6.setCell ⟨w2.heap.size, 1, none⟩ (.int .i64 (n : Int)) := ⟨_, rfl⟩
  rw [← hw7] at HH7 HB7
  have hz : w7.cell? ⟨w.heap.size, 0, none⟩ = some (.int .i64 (c.verdict : Int)) := (row_of HH7.out.here).cell 0 (by simp)
  have hz' := hz
  rw [hw7] at hz'
  have hn7 := rnum_any v5 w7 w2.heap.size n B6 d6 4 c.dest (be 4 c.dest) _ HH7.out.rat HH7.out.below (by omega) rfl ofBe_be4
  have HN7 := Lib.hid hn7
  have HW7 := Lib.hid hw7
  clear hR6 hN6 hz hn7 hw7 HN5 HW5 HH5 HB5 HH4 HB4 HH6 HB6
  have hdu : (c.dest : Int) < 4294967296 := by have := HD.out; omega
  have hd0 : (0 : Int) ≤ (c.dest : Int) := by omega
  go_wp2_with fail
  rw [← HW7.out]
  clear hg1 hgf hz'
  refine (HN7.out).mono ?_
  rintro e w8 ⟨B8, d8, rfl, hR8, hN8⟩
  have HH8 := Lib.hid (HH7.out.step hR8 hN8)
  have HB8 := Lib.hid (HB7.out.trans (hN8.below (by omega) (fun b hb => (by cases hb)) HB7.out.size))
  have hrow8 := row_of HH8.out.here
  have hq2 : w8.cell? ⟨w.heap.size, 2, none⟩ = some (.int .u32 0) := hrow8.cell 2 (by simp)
  have hf2 : w8.frozen? ⟨w.heap.size, 2, none⟩ = false := hrow8.free 2 (by simp)
  have HI := Lib.hid (HH8.out.set_ (by intro i x; rcases i with _ | _ | _ | _ | i <;> simp) 2 (.int .u32 (c.dest : Int)))
  have HBI := Lib.hid (HB8.out.setCell (p := ⟨w.heap.size, 2, none⟩) (Nat.le_refl _) (.int .u32 (c.dest : Int)))
  obtain ⟨wi, hwi⟩ : ∃ wi, wi = w8.setCell ⟨w.heap.size, 2, none⟩ (.int .u32 (c.dest : Int)) := ⟨_, rfl⟩
  obtain ⟨vi, hvi⟩ : ∃ vi, vi = v5.setCell ⟨w.heap.size, 2, none⟩ (.int .u32 (c.dest : Int)) := ⟨_, rfl⟩
  rw [← hwi, ← hvi] at HI
  rw [← hwi] at HBI
  have htl : c.trace.length ≤ 256 := HTR.out.few
  have hni := rcount_any vi wi w2.heap.size n B8 d8 c.trace.length 256 _ HI.out.rat HI.out.below (by omega) htl
  have HNI := Lib.hid hni
  have HWI := Lib.hid hwi
  clear hR8 hN8 hrow8 hwi hvi hni HN7 HW7 HH7 HB7 HH8 HB8
  go_wp2_with fail
  rw [← HWI.out]
  clear hq2 hf2
  refine (HNI.out).mono ?_
  rintro e wj ⟨Bj, dj, rfl, hRj, hNj⟩
  have HJ := Lib.hid (HI.out.step hRj hNj)
  have HBJ := Lib.hid (HBI.out.trans (hNj.below (by omega) (fun b hb => (by cases hb)) HBI.out.size))
  have hnj := rints_any vi wj w2.heap.size n Bj dj c.trace [] HJ.out.rat HJ.out.below HJ.out.low (fun x hx => by have := HLT.out x hx; omega) (by omega)
  have HNJ := Lib.hid hnj
  clear hRj hNj hnj HNI HWI HI HBI
  go_wp2_with fail
  refine (HNJ.out).mono ?_
  rintro e w9 ⟨R9, m9, B9, d9, rfl, hL9, hnew9, hR9, hN9, hm9, hm9'⟩
  have HH9 := Lib.hid (HJ.out.step hR9 hN9)
  have HB9 := Lib.hid (HBJ.out.trans (hN9.below (by omega) (fun b hb => (by cases hb)) HBJ.out.size))
  have hrow9 := row_of HH9.out.here
  have hq3 : w9.cell? ⟨w.heap.size, 3, none⟩ = some (.slice none 0 0) := hrow9.cell 3 (by simp)
  have hf3 : w9.frozen? ⟨w.heap.size, 3, none⟩ = false := hrow9.free 3 (by simp)
  have HH10 := Lib.hid (HH9.out.set_ (by intro i x; rcases i with _ | _ | _ | _ | i <;> simp) 3 (.slice R9 c.trace.length m9))
  have HB10 := Lib.hid (HB9.out.setCell (p := ⟨w.heap.size, 3, none⟩) (Nat.le_refl _) (.slice R9 c.trace.length m9))
  have hset := Near.set_ none w.heap.size 3 w9 (.slice R9 c.trace.length m9)
  have hlt8 : w.heap.size < wj.heap.size := by have := HJ.out.rat.row.lt; omega
  have hpa : Lies (w9.setCell ⟨w.heap.size, 3, none⟩ (.slice R9 c.trace.length m9)) R9 (nums c.trace) := lies_near hL9 hset (fun a ha e => by have := hnew9 a ha; omega)
  obtain ⟨w10, hw10⟩ : ∃ w10, w10 = w9.setCell ⟨w.heap.size, 3, none⟩ (.slice R9 c.trace.length m9) := ⟨_, rfl⟩
  rw [← hw10] at HH10 HB10 hpa
  have HPA := Lib.hid hpa
  have HW10 := Lib.hid hw10
  have hr10 := HH10.out.rat.row
  rw [List.length_nil] at hr10
  have hr10' := hr10
  rw [hw10] at hr10'
  have hy0 : (w9.setCell ⟨w.heap.size, 3, none⟩ (.slice R9 c.trace.length m9)).cell? ⟨w2.heap.size, 0, none⟩ = some (.slice B9 0 d9) := hr10'.cell 0 (by simp)
  have hy2 : (w9.setCell ⟨w.heap.size, 3, none⟩ (.slice R9 c.trace.length m9)).cell? ⟨w2.heap.size, 2, none⟩ = some (.int .i64 0) := hr10'.cell 2 (by simp)
  clear hR9 hN9 hrow9 hset hL9 hnew9 hpa hr10 hr10' hw10 HNJ HJ HBJ HH9 HB9
  go_wp2_with fail
  rw [← HW10.out]
  clear hq3 hf3 hy0 hy2
  have KS : Hid (∀ W, Below w10.heap.size w10 W → ((W.cell? ⟨w.heap.size, 0, none⟩ = some (.int .i64 (c.verdict : Int)) ∧ W.cell? ⟨w.heap.size, 1, none⟩ = some (.slice none 0 0) ∧ W.cell? ⟨w.heap.size, 2, none⟩ = some (.int .u32 (c.dest : Int)) ∧ W.cell? ⟨w.heap.size, 3, none⟩ = some (.slice R9 c.trace.length m9)) ∧ (W.frozen? ⟨w.heap.size, 0, none⟩ = false ∧ W.frozen? ⟨w.heap.size, 1, none⟩ = false ∧ W.frozen? ⟨w.heap.size, 2, none⟩ = false ∧ W.frozen? ⟨w.heap.size, 3, none⟩ = false) ∧ W.cell? ⟨w2.heap.size, 1, none⟩ = some (.int .i64 (n : Int)) ∧ W.cell? ⟨w2.heap.size, 2, none⟩ = some (.int .i64 0) ∧ W.frozen? ⟨w2.heap.size, 2, none⟩ = false ∧ CertAt W (.agg #[.int .i64 (c.verdict : Int), .slice none 0 0, .int .u32 (c.dest : Int), .slice R9 c.trace.length m9]) c ∧ Below w.heap.size w W)) := Lib.hid fun W hW => by
    have HH := HH10.out.step (HH10.out.rat.near hW) (.of_below hW)
    have hrow := row_of HH.here
    have hr := HH.rat.row
    have h2 := HE.out
    exact ⟨⟨hrow.cell 0 (by simp), hrow.cell 1 (by simp), hrow.cell 2 (by simp), hrow.cell 3 (by simp)⟩, ⟨hrow.free 0 (by simp), hrow.free 1 (by simp), hrow.free 2 (by simp), hrow.free 3 (by simp)⟩, hr.cell 1 (by simp), hr.cell 2 (by simp), hr.free 2 (by simp),
      ⟨none, R9, 0, m9, by rw [h2]; rfl, by rw [h2]; exact ⟨[], rfl, Lies.nil _ _, fun i hi => absurd hi (by simp)⟩, HPA.out.below hW⟩, HB10.out.trans (hW.mono HB10.out.size)⟩
  have hcm := HCM.out _ _ (KS.out w10.drew (below_drew (Below.refl _ _))).2.2.2.2.2.1
  have HCM2 := Lib.hid hcm
  clear hcm HH10 HB10 HW10 HPA HCM
  go_region_held3 (fun W => (W.cell? ⟨w.heap.size, 0, none⟩ = some (.int .i64 (c.verdict : Int)) ∧ W.cell? ⟨w.heap.size, 1, none⟩ = some (.slice none 0 0) ∧ W.cell? ⟨w.heap.size, 2, none⟩ = some (.int .u32 (c.dest : Int)) ∧ W.cell? ⟨w.heap.size, 3, none⟩ = some (.slice R9 c.trace.length m9)) ∧ (W.frozen? ⟨w.heap.size, 0, none⟩ = false ∧ W.frozen? ⟨w.heap.size, 1, none⟩ = false ∧ W.frozen? ⟨w.heap.size, 2, none⟩ = false ∧ W.frozen? ⟨w.heap.size, 3, none⟩ = false) ∧ W.cell? ⟨w2.heap.size, 1, none⟩ = some (.int .i64 (n : Int)) ∧ W.cell? ⟨w2.heap.size, 2, none⟩ = some (.int .i64 0) ∧ W.frozen? ⟨w2.heap.size, 2, none⟩ = false ∧ CertAt W (.agg #[.int .i64 (c.verdict : Int), .slice none 0 0, .int .u32 (c.dest : Int), .slice R9 c.trace.length m9]) c ∧ Below w.heap.size w W)
    (first | exact KS.out _ (below_drew (Below.refl _ _)) | exact KS.out _ ((below_drew (Below.refl _ _)).trans hb12) | (rw [setCell_self (KS.out _ ((below_drew (Below.refl _ _)).trans hb12)).2.2.2.1]; exact KS.out _ ((below_drew (Below.refl _ _)).trans hb12)))
    (first | (go_at_call 24; refine (HCM2.out).mono ?_; rintro e w12 ⟨rfl, hb12⟩; have hs2 := setCell_self (KS.out _ ((below_drew (Below.refl _ _)).trans hb12)).2.2.2.1))
  obtain ⟨⟨hx0, hx1, hx2, hx3⟩, ⟨hf0, hf1, hf2, hf3⟩, hy1, hy2, hy3, hcert, hbe⟩ := KS.out _ ((below_drew (Below.refl _ _)).trans hb12)
  have HCE := Lib.hid hcert
  have HBE := Lib.hid hbe
  clear hs2 hb12 hcert hbe KS HCM2
  have z0 := setCell_self hx0
  have z1 := setCell_self hx1
  have z2 := setCell_self hx2
  have z3 := setCell_self hx3
  go_wp2_with fail
  go_region
  go_wp2_with fail
  refine bodyPost_ret (v := .tuple #[.agg #[.int .i64 (c.verdict : Int), .slice none 0 0, .int .u32 (c.dest : Int), .slice R9 c.trace.length m9], .int .i64 (n : Int), .int .i64 0]) (by simp [results, Tryz.results15, go_sem, hx0, hx1, hx2, hx3]) rfl ⟨_, rfl, HCE.out.below (below_drew (Below.refl _ _)), below_drew HBE.out⟩

theorem ctake_any (A : Option Addr) (N cp n : Nat) (c : CertT) (w : World) (h : CertOk n c) (hn : n ≤ 256) (hM : (certIn n c).length ≤ 1000000) (hN : (certB n c).length = N) (hA : Lies w A (bytes (certB n c))) (hc : N ≤ cp) (hc2 : cp ≤ 9223372036854775807) :
    Calls Tryz.prog 15 #[.slice A N cp] w (CTakePost w n c) := by
  rcases h with ⟨h1, h2, h3, h4⟩ | ⟨h1, h2, h3, h4, h5, h6⟩
  · exact ctake_parts A N cp n c w h1 h2 h3 h4 hn hM hN hA hc hc2
  · exact ctake_trace A N cp n c w h1 h2 h3 h4 h5 h6 hn hM hN hA hc hc2
end Go.Proofs.YtpjoefekhgmlhaaGreat.Tp

namespace Go.Proofs.YtpjoefekhgmlhaaGreat.Tp
open Go.RowKit Mem

abbrev spanV (a n : Nat) : Value := .agg #[.int .u32 (a : Int), .int .i64 (n : Int)]
/-- How long the longest prefix is that holds both. -/
def meetN (a n b m : Nat) : Nat := min (min n m) (common a b)
set_option maxRecDepth 100000 in
set_option maxHeartbeats 2000000 in
theorem meet3_any (a n b m : Nat) (ha : a < 4294967296) (hb : b < 4294967296) (w : World) :
    Calls Tryz.prog 134 #[spanV a n, spanV b m] w fun e w' => e = .returned (spanV (lowN a (meetN a n b m)) (meetN a n b m)) ∧ Below w.heap.size w w' := by
  have hc := fun w => common_any a b ha hb w
  have hcl := common_le a b
  have hk : meetN a n b m ≤ 32 := by unfold meetN; omega
  have hma := fun w => mask_any (meetN a n b m) hk w
  have hml := mask_lt (meetN a n b m) (by omega)
  have hb1 : bits .and .u32 (a : Int) ((maskN (meetN a n b m) : Nat) : Int) = ((lowN a (meetN a n b m) : Nat) : Int) := by rw [u32_and_nat _ _ ha hml, and_mask ha hk]; rfl
  have hmk : meetN a n b m = min (min n m) (common a b) := rfl
  generalize lowN a (meetN a n b m) = lo at *
  generalize maskN (meetN a n b m) = mk at *
  generalize meetN a n b m = k at *
  generalize common a b = cm at *
  obtain ⟨wa, hwa⟩ : ∃ wa, wa = w.alloc (.cells #[.int .u32 (a : Int), .int .i64 (n : Int)] 199) := ⟨_, rfl⟩
  obtain ⟨wb, hwb⟩ : ∃ wb, wb = wa.alloc (.cells #[.int .u32 (b : Int), .int .i64 (m : Int)] 199) := ⟨_, rfl⟩
  obtain ⟨w1, hw1⟩ : ∃ w1, w1 = wb.alloc (.cells #[.int .u32 0, .int .i64 0] 199) := ⟨_, rfl⟩
  have sa : wa.heap.size = w.heap.size + 1 := by rw [hwa]; simp
  have sb : wb.heap.size = w.heap.size + 1 + 1 := by rw [hwb]; simp [sa]
  have ba : Below w.heap.size w wa := by rw [hwa]; exact (Below.refl _ _).alloc (Nat.le_refl _) _
  have bb : Below wa.heap.size wa wb := by rw [hwb]; exact (Below.refl _ _).alloc (Nat.le_refl _) _
  have bc : Below wb.heap.size wb w1 := by rw [hw1]; exact (Below.refl _ _).alloc (Nat.le_refl _) _
  have hX : VRow w1 w.heap.size [.int .u32 (a : Int), .int .i64 (n : Int)] := ((show VRow wa w.heap.size [.int .u32 (a : Int), .int .i64 (n : Int)] by rw [hwa]; exact VRow.new w #[.int .u32 (a : Int), .int .i64 (n : Int)] _).below bb (by omega)).below bc (by omega)
  have hY : VRow w1 (w.heap.size + 1) [.int .u32 (b : Int), .int .i64 (m : Int)] := (show VRow wb (w.heap.size + 1) [.int .u32 (b : Int), .int .i64 (m : Int)] by rw [hwb, ← sa]; exact VRow.new wa #[.int .u32 (b : Int), .int .i64 (m : Int)] _).below bc (by omega)
  have hz : VRow w1 (w.heap.size + 1 + 1) [.int .u32 0, .int .i64 0] := by rw [hw1, ← sb]; exact VRow.new wb #[.int .u32 0, .int .i64 0] _
  have hbw : Below w.heap.size w w1 := ba.trans ((bb.trans (bc.mono (by omega))).mono (by omega))
  have hx0 : w1.cell? ⟨w.heap.size, 0, none⟩ = some (.int .u32 (a : Int)) := hX.cell 0 (by simp)
  have hx1 : w1.cell? ⟨w.heap.size, 1, none⟩ = some (.int .i64 (n : Int)) := hX.cell 1 (by simp)
  have hy0 : w1.cell? ⟨w.heap.size + 1, 0, none⟩ = some (.int .u32 (b : Int)) := hY.cell 0 (by simp)
  have hy1 : w1.cell? ⟨w.heap.size + 1, 1, none⟩ = some (.int .i64 (m : Int)) := hY.cell 1 (by simp)
  have hif : (if (cm : Int) < (if m < n then (m : Int) else (n : Int)) then (cm : Int) else if m < n then (m : Int) else (n : Int)) = (k : Int) := by
    rw [hmk]; split <;> split at * <;> omega
  rw [hwb, hwa] at hw1
  have HC := Lib.hid hc
  have HM := Lib.hid hma
  have HB1 := Lib.hid hb1
  have HMK := Lib.hid hmk
  have HW := Lib.hid hw1
  have HZ := Lib.hid hz
  have HBW := Lib.hid hbw
  have HX := Lib.hid hX
  clear hc hma hb1 hmk hml hw1 hz hbw sa sb ba bb bc hwa hwb hX hY
  go_enter Tryz.func134, Tryz.ntmps134
  go_wp2_with fail
  rw [← HW.out]
  go_quiet ((go_at_call 143; exact Calls.quiet_of_same ((HC.out _).mono fun e w' h => ⟨h.1, h.2.symm⟩)))
  obtain ⟨w2, hw2⟩ : ∃ w2, w2 = w1.drewN nq := ⟨_, rfl⟩
  rw [← hw2]
  have hb2 : Below w1.heap.size w1 w2 := by rw [hw2]; exact below_drawn (Below.refl _ _) nq
  have KS : Hid (∀ W, Below w2.heap.size w2 W → (W.cell? ⟨w.heap.size, 0, none⟩ = some (.int .u32 (a : Int)) ∧ W.cell? ⟨w.heap.size + 1 + 1, 0, none⟩ = some (.int .u32 0) ∧ W.cell? ⟨w.heap.size + 1 + 1, 1, none⟩ = some (.int .i64 0) ∧ W.frozen? ⟨w.heap.size + 1 + 1, 0, none⟩ = false ∧ W.frozen? ⟨w.heap.size + 1 + 1, 1, none⟩ = false ∧ VRow W (w.heap.size + 1 + 1) [.int .u32 0, .int .i64 0] ∧ Below w.heap.size w W)) := Lib.hid fun W hW => by
    have hX := (HX.out.below hb2 HX.out.lt).below hW (by have := HX.out.lt; have := hb2.size; omega)
    have hZ := (HZ.out.below hb2 HZ.out.lt).below hW (by have := HZ.out.lt; have := hb2.size; omega)
    exact ⟨hX.cell 0 (by simp), hZ.cell 0 (by simp), hZ.cell 1 (by simp), hZ.free 0 (by simp), hZ.free 1 (by simp), hZ, (HBW.out.trans (hb2.mono HBW.out.size)).trans (hW.mono (Nat.le_trans HBW.out.size hb2.size))⟩
  clear hx0 hx1 hy0 hy1 hif hw2 hb2 HX HZ HBW HW HC HMK
  have hb1 := HB1.out
  obtain ⟨hx0, hz0, hz1, hf0, hf1, hZ, hB⟩ := KS.out w2 (Below.refl _ _)
  have HZS := Lib.hid ((hZ.set_ 0 (.int .u32 (lo : Int))).set_ 1 (.int .i64 (k : Int)))
  have HBS := Lib.hid ((hB.setCell (p := ⟨w.heap.size + 1 + 1, 0, none⟩) (show w.heap.size ≤ w.heap.size + 1 + 1 by omega) (.int .u32 (lo : Int))).setCell (p := ⟨w.heap.size + 1 + 1, 1, none⟩) (show w.heap.size ≤ w.heap.size + 1 + 1 by omega) (.int .i64 (k : Int)))
  clear hZ hB KS
  go_wp2_with fail
  go_region_with (first | (go_at_call 116; refine (HM.out _).mono ?_; rintro e w' ⟨rfl, rfl⟩))
  all_goals
    clear hx0 hz0 hz1 hf0 hf1
    obtain ⟨w4, hw4⟩ : ∃ w4, w4 = ((w2.setCell ⟨w.heap.size + 1 + 1, 0, none⟩ (.int .u32 (lo : Int))).setCell ⟨w.heap.size + 1 + 1, 1, none⟩ (.int .i64 (k : Int))).drew := ⟨_, rfl⟩
    have hs4 : VRow w4 (w.heap.size + 1 + 1) [.int .u32 (lo : Int), .int .i64 (k : Int)] := by rw [hw4]; exact ⟨HZS.out.lt, HZS.out.cell, HZS.out.free⟩
    have hb4 : Below w.heap.size w w4 := by rw [hw4]; exact below_drew HBS.out
    rw [← hw4]
    have hz0 : w4.cell? ⟨w.heap.size + 1 + 1, 0, none⟩ = some (.int .u32 (lo : Int)) := hs4.cell 0 (by simp)
    have hz1 : w4.cell? ⟨w.heap.size + 1 + 1, 1, none⟩ = some (.int .i64 (k : Int)) := hs4.cell 1 (by simp)
    have HB4 := Lib.hid hb4
    clear hs4 hb4 hw4
    go_wp2_with fail
    exact bodyPost_ret (v := spanV lo k) (by simp [results, Tryz.results134, go_sem, hz0, hz1]) rfl ⟨rfl, HB4.out⟩
theorem sholds_any (x n a : Nat) (hx : x < 4294967296) (ha : a < 4294967296) (hn : n ≤ 32) (w : World) :
    Calls Tryz.prog 114 #[spanV x n, .int .u32 (a : Int)] w fun e w' => e = .returned (.bool (holdsB x n a)) ∧ Below w.heap.size w w' := by
  have hh := fun w => holds_any x n a hx ha hn w
  have hb : Below w.heap.size w (w.alloc (.cells #[.int .u32 (x : Int), .int .i64 (n : Int)] 199)) := (Below.refl _ _).alloc (Nat.le_refl _) _
  generalize holdsB x n a = h at *
  have HH := Lib.hid hh
  have HB := Lib.hid hb
  clear hh hb hx ha hn
  go_enter Tryz.func114, Tryz.ntmps114
  go_wp2_with fail
  refine (HH.out _).mono ?_
  rintro e w' ⟨rfl, rfl⟩
  go_wp2_with fail
  go_ret
  exact ⟨rfl, HB.out⟩
end Go.Proofs.YtpjoefekhgmlhaaGreat.Tp
