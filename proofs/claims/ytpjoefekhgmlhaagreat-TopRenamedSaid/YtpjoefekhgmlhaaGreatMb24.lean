/- CONTRACT of vector.New: a maker of a network's vectors. Conditions: a network that may be. · CONTRACT of Maker.Of: where all nodes send an address. Conditions: a maker as vector.New makes it. · CONTRACTS: cuts.Inside, cover.points, cover.All; what cuts.Of tells, as a word. -/
import Derived.Test.YtpjoefekhgmlhaaGreatMb23
import Derived.Test.YtpjoefekhgmlhaaGreatMb17
import Derived.Test.YtpjoefekhgmlhaaGreatMb10
import Derived.Lib.JoinLaws
namespace Go.Proofs.YtpjoefekhgmlhaaGreat.Tp
open Go.RowKit Mem

theorem find_info : (Tryz.prog.info? 156).map (fun i => (i.zero, i.size, i.bytes)) = some (some Value.nilFunc, 1, 8) := by kernel_rfl
theorem TrieAt.mono {base base' : Nat} {W : World} {t : Nat} {G : Nat → Nat} {F : List ForkT} {top : Option Nat} {sz : Nat} (h : TrieAt base W t G F top sz) (hb : base' ≤ base) : TrieAt base' W t G F top sz :=
  ⟨h.head, h.fork, h.inj, h.apart, ⟨Nat.le_trans hb h.low.1, fun i hi => Nat.le_trans hb (h.low.2 i hi)⟩, h.bound⟩
/-- What the blocks of a trie are kept by keeps the trie. -/
theorem TrieAt.keep {base : Nat} {W W' : World} {t : Nat} {G : Nat → Nat} {F : List ForkT} {top : Option Nat} {sz : Nat} (h : TrieAt base W t G F top sz) (hs : W.heap.size ≤ W'.heap.size) (hk : ∀ b, b < W.heap.size → (b = t ∨ ∃ i, i < F.length ∧ b = G i) → W'.heap[b]? = W.heap[b]?) : TrieAt base W' t G F top sz :=
  ⟨h.head.keep hs (hk t h.head.lt (.inl rfl)), fun i f hf => (h.fork i f hf).keep hs (hk (G i) (h.fork i f hf).lt (.inr ⟨i, (List.getElem?_eq_some_iff.1 hf).1, rfl⟩)), h.inj, h.apart, h.low, h.bound⟩
/-- A trie of rules, away from a block. -/
def TrieHeld (W : World) (own : Option Nat) (base : Nat) (l : List RuleT) (t : Nat) : Prop :=
  ∃ G F top sz, TrieAt base W t G F top sz ∧ TrieOk F top l ∧ own ≠ some t ∧ ∀ i, i < F.length → own ≠ some (G i)
theorem TrieHeld.below {W W' : World} {own : Option Nat} {base : Nat} {l : List RuleT} {t : Nat} (h : TrieHeld W own base l t) (hb : Below W.heap.size W W') : TrieHeld W' own base l t := by
  obtain ⟨G, F, top, sz, h1, h2, h3, h4⟩ := h
  exact ⟨G, F, top, sz, h1.below hb, h2, h3, h4⟩
theorem TrieHeld.step {W W' : World} {own own' : Option Nat} {base : Nat} {l : List RuleT} {t : Nat} (h : TrieHeld W own base l t) (hg : W.grownBy W' own) (hat : own' = own ∨ own' = some W.heap.size) : TrieHeld W' own' base l t := by
  obtain ⟨G, F, top, sz, h1, h2, h3, h4⟩ := h
  have hlt : ∀ i, i < F.length → G i < W.heap.size := fun i hi => (h1.fork i _ (List.getElem?_eq_getElem hi)).lt
  refine ⟨G, F, top, sz, h1.keep hg.size (fun b hb hc => hg.block b hb (fun e => ?_)), h2, ?_, fun i hi => ?_⟩
  · rcases hc with rfl | ⟨i, hi, rfl⟩
    · exact h3 e.symm
    · exact h4 i hi e.symm
  · rcases hat with rfl | rfl
    · exact h3
    · intro e
      injection e with e
      have := h1.head.lt
      omega
  · rcases hat with rfl | rfl
    · exact h4 i hi
    · intro e
      injection e with e
      have := hlt i hi
      omega
theorem TrieHeld.setCell {W : World} {own : Option Nat} {base : Nat} {l : List RuleT} {t : Nat} (h : TrieHeld W own base l t) {m k : Nat} (hm : m < base) (v : Value) : TrieHeld (W.setCell ⟨m, k, none⟩ v) own base l t := by
  obtain ⟨G, F, top, sz, h1, h2, h3, h4⟩ := h
  refine ⟨G, F, top, sz, h1.keep (by simp) (fun b hb hc => Below.heap_setCell W ⟨m, k, none⟩ v b ?_), h2, h3, h4⟩
  rcases hc with rfl | ⟨i, hi, rfl⟩
  · have := h1.low.1; show b ≠ m; omega
  · have := h1.low.2 i hi; show G i ≠ m; omega
theorem TrieHeld.none {W : World} {own : Option Nat} {base : Nat} {l : List RuleT} {t : Nat} (h : TrieHeld W own base l t) : TrieHeld W none base l t := by
  obtain ⟨G, F, top, sz, h1, h2, h3, h4⟩ := h
  exact ⟨G, F, top, sz, h1, h2, (fun e => (by cases e)), (fun _ _ e => (by cases e))⟩
theorem TrieHeld.mono {W : World} {own : Option Nat} {base base' : Nat} {l : List RuleT} {t : Nat} (h : TrieHeld W own base l t) (hb : base' ≤ base) : TrieHeld W own base' l t := by
  obtain ⟨G, F, top, sz, h1, h2, h3, h4⟩ := h
  exact ⟨G, F, top, sz, h1.mono hb, h2, h3, h4⟩
abbrev findV (t : Nat) : Value := .func (.func 84) #[.pointer (some ⟨t, 0, none⟩)] #[]
/-- What finds rules, of each table one. -/
def RowsF (W : World) (own : Option Nat) (base : Nat) (vs : List Value) (net : List (List RuleT)) : Prop := vs.length = net.length ∧ ∀ i (hi : i < net.length), ∃ t, vs[i]? = some (findV t) ∧ TrieHeld W own base net[i] t
theorem RowsF.below {W W' : World} {own : Option Nat} {base : Nat} {vs : List Value} {net : List (List RuleT)} (h : RowsF W own base vs net) (hb : Below W.heap.size W W') : RowsF W' own base vs net :=
  ⟨h.1, fun i hi => by obtain ⟨t, e, hh⟩ := h.2 i hi; exact ⟨t, e, hh.below hb⟩⟩
theorem RowsF.step {W W' : World} {own own' : Option Nat} {base : Nat} {vs : List Value} {net : List (List RuleT)} (h : RowsF W own base vs net) (hg : W.grownBy W' own) (hat : own' = own ∨ own' = some W.heap.size) : RowsF W' own' base vs net :=
  ⟨h.1, fun i hi => by obtain ⟨t, e, hh⟩ := h.2 i hi; exact ⟨t, e, hh.step hg hat⟩⟩
theorem RowsF.setCell {W : World} {own : Option Nat} {base : Nat} {vs : List Value} {net : List (List RuleT)} (h : RowsF W own base vs net) {m k : Nat} (hm : m < base) (v : Value) : RowsF (W.setCell ⟨m, k, none⟩ v) own base vs net :=
  ⟨h.1, fun i hi => by obtain ⟨t, e, hh⟩ := h.2 i hi; exact ⟨t, e, hh.setCell hm v⟩⟩
theorem RowsF.none {W : World} {own : Option Nat} {base : Nat} {vs : List Value} {net : List (List RuleT)} (h : RowsF W own base vs net) : RowsF W none base vs net :=
  ⟨h.1, fun i hi => by obtain ⟨t, e, hh⟩ := h.2 i hi; exact ⟨t, e, hh.none⟩⟩
theorem RowsF.mono {W : World} {own : Option Nat} {base base' : Nat} {vs : List Value} {net : List (List RuleT)} (h : RowsF W own base vs net) (hb : base' ≤ base) : RowsF W own base' vs net :=
  ⟨h.1, fun i hi => by obtain ⟨t, e, hh⟩ := h.2 i hi; exact ⟨t, e, hh.mono hb⟩⟩
theorem RowsF.snoc {W : World} {own : Option Nat} {base : Nat} {vs : List Value} {net : List (List RuleT)} (h : RowsF W own base vs net) {l : List RuleT} {t : Nat} (ht : TrieHeld W own base l t) : RowsF W own base (vs ++ [findV t]) (net ++ [l]) := by
  refine ⟨by simp [h.1], fun i hi => ?_⟩
  rw [List.length_append, List.length_singleton] at hi
  by_cases e : i < net.length
  · obtain ⟨t', e', hh⟩ := h.2 i e
    refine ⟨t', ?_, ?_⟩
    · rw [List.getElem?_append_left (by rw [h.1]; exact e)]; exact e'
    · rw [List.getElem_append_left e]; exact hh
  · have ei : i = net.length := by omega
    subst ei
    refine ⟨t, ?_, ?_⟩
    · rw [List.getElem?_append_right (by rw [h.1]; exact Nat.le_refl _), h.1]; simp
    · simpa using ht
/-- A maker of a network's vectors. -/
def MakerAt (W : World) (m : Nat) (net : List (List RuleT)) : Prop := ∃ S c vs, m < W.heap.size ∧ W.cell? ⟨m, 0, none⟩ = some (.slice S net.length c) ∧ Lies W S vs ∧ RowsF W none 0 vs net
theorem MakerAt.below {W W' : World} {m : Nat} {net : List (List RuleT)} (h : MakerAt W m net) (hb : Below W.heap.size W W') : MakerAt W' m net := by
  obtain ⟨S, c, vs, h1, h2, h3, h4⟩ := h
  exact ⟨S, c, vs, Nat.lt_of_lt_of_le h1 hb.size, (hb.cell (p := ⟨m, 0, none⟩) h1).trans h2, h3.below hb, h4.below hb⟩
def NewPost (w : World) (net : List (List RuleT)) (e : Ending) (w' : World) : Prop := ∃ m, e = .returned (.tuple #[.pointer (some ⟨m, 0, none⟩), .int .i64 0]) ∧ MakerAt w' m net ∧ Below w.heap.size w w'

set_option maxRecDepth 100000 in
set_option maxHeartbeats 2000000 in
theorem vnew_any (N : Option Addr) (cN : Nat) (net : List (List RuleT)) (w : World) (hN : NetAt w N net) (h : NetOk net) :
    Calls Tryz.prog 45 #[.agg #[.slice N net.length cN]] w (NewPost w net) := by
  have hnn := h.nodes
  have hb0 : Below w.heap.size w (w.alloc (.cells #[.slice N net.length cN] 24)) := (Below.refl _ _).alloc (Nat.le_refl _) _
  have hnm := nmay_any N cN net _ (hN.below hb0) h
  have hx0 : (w.alloc (.cells #[.slice N net.length cN] 24)).cell? ⟨w.heap.size, 0, none⟩ = some (.slice N net.length cN) := by rw [cell_of_row _ _ 0 _ _ (0, 0) (heap_alloc_new w _)]; rfl
  have HNM := Lib.hid hnm
  have HB0 := Lib.hid hb0
  have HN := Lib.hid hN
  have H := Lib.hid h
  have HX0 := Lib.hid hx0
  clear hnm hb0 hN h hx0
  go_enter Tryz.func45, Tryz.ntmps45
  go_wp2_with fail
  refine (HNM.out).mono ?_
  rintro e w2 ⟨rfl, hb2⟩
  have hx2 := (hb2.cell (p := ⟨w.heap.size, 0, none⟩) (by simp)).trans HX0.out
  have hb2w := HB0.out.trans (hb2.mono HB0.out.size)
  have hs2 : w.heap.size < w2.heap.size := by have := hb2.size; simp at this; omega
  obtain ⟨w3, hw3⟩ : ∃ w3, w3 = w2.alloc (.cells #[.slice none 0 0] 153) := ⟨_, rfl⟩
  have h3 : Below w2.heap.size w2 w3 := by rw [hw3]; exact (Below.refl _ _).alloc (Nat.le_refl _) _
  have hm3 : VRow w3 w2.heap.size [.slice none 0 0] := by rw [hw3]; exact VRow.new w2 #[.slice none 0 0] _
  have s3 : w3.heap.size = w2.heap.size + 1 := by rw [hw3]; simp
  have hx3 := (h3.cell (p := ⟨w.heap.size, 0, none⟩) hs2).trans hx2
  have hx3' := hx3
  rw [hw3] at hx3'
  have hb3 := hb2w.trans (h3.mono hb2w.size)
  have hm3s : w2.heap.size < w3.heap.size := by omega
  have HW3 := Lib.hid hw3
  have HM3 := Lib.hid hm3
  have HB3 := Lib.hid hb3
  clear hb2 hx2 hw3 h3 hm3 s3 hx3 hb3 hb2w HNM HB0 HX0
  go_wp2_with fail
  rw [← HW3.out]
  clear hx3'
  go_loopw [19] (fun i wr => ∃ (k : Nat) (S : Option Addr) (cp : Nat) (vs : List Value), k ≤ net.length ∧ i = .int .i64 k ∧ Hid (VRow wr w2.heap.size [.slice S k cp]) ∧ Hid (wr.ownsRow w3.heap.size 156 1 (.slice S k cp) k vs) ∧ Hid (RowsF wr (Value.slice S k cp).ownBlock w3.heap.size vs (net.take k)) ∧ Hid (Below w.heap.size w wr) ∧ Hid (w3.heap.size ≤ wr.heap.size)) (fun i _ => net.length - (intOf i).toNat)
  case atStart => exact ⟨0, none, 0, [], by omega, rfl, HM3, Lib.hid (World.ownsRow_nil _ _ _ _), Lib.hid ⟨rfl, fun i hi => absurd hi (by simp)⟩, HB3, Lib.hid (Nat.le_refl _)⟩
  case round =>
    clear HM3 HB3 HW3
    obtain ⟨k, S, cp, vs, hk, rfl, HM, HO, HR, HB, HS⟩ := hrel
    by_cases hlt : k < net.length
    · obtain ⟨b, off, B, c, hAe, hbb, hc0, hrl, -, -⟩ := (HN.out).at_ hlt
      have hk0 := (HB.out.cell (p := ⟨b, off + k, none⟩) hbb).trans hc0
      have hmem := List.getElem_mem hlt
      have hbu := tbuild_any B c net.length net[k] wr (hrl.below HB.out) (H.out.table _ hmem) (Nat.le_trans (le_sum (List.mem_map_of_mem hmem)) H.out.rules)
      have htk : net.take (k + 1) = net.take k ++ [net[k]] := List.take_succ_eq_append_getElem hlt
      obtain ⟨l, hl⟩ : ∃ l, l = net[k] := ⟨_, rfl⟩
      rw [← hl] at hbu htk hk0
      have HBU := Lib.hid hbu
      have HTK := Lib.hid htk
      clear hbu htk hl hc0 hrl hmem
      subst hAe
      go_wp2_with fail
      refine (HBU.out).mono ?_
      rintro e w5 ⟨t, G, F, top, sz, rfl, hT5, hok5, hb5⟩
      have hm5 := HM.out.below hb5 HM.out.lt
      have hO5 := own_below HO.out hb5
      have hown : ∀ g, (Value.slice S k cp).ownBlock = some g → w3.heap.size ≤ g ∧ g < wr.heap.size := fun g hg => HO.out.lt g hg
      have hth : TrieHeld w5 (Value.slice S k cp).ownBlock w3.heap.size l t := ⟨G, F, top, sz, hT5.mono HS.out, hok5, fun e => by have := hown _ e; have := hT5.low.1; omega, fun i hi e => by have := hown _ e; have := hT5.low.2 i hi; omega⟩
      have hR5 := (HR.out.below hb5).snoc hth
      rw [← HTK.out] at hR5
      have hal : Below w5.heap.size w5 (w5.alloc (.cells #[findV t] 156)) := (Below.refl _ _).alloc (Nat.le_refl _) _
      have hm6 := hm5.below hal hm5.lt
      have hO6 := own_below hO5 hal
      have hR6 := hR5.below hal
      have hb6 := (HB.out.trans (hb5.mono HB.out.size)).trans (hal.mono (Nat.le_trans HB.out.size hb5.size))
      have hone := Lies.new w5 #[findV t] 156
      have hs6 : w3.heap.size ≤ (w5.alloc (.cells #[findV t] 156)).heap.size := Nat.le_trans (Nat.le_trans HS.out hb5.size) hal.size
      have hq0 := (hm5.get (i := 0) rfl).1
      have HM6 := Lib.hid hm6
      have HR6 := Lib.hid hR6
      have HB6 := Lib.hid hb6
      have HONE := Lib.hid hone
      have HOWN := Lib.hid hown
      have hmf : ∀ (fn : Fn) (first cap : Array Value) (w : World), (Instr.makeFunc fn first cap).run Tryz.prog w = .ok (.func fn first cap) w := fun _ _ _ _ => rfl
      obtain ⟨i0, hi, hz0, hz1, hz2⟩ := info_parts find_info
      clear hT5 hok5 hb5 hm5 hO5 hth hR5 hal hm6 hR6 hb6 hone hown HBU HTK HM HR HB HO hk0
      go_wp2_with (at_builtin; refine wpList_append_lies _ rfl (.tmp 29) (.tmp 32) _ rfl w3.heap.size 156 i0 _ 1 8 Tryz.underlying151 hi hz0 hz1 hz2 rfl (by omega) (.slice S k cp) k _ rfl hO6 _ 1 1 _ rfl rfl HONE.out (by intro u hu; simp at hu; subst hu; rfl) (by simp only [maxLen]; omega) (by omega) hs6 ?_; intro v7 w7 hO7 hg7 hat7; obtain ⟨S7, c7, rfl, _, _⟩ := own_form hO7; have hm7 := HM6.out.keep hg7.size (hg7.block w2.heap.size HM6.out.lt (fun e => by have := (HOWN.out _ e.symm).1; omega)); have hq7 := (hm7.get (i := 0) rfl).1; have hqf7 := (hm7.get (i := 0) rfl).2; have HM8 := Lib.hid (hm7.set_ 0 (.slice S7 (k + 1) c7)); have hown7 : ∀ g, (Value.slice S7 (k + 1) c7).ownBlock = some g → w3.heap.size ≤ g := fun g hg => (hO7.lt g hg).1; have HO8 := Lib.hid (own_near hO7 (Near.set_ none w2.heap.size 0 w7 (.slice S7 (k + 1) c7)) (fun e => by have := hown7 _ e; omega)); have HR8 := Lib.hid ((HR6.out.step hg7 hat7).setCell (m := w2.heap.size) (k := 0) hm3s (.slice S7 (k + 1) c7)); have HB8 := Lib.hid ((HB6.out.grown hg7 HB6.out.size (fun g e => by have := (HOWN.out g e).1; omega)).setCell (p := ⟨w2.heap.size, 0, none⟩) (show w.heap.size ≤ w2.heap.size by omega) (.slice S7 (k + 1) c7)); have HS8 : Hid (w3.heap.size ≤ w7.heap.size) := Lib.hid (Nat.le_trans hs6 hg7.size); clear hm7 hg7 hat7 hO7 hO6 hown7 hmf)
      refine ⟨⟨k + 1, S7, c7, _, by omega, by go_num, HM8, HO8, HR8, HB8, Lib.hid (by simpa using HS8.out)⟩, by simp [intOf]; omega⟩
    · obtain rfl : k = net.length := by omega
      have hR := HR.out
      rw [List.take_of_length_le (Nat.le_refl _)] at hR
      have hmk : MakerAt wr w2.heap.size net := ⟨S, cp, vs, HM.out.lt, (HM.out.get (i := 0) rfl).1, .of_own HO.out, (hR.none.mono (Nat.zero_le _))⟩
      have HMK := Lib.hid hmk
      clear hR hmk HM HO HR
      go_wp2_with fail
      go_ret2
      exact ⟨_, rfl, HMK.out, HB.out⟩
end Go.Proofs.YtpjoefekhgmlhaaGreat.Tp

namespace Go.Proofs.YtpjoefekhgmlhaaGreat.Tp
open Go.RowKit Mem

/-- Where a node sends an address, as a number. -/
def goesI (l : List RuleT) (a : Nat) : Int := match nextL l a with
  | none => -1
  | some x => (x : Int)
def vecL (net : List (List RuleT)) (a : Nat) : List Int := net.map fun l => goesI l a
theorem vecL_len (net : List (List RuleT)) (a : Nat) : (vecL net a).length = net.length := by simp [vecL]
/-- The row when k nodes are done. -/
def vecRow (net : List (List RuleT)) (a k : Nat) : List Value := Gr.ints ((vecL net a).take k) ++ List.replicate (net.length - k) (.int .i64 0)
theorem vecRow_len {net : List (List RuleT)} {a k : Nat} (hk : k ≤ net.length) : (vecRow net a k).length = net.length := by
  unfold vecRow
  rw [List.length_append, List.length_replicate, List.length_map, List.length_take, vecL_len]
  omega
theorem vecRow_set {net : List (List RuleT)} {a k : Nat} (hk : k < net.length) (x : Value) : (vecRow net a k).set k x = Gr.ints ((vecL net a).take k) ++ x :: List.replicate (net.length - (k + 1)) (.int .i64 0) := by
  unfold vecRow
  have hl : (Gr.ints ((vecL net a).take k)).length = k := by rw [List.length_map, List.length_take, vecL_len]; omega
  rw [List.set_append_right _ _ (by omega), hl, Nat.sub_self, show net.length - k = (net.length - (k + 1)) + 1 by omega, List.replicate_succ]
  rfl
theorem vecRow_next {net : List (List RuleT)} {a k : Nat} (hk : k < net.length) : (vecRow net a k).set k (.int .i64 (goesI net[k] a)) = vecRow net a (k + 1) := by
  rw [vecRow_set hk]
  unfold vecRow
  rw [List.take_succ_eq_append_getElem (by rw [vecL_len]; exact hk), show ∀ x y : List Int, Gr.ints (x ++ y) = Gr.ints x ++ Gr.ints y from fun x y => List.map_append, List.append_assoc]
  congr 1
  simp [vecL]
def VecPost (w : World) (v : List Int) (e : Ending) (w' : World) : Prop := ∃ R m, e = .returned (.slice R v.length m) ∧ Lies w' R (Gr.ints v) ∧ Below w.heap.size w w' ∧ Gr.New w R ∧ v.length ≤ m ∧ m ≤ 9223372036854775807
theorem goes_none {l : List RuleT} {a : Nat} (h : findL l a = none) : goesI l a = -1 := by unfold goesI nextL; rw [h]
theorem goes_other {l : List RuleT} {a : Nat} {r : RuleT} (h : findL l a = some r) (hr : r.act ≠ 1) : goesI l a = -1 := by unfold goesI nextL; rw [h]; simp [hr]
theorem goes_next {l : List RuleT} {a : Nat} {r : RuleT} (h : findL l a = some r) (hr : r.act = 1) : goesI l a = (r.next : Int) := by unfold goesI nextL; rw [h]; simp [hr]

set_option maxRecDepth 100000 in
set_option maxHeartbeats 2000000 in
theorem vof_any (m a : Nat) (net : List (List RuleT)) (w : World) (hM : MakerAt w m net) (h : NetOk net) (ha : a < 4294967296) :
    Calls Tryz.prog 47 #[.pointer (some ⟨m, 0, none⟩), .int .u32 (a : Int)] w (VecPost w (vecL net a)) := by
  have hnn := h.nodes
  obtain ⟨S, c, vs, hml, hm0, hS, hF⟩ := hM
  have hmk := run_make_row' (P := Tryz.prog) 29 3 (.int .i64 0) 8 Tryz.underlying29 Gr.int_info rfl .i64 .i64 net.length (by omega) (by omega)
  have hrow := VRow.made w (.int .i64 0) net.length 3
  obtain ⟨mk, hmkd⟩ : ∃ mk, mk = Obj.cells (madeCells #[.int .i64 0] net.length) 3 := ⟨_, rfl⟩
  rw [← hmkd] at hmk hrow
  have hb1 : Below w.heap.size w (w.alloc mk) := (Below.refl _ _).alloc (Nat.le_refl _) _
  have hm1 := (hb1.cell (p := ⟨m, 0, none⟩) hml).trans hm0
  obtain ⟨w1, hw1⟩ : ∃ w1, w1 = w.alloc mk := ⟨_, rfl⟩
  rw [← hw1] at hrow hb1
  have s1 : w.heap.size < w1.heap.size := by rw [hw1]; simp
  have HW := Lib.hid hw1
  have HB1 := Lib.hid hb1
  have HROW := Lib.hid hrow
  have HS := Lib.hid hS
  have HF := Lib.hid hF
  have H := Lib.hid h
  clear hw1 hb1 hrow hS hF h hmkd
  go_enter Tryz.func47, Tryz.ntmps47
  go_wp2_with fail
  rw [← HW.out]
  clear hmk hm1 hm0
  go_loopw [21] (fun i wr => ∃ k : Nat, k ≤ net.length ∧ i = .int .i64 k ∧ Hid (VRow wr w.heap.size (vecRow net a k)) ∧ Hid (Below w.heap.size w wr)) (fun i _ => net.length - (intOf i).toNat)
  case atStart => exact ⟨0, by omega, rfl, Lib.hid (by simpa [vecRow] using HROW.out), HB1⟩
  case round =>
    clear HROW HB1 HW
    obtain ⟨k, hk, rfl, HR, HB⟩ := hrel
    by_cases hlt : k < net.length
    · obtain ⟨t, hvt, hth⟩ := HF.out.2 k hlt
      obtain ⟨b, off, hSe, hbb, hcS⟩ := HS.out (by rw [HF.out.1]; omega)
      have hc0 := hcS k _ hvt
      have hk0 := (HB.out.cell (p := ⟨b, off + k, none⟩) hbb).trans hc0
      obtain ⟨G, F, top, sz, hT, hok, -, -⟩ := hth
      have hmem := List.getElem_mem hlt
      have htab := H.out.table _ hmem
      have hfind := fun W (hW : Below w.heap.size w W) => tfind_any 0 t G F top sz net[k] a W (hT.below hW) hok (table_pre htab) (table_once htab) ha
      have hnx := vecRow_next (a := a) hlt
      have hlen := vecRow_len (a := a) hk
      have hrc := HR.out.get (i := k) (List.getElem?_eq_getElem (by omega))
      obtain ⟨ov, hov⟩ : ∃ ov, ov = (vecRow net a k)[k]'(by omega) := ⟨_, rfl⟩
      rw [← hov] at hrc
      obtain ⟨hr0, hrf0⟩ := hrc
      have hR2 := HR.out.set_ k (.int .i64 (-1))
      have hB2 := HB.out.setCell (p := ⟨w.heap.size, k, none⟩) (Nat.le_refl _) (.int .i64 (-1))
      obtain ⟨w2, hw2⟩ : ∃ w2, w2 = wr.setCell ⟨w.heap.size, k, none⟩ (.int .i64 (-1)) := ⟨_, rfl⟩
      rw [← hw2] at hR2 hB2
      have hf2 := hfind w2 hB2
      obtain ⟨l, hl⟩ : ∃ l, l = net[k] := ⟨_, rfl⟩
      rw [← hl] at hf2 hnx
      have HW2 := Lib.hid hw2
      have HR2 := Lib.hid hR2
      have HB2 := Lib.hid hB2
      have HNX := Lib.hid hnx
      have HFD := Lib.hid hf2
      have hki : (0 : Int) ≤ (k : Int) := by omega
      have hkl : (k : Int) < (net.length : Int) := by omega
      have hbw2 : w.heap.size < w2.heap.size := by rw [hw2]; have := HR.out.lt; simpa using this
      clear hvt hcS hc0 hT hok hmem htab hfind hnx hlen hov hR2 hB2 hw2 hf2 hl
      subst hSe
      go_wp2_with fail
      rw [← HW2.out]
      clear hk0 hr0 hrf0
      refine (HFD.out).mono ?_
      rintro e w3 ⟨rfl, hb3⟩
      have hR3 := HR2.out.below hb3 hbw2
      have hB3 := HB2.out.trans (hb3.mono HB2.out.size)
      obtain ⟨best, hbest⟩ : ∃ best, best = bestOf (findL l a) := ⟨_, rfl⟩
      rw [← hbest]
      obtain ⟨w4, hw4⟩ : ∃ w4, w4 = w3.alloc (.cells #[.int .u32 (best.a : Int), .int .i64 (best.len : Int), .int .i64 (best.act : Int), .int .i64 (best.next : Int)] 43) := ⟨_, rfl⟩
      have h4 : Below w3.heap.size w3 w4 := by rw [hw4]; exact (Below.refl _ _).alloc (Nat.le_refl _) _
      have hX4 : VRow w4 w3.heap.size (rc best) := by rw [hw4]; exact VRow.new w3 #[.int .u32 (best.a : Int), .int .i64 (best.len : Int), .int .i64 (best.act : Int), .int .i64 (best.next : Int)] _
      have hR4 := hR3.below h4 hR3.lt
      have hB4 := hB3.trans (h4.mono hB3.size)
      have hx2 := (hX4.get (i := 2) rfl).1
      have hx3 := (hX4.get (i := 3) rfl).1
      have HW4 := Lib.hid hw4
      cases ho : findL l a with
      | none =>
        have hgo := goes_none ho
        have HE : Hid (VRow w4 w.heap.size (vecRow net a (k + 1))) := Lib.hid (by rw [← HNX.out, hgo]; exact hR4)
        have HB4 := Lib.hid hB4
        clear hR3 hB3 hb3 hw4 h4 hX4 hR4 hB4 hx2 hx3 hgo ho hbest HR2 HB2 HFD HNX
        go_wp2_with fail
        rw [← HW4.out]
        refine ⟨⟨k + 1, by omega, by go_num, HE, HB4⟩, by simp [intOf]; omega⟩
      | some r =>
        have hbr : best = r := by rw [hbest, ho]; rfl
        subst hbr
        by_cases hact : best.act = 1
        · have hgo := goes_next ho hact
          have t1 : ((best.act : Int) == 1) = true := by rw [hact]; rfl
          have hR5 := hR4.set_ k (.int .i64 (best.next : Int))
          have hrc := hR4.get (i := k) (v := .int .i64 (-1)) (by
            rw [List.getElem?_set_self (by rw [vecRow_len hk]; exact hlt)])
          obtain ⟨hr4, hrf4⟩ := hrc
          have hB5 := hB4.setCell (p := ⟨w.heap.size, k, none⟩) (Nat.le_refl _) (.int .i64 (best.next : Int))
          rw [List.set_set] at hR5
          have HE : Hid (VRow (w4.setCell ⟨w.heap.size, k, none⟩ (.int .i64 (best.next : Int))) w.heap.size (vecRow net a (k + 1))) := Lib.hid (by rw [← HNX.out, hgo]; exact hR5)
          have HB5 := Lib.hid hB5
          have hx2' := hx2
          have hx3' := hx3
          have hr4' := hr4
          have hrf4' := hrf4
          rw [hw4] at hx2' hx3' hr4' hrf4'
          rw [hw4] at HE HB5
          clear hR3 hB3 hb3 hw4 h4 hX4 hR4 hB4 hgo ho hbest hact HR2 HB2 HFD HNX hR5 hB5 hx2 hx3 hr4 hrf4
          go_wp2_with fail
          refine ⟨⟨k + 1, by omega, by go_num, HE, HB5⟩, by simp [intOf]; omega⟩
        · have hgo := goes_other ho hact
          have t1 : ((best.act : Int) == 1) = false := by rw [beq_eq_false_iff_ne]; omega
          have HE : Hid (VRow w4 w.heap.size (vecRow net a (k + 1))) := Lib.hid (by rw [← HNX.out, hgo]; exact hR4)
          have HB4 := Lib.hid hB4
          have hx2' := hx2
          rw [hw4] at hx2'
          clear hR3 hB3 hb3 hw4 h4 hX4 hR4 hB4 hgo ho hbest hact HR2 HB2 HFD HNX hx2 hx3
          go_wp2_with fail
          rw [← HW4.out]
          refine ⟨⟨k + 1, by omega, by go_num, HE, HB4⟩, by simp [intOf]; omega⟩
    · obtain rfl : k = net.length := by omega
      have hR := HR.out
      have hl : vecRow net a net.length = Gr.ints (vecL net a) := by unfold vecRow; rw [List.take_of_length_le (by rw [vecL_len]; exact Nat.le_refl _)]; simp
      rw [hl] at hR
      have HL := Lib.hid hR.lies
      clear hR hl
      go_wp2_with fail
      go_ret
      exact ⟨_, net.length, ret_slice (vecL_len net a).symm, HL.out, HB.out, (fun a ha => (by injection ha with ha; rw [← ha]; exact Nat.le_refl _)), by rw [vecL_len]; exact Nat.le_refl _, by omega⟩
end Go.Proofs.YtpjoefekhgmlhaaGreat.Tp

namespace Go.Proofs.YtpjoefekhgmlhaaGreat.Tp
open Go.RowKit Mem

/-- What a slice of numbers of 32 bits is told as. -/
def U32Post (w : World) (l : List Nat) (e : Ending) (w' : World) : Prop := ∃ R m, e = .returned (.slice R l.length m) ∧ Lies w' R (u32s l) ∧ Below w.heap.size w w' ∧ l.length ≤ m ∧ m ≤ 9223372036854775807 ∧ Gr.New w R
theorem u32_info : (Tryz.prog.info? 25).map (fun i => (i.zero, i.size, i.bytes)) = some (some (.int .u32 0), 1, 4) := by kernel_rfl
theorem u32_one (l : List Nat) : ∀ u ∈ u32s l, u.oneCell' = true := by
  intro u hu
  obtain ⟨x, _, rfl⟩ := List.mem_map.1 hu
  rfl
/-- The cuts within bounds. -/
def insideL (l : List Nat) (lo hi : Nat) : List Nat := lo :: l.filter fun a => decide (lo < a ∧ a ≤ hi)
def insideTo (l : List Nat) (lo hi k : Nat) : List Nat := lo :: (l.take k).filter fun a => decide (lo < a ∧ a ≤ hi)
theorem insideTo_next {l : List Nat} {lo hi k : Nat} (h : k < l.length) : insideTo l lo hi (k + 1) = insideTo l lo hi k ++ if lo < l[k] ∧ l[k] ≤ hi then [l[k]] else [] := by
  unfold insideTo
  rw [List.take_succ_eq_append_getElem h, List.filter_append]
  split <;> simp_all
theorem insideTo_len (l : List Nat) (lo hi k : Nat) : (insideTo l lo hi k).length ≤ k + 1 := by
  unfold insideTo
  have := List.length_filter_le (fun a => decide (lo < a ∧ a ≤ hi)) (l.take k)
  simp at this ⊢
  omega
theorem insideTo_end (l : List Nat) (lo hi : Nat) : insideTo l lo hi l.length = insideL l lo hi := by unfold insideTo insideL; rw [List.take_of_length_le (Nat.le_refl _)]
theorem own_lit' (w : World) (x : Value) (e : TypeId) : (w.alloc (.cells #[x] e)).ownsRow w.heap.size e 1 (.slice (some ⟨w.heap.size, 0, none⟩) 1 1) 1 [x] :=
  ⟨rfl, .inr ⟨w.heap.size, 1, #[x], rfl, Nat.le_refl _, heap_alloc_new w _, by omega, by simp [maxLen], rfl, rfl⟩⟩

set_option maxRecDepth 100000 in
set_option maxHeartbeats 1000000 in
theorem inside_any (A : Option Addr) (c lo hi : Nat) (l : List Nat) (w : World) (hA : Lies w A (u32s l)) (hl : l.length ≤ 1000000) (hb : ∀ a ∈ l, a < 4294967296) :
    Calls Tryz.prog 122 #[.slice A l.length c, .int .u32 (lo : Int), .int .u32 (hi : Int)] w (U32Post w (insideL l lo hi)) := by
  have HB := Lib.hid hb
  clear hb
  go_enter Tryz.func122, Tryz.ntmps122
  go_wp2_with fail
  have hb0 : Below w.heap.size w (w.alloc (.cells #[.int .u32 (lo : Int)] 25)) := (Below.refl _ _).alloc (Nat.le_refl _) _
  have hown0 := own_lit' w (.int .u32 (lo : Int)) 25
  go_loopw [7, 14] (fun s i wr => ∃ k : Nat, k ≤ l.length ∧ i = .int .i64 k ∧ wr.ownsRow w.heap.size 25 1 s (insideTo l lo hi k).length (u32s (insideTo l lo hi k)) ∧ Below w.heap.size w wr) (fun _ i _ => l.length - (intOf i).toNat)
  case atStart => exact ⟨0, by omega, rfl, by simpa [insideTo] using hown0, hb0⟩
  case round =>
    clear hown0 hb0
    obtain ⟨k, hk, rfl, hown, hbr⟩ := hrel
    obtain ⟨A5, m5, rfl, hm1, hm2⟩ := own_form hown
    have hlen := insideTo_len l lo hi k
    by_cases hlt : k < l.length
    · obtain ⟨b, off, hAe, hbb, hc0⟩ := Lies.at_map hA hlt
      have hcell := (hbr.cell (p := ⟨b, off + k, none⟩) hbb).trans hc0
      have hnx := insideTo_next (lo := lo) (hi := hi) hlt
      have hal := HB.out _ (List.getElem_mem hlt)
      obtain ⟨a, ha⟩ : ∃ a, a = l[k] := ⟨_, rfl⟩
      rw [← ha] at hcell hnx hal
      have HA := Lib.hid hA
      have hsz := hbr.size
      clear ha hc0 hA
      subst hAe
      by_cases hin : lo < a ∧ a ≤ hi
      · rw [if_pos hin] at hnx
        obtain ⟨h1, h2⟩ := hin
        have t1 : decide ((lo : Int) < (a : Int)) = true := by rw [decide_eq_true_eq]; omega
        have t2 : decide ((a : Int) ≤ (hi : Int)) = true := by rw [decide_eq_true_eq]; omega
        have t3 : decide (a ≤ hi) = true := by rw [decide_eq_true_eq]; omega
        have t4 : decide (lo < a) = true := by rw [decide_eq_true_eq]; omega
        have HNX := Lib.hid hnx
        have hbw := hbr.alloc hsz (.cells #[.int .u32 (a : Int)] 25)
        have hone := Lies.new wr #[.int .u32 (a : Int)] 25
        have hown1 := hown.alloc (.cells #[.int .u32 (a : Int)] 25)
        have HBW := Lib.hid hbw
        have HONE := Lib.hid hone
        clear hnx hbw hone hbr
        go_wp2_with (at_builtin; refine wpList_app rfl (.tmp 26) (.tmp 28) _ rfl Tryz.underlying39 u32_info rfl (by omega) (by omega) w _ HBW.out _ _ _ _ rfl hown1 _ 1 1 _ rfl rfl HONE.out (by intro u hu; simp at hu; subst hu; rfl) (by omega) ?_; intro S3 c3 w3 hown3 hc3 hc3' hb3 hg3)
        go_roundw
        case rel => exact ⟨k + 1, by omega, by go_num, by rw [HNX.out, List.length_append, u32s, List.map_append]; exact hown3, hb3⟩
        case measure => simp [intOf]; omega
      · rw [if_neg hin, List.append_nil] at hnx
        have HNX := Lib.hid hnx
        by_cases h1 : lo < a
        · have t1 : decide ((lo : Int) < (a : Int)) = true := by rw [decide_eq_true_eq]; omega
          have t2 : decide ((a : Int) ≤ (hi : Int)) = false := by rw [decide_eq_false_iff_not]; omega
          have t3 : decide (a ≤ hi) = false := by rw [decide_eq_false_iff_not]; omega
          have t4 : decide (lo < a) = true := by rw [decide_eq_true_eq]; omega
          clear hnx hin
          go_wp2_with fail
          refine ⟨⟨k + 1, by omega, by go_num, by rw [HNX.out]; exact hown, hbr⟩, by simp [intOf]; omega⟩
        · have t1 : decide ((lo : Int) < (a : Int)) = false := by rw [decide_eq_false_iff_not]; omega
          have t4 : decide (lo < a) = false := by rw [decide_eq_false_iff_not]; omega
          clear hnx hin
          go_wp2_with fail
          refine ⟨⟨k + 1, by omega, by go_num, by rw [HNX.out]; exact hown, hbr⟩, by simp [intOf]; omega⟩
    · have ek : k = l.length := by omega
      subst ek
      rw [insideTo_end] at hown hm1
      go_wp2_with fail
      go_ret
      rw [insideTo_end]
      exact ⟨A5, m5, rfl, .of_own hown, hbr, hm1, hm2, new_of hown⟩

/-! ### the points of parts -/
theorem rows_info : (Tryz.prog.info? 39).map (fun i => (i.zero, i.size, i.bytes)) = some (some (.slice none 0 0), 1, 24) := by kernel_rfl
def pointsL (l : List Nat) (ps : List PartT) : List (List Nat) := ps.map fun p => insideL l p.f p.t
/-- Rows of numbers of 32 bits, away from a block. -/
def RowsU (w : World) (own : Option Nat) (vs : List Value) (ls : List (List Nat)) : Prop := vs.length = ls.length ∧ ∀ i (hi : i < ls.length), ∃ B c, vs[i]? = some (.slice B ls[i].length c) ∧ Held w own B (u32s ls[i])
theorem RowsU.step {w w' : World} {own own' : Option Nat} {vs : List Value} {ls : List (List Nat)} (h : RowsU w own vs ls) (hg : w.grownBy w' own) (hat : own' = own ∨ own' = some w.heap.size) : RowsU w' own' vs ls :=
  ⟨h.1, fun i hi => by
    obtain ⟨B, c, e, hh⟩ := h.2 i hi
    exact ⟨B, c, e, hh.step hg hat⟩⟩
theorem RowsU.below {w w' : World} {own : Option Nat} {vs : List Value} {ls : List (List Nat)} (h : RowsU w own vs ls) (hb : Below w.heap.size w w') : RowsU w' own vs ls :=
  ⟨h.1, fun i hi => by
    obtain ⟨B, c, e, hh⟩ := h.2 i hi
    exact ⟨B, c, e, hh.below hb⟩⟩
theorem RowsU.snoc {w : World} {own : Option Nat} {vs : List Value} {ls : List (List Nat)} (h : RowsU w own vs ls) {B : Option Addr} {c : Nat} {l : List Nat} (hl : Held w own B (u32s l)) : RowsU w own (vs ++ [.slice B l.length c]) (ls ++ [l]) := by
  refine ⟨by simp [h.1], fun i hi => ?_⟩
  rw [List.length_append, List.length_singleton] at hi
  by_cases e : i < ls.length
  · obtain ⟨B', c', e', hh⟩ := h.2 i e
    refine ⟨B', c', ?_, ?_⟩
    · rw [List.getElem?_append_left (by rw [h.1]; exact e), List.getElem_append_left e]; exact e'
    · rw [List.getElem_append_left e]; exact hh
  · have ei : i = ls.length := by omega
    subst ei
    refine ⟨B, c, ?_, ?_⟩
    · rw [List.getElem?_append_right (by rw [h.1]; exact Nat.le_refl _), h.1]; simp
    · simpa using hl
/-- A slice that reads as rows of numbers of 32 bits. -/
def RowsAt (w : World) (A : Option Addr) (ls : List (List Nat)) : Prop := ∃ vs, Lies w A vs ∧ RowsU w none vs ls
theorem RowsAt.below {w w' : World} {A : Option Addr} {ls : List (List Nat)} (h : RowsAt w A ls) (hb : Below w.heap.size w w') : RowsAt w' A ls := by
  obtain ⟨vs, h1, h2⟩ := h
  exact ⟨vs, h1.below hb, h2.below hb⟩
theorem RowsAt.at_ {w : World} {A : Option Addr} {ls : List (List Nat)} (h : RowsAt w A ls) {i : Nat} (hi : i < ls.length) : ∃ b off B c, A = some ⟨b, off, none⟩ ∧ b < w.heap.size ∧ w.cell? ⟨b, off + i, none⟩ = some (.slice B ls[i].length c) ∧ Lies w B (u32s ls[i]) := by
  obtain ⟨vs, h1, h2⟩ := h
  obtain ⟨B, c, e, hh⟩ := h2.2 i hi
  obtain ⟨b, off, eA, hb, hc⟩ := h1 (by rw [h2.1]; omega)
  exact ⟨b, off, B, c, eA, hb, hc i _ e, hh.lies⟩
end Go.Proofs.YtpjoefekhgmlhaaGreat.Tp
