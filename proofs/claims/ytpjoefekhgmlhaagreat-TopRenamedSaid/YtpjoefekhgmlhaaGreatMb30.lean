/- CONTRACT of the reference theseusref09.Fit: a network made such as may be. Conditions: the numbers fit their kinds. · OPENING a network that came in: what its cells hold. Conditions: it reads as the row says. · PLAIN LAWS of loops and ranks, as the graph's laws have them. No conditions. -/
import Derived.Test.YtpjoefekhgmlhaaGreatMb29
import Derived.Deep.Slices
import Derived.Lib.SmallJoins
import Derived.WideShapes
import Derived.Test.YtpjoefekhgmlhaaGreatMb02
import Derived.Test.YtpjoefekhgmlhaaGreatMb03
namespace Go.Proofs.YtpjoefekhgmlhaaGreat.Tp
open Go.RowKit Mem Odr

/-- A network of any numbers. -/
def NetZAt (w : World) (A : Option Addr) (net : List (List RuleZ)) : Prop :=
  ∃ vs : List Value, vs.length = net.length ∧ Lies w A vs ∧ ∀ i (hi : i < net.length), ∃ B c, vs[i]? = some (.slice B net[i].length c) ∧ RulesZAt w B net[i]
theorem NetZAt.below {w w' : World} {A : Option Addr} {net : List (List RuleZ)} (h : NetZAt w A net) (hb : Below w.heap.size w w') : NetZAt w' A net := by
  obtain ⟨vs, h1, h2, h3⟩ := h
  exact ⟨vs, h1, h2.below hb, fun i hi => by obtain ⟨B, c, e, hl⟩ := h3 i hi; exact ⟨B, c, e, Lies.below hl hb⟩⟩
theorem NetZAt.at_ {w : World} {A : Option Addr} {net : List (List RuleZ)} (h : NetZAt w A net) {i : Nat} (hi : i < net.length) :
    ∃ b off B c, A = some ⟨b, off, none⟩ ∧ b < w.heap.size ∧ w.cell? ⟨b, off + i, none⟩ = some (.slice B net[i].length c) ∧ RulesZAt w B net[i] := by
  obtain ⟨vs, h1, h2, h3⟩ := h
  obtain ⟨b, off, e, hb, hc⟩ := h2 (by omega)
  obtain ⟨B, c, e2, hl⟩ := h3 i hi
  exact ⟨b, off, B, c, e, hb, hc i _ e2, hl⟩
/-- A network is told. -/
def NetZPost (w : World) (net : List (List RuleT)) (e : Ending) (w' : World) : Prop := ∃ R m, e = .returned (.agg #[.slice R net.length m]) ∧ NetAt w' R net ∧ Below w.heap.size w w' ∧ net.length ≤ m ∧ m ≤ 9223372036854775807
theorem fitN_take {net : List (List RuleZ)} {k : Nat} (h : k < manyN net) : (fitN net).take (k + 1) = (fitN net).take k ++ [fitT (manyN net) (net.getD k [])] := by
  rw [List.take_succ_eq_append_getElem (by rw [fitN_len]; exact h)]
  congr 2
  simp [fitN]
/-- Rows of rules, away from the blocks T. -/
def NRows (W : World) (T : Nat → Prop) (vs : List Value) (net : List (List RuleT)) : Prop := vs.length = net.length ∧ ∀ i (hi : i < net.length), ∃ B c, vs[i]? = some (.slice B net[i].length c) ∧ RulesAt W B net[i] ∧ (0 < net[i].length → ∀ a, B = some a → ¬ T a.block) ∧ net[i].length ≤ c ∧ c ≤ 9223372036854775807
theorem NRows.step {W W2 : World} {T T2 : Nat → Prop} {vs : List Value} {net : List (List RuleT)} (h : NRows W T vs net) (hs : W.heap.size ≤ W2.heap.size) (hk : ∀ b, b < W.heap.size → ¬ T b → W2.heap[b]? = W.heap[b]?) (hT : ∀ b, b < W.heap.size → T2 b → T b) : NRows W2 T2 vs net :=
  ⟨h.1, fun i hi => by
    obtain ⟨B, c, e, hL, hap, hc⟩ := h.2 i hi
    have hlt : 0 < net[i].length → ∀ a, B = some a → a.block < W.heap.size := fun hn => lies_block hL (by rw [rcs_len]; omega)
    refine ⟨B, c, e, lies_stay hL hs (fun hn a ha => ?_), fun hn a ha ht => hap hn a ha (hT _ (hlt hn a ha) ht), hc⟩
    have hn' : 0 < net[i].length := by rw [rcs_len] at hn; omega
    exact hk _ (hlt hn' a ha) (hap hn' a ha)⟩
theorem NRows.snoc {W : World} {T : Nat → Prop} {vs : List Value} {net : List (List RuleT)} (h : NRows W T vs net) {B : Option Addr} {c : Nat} {l : List RuleT} (hl : RulesAt W B l) (ha : 0 < l.length → ∀ a, B = some a → ¬ T a.block) (h1 : l.length ≤ c) (h2 : c ≤ 9223372036854775807) : NRows W T (vs ++ [.slice B l.length c]) (net ++ [l]) := by
  refine ⟨by simp [h.1], fun i hi => ?_⟩
  rw [List.length_append, List.length_singleton] at hi
  by_cases e : i < net.length
  · obtain ⟨B', c', e', hh⟩ := h.2 i e
    refine ⟨B', c', ?_, ?_⟩
    · rw [List.getElem?_append_left (by rw [h.1]; exact e), List.getElem_append_left e]; exact e'
    · rw [List.getElem_append_left e]; exact hh
  · have ei : i = net.length := by omega
    subst ei
    refine ⟨B, c, ?_, ?_⟩
    · rw [List.getElem?_append_right (by rw [h.1]; exact Nat.le_refl _), h.1]; simp
    · simpa using ⟨hl, ha, h1, h2⟩
theorem NRows.net {W : World} {T : Nat → Prop} {vs : List Value} {net : List (List RuleT)} (h : NRows W T vs net) {A : Option Addr} (hA : Lies W A vs) : NetAt W A net :=
  ⟨vs, h.1, hA, fun i hi => by
    obtain ⟨B, c, e, hh, _, h2⟩ := h.2 i hi
    exact ⟨B, c, e, hh, h2⟩⟩
/-- So many nodes are made. -/
structure NZ (w wr : World) (x : Nat) (A : Option Addr) (n c : Nat) (net : List (List RuleT)) (k : Nat) (S : Option Addr) (cS : Nat) (vs : List Value) : Prop where
  arg : VRow wr x [.slice A n c]
  res : VRow wr (x + 1) [.slice none 0 0]
  row : VRow wr (x + 2) [.slice S k cS]
  own : wr.ownsRow (x + 3) 44 1 (.slice S k cS) k vs
  rows : NRows wr (fun b => (x ≤ b ∧ b < x + 3) ∨ ob S = some b) vs (net.take k)
  bel : Below x w wr
theorem NZ.below {w wr w' : World} {x : Nat} {A : Option Addr} {n c : Nat} {net : List (List RuleT)} {k : Nat} {S : Option Addr} {cS : Nat} {vs : List Value} (h : NZ w wr x A n c net k S cS vs) (hb : Below wr.heap.size wr w') : NZ w w' x A n c net k S cS vs :=
  ⟨h.arg.below hb h.arg.lt, h.res.below hb h.res.lt, h.row.below hb h.row.lt, own_below h.own hb, h.rows.step hb.size (fun b hb' _ => hb.block b hb') (fun _ _ h => h), h.bel.trans (hb.mono (Nat.le_of_lt h.arg.lt))⟩
theorem NZ.step {w wq w4 w6 : World} {x : Nat} {A : Option Addr} {n c : Nat} {net : List (List RuleT)} {k : Nat} {S : Option Addr} {cS : Nat} {vs : List Value} (h : NZ w wq x A n c net k S cS vs) {l : List RuleT} {R4 : Option Addr} {m4 c6 : Nat} {S6 : Option Addr}
    (hn : net.take (k + 1) = net.take k ++ [l]) (hb4 : Below wq.heap.size wq w4) (hL4 : RulesAt w4 R4 l) (hN4 : Gr.New wq R4) (hm4 : l.length ≤ m4) (hm4' : m4 ≤ 9223372036854775807)
    (hO6 : w6.ownsRow (x + 3) 44 1 (.slice S6 (k + 1) c6) (k + 1) (vs ++ [.slice R4 l.length m4])) (hg6 : (w4.alloc (.cells #[.slice R4 l.length m4] 44)).grownBy w6 (ob S)) (hat : ob S6 = ob S ∨ ob S6 = some (w4.heap.size + 1)) :
    NZ w (w6.setCell ⟨x + 2, 0, none⟩ (.slice S6 (k + 1) c6)) x A n c net (k + 1) S6 c6 (vs ++ [.slice R4 l.length m4]) := by
  have h5 := (h.below hb4).below (bal w4 (.cells #[.slice R4 l.length m4] 44))
  have hsz : (w4.alloc (.cells #[.slice R4 l.length m4] 44)).heap.size = w4.heap.size + 1 := by simp
  have hL5 := hL4.below (bal w4 (.cells #[.slice R4 l.length m4] 44))
  generalize w4.alloc (.cells #[.slice R4 l.length m4] 44) = w5 at *
  have ho : ∀ g, ob S = some g → x + 3 ≤ g ∧ g < wq.heap.size := fun g hg => by have := h.own.lt g (by rw [ob_eq]; exact hg); exact ⟨this.1, this.2⟩
  have ho6 : ∀ g, ob S6 = some g → x + 3 ≤ g := fun g hg => (hO6.lt g (by rw [ob_eq]; exact hg)).1
  have hk : ∀ b, b < x + 3 → b < w5.heap.size → w6.heap[b]? = w5.heap[b]? := fun b hb hb' => hg6.block b hb' (fun e => by have := (ho b e.symm).1; omega)
  have hk2 : ∀ b, b < w5.heap.size → b ≠ x + 2 → ob S ≠ some b → (w6.setCell ⟨x + 2, 0, none⟩ (.slice S6 (k + 1) c6)).heap[b]? = w5.heap[b]? := fun b hb h1 h2 =>
    (Below.heap_setCell w6 ⟨x + 2, 0, none⟩ _ b h1).trans (hg6.block b hb (Ne.symm h2))
  have hs6 : w5.heap.size ≤ (w6.setCell ⟨x + 2, 0, none⟩ (.slice S6 (k + 1) c6)).heap.size := by have := hg6.size; simpa using this
  have ns : ∀ b, b < x + 3 → ob S ≠ some b := fun b hb e => by have := (ho b e).1; omega
  refine ⟨h5.arg.keep hs6 (hk2 _ h5.arg.lt (by omega) (ns _ (by omega))), h5.res.keep hs6 (hk2 _ h5.res.lt (by omega) (ns _ (by omega))), ?_, ?_, ?_, ?_⟩
  · exact (h5.row.keep hg6.size (hk _ (by omega) h5.row.lt)).set_ 0 _
  · exact ownsRow_setCell_other hO6 (by rw [ob_eq]; intro e; have h9 : x + 3 ≤ x + 2 := ho6 _ e; omega) _
  · rw [hn]
    have hT : ∀ b, b < w5.heap.size → ((x ≤ b ∧ b < x + 3) ∨ ob S6 = some b) → ((x ≤ b ∧ b < x + 3) ∨ ob S = some b) := fun b hb h1 => by
      rcases h1 with h1 | h1
      · exact .inl h1
      · rcases hat with h2 | h2
        · exact .inr (by rw [← h2]; exact h1)
        · rw [h2] at h1; injection h1 with h1; omega
    have hr := h5.rows.step hs6 (fun b hb h1 => hk2 b hb (fun e => h1 (.inl (by omega))) (fun e => h1 (.inr e))) hT
    have hlt : 0 < l.length → ∀ a, R4 = some a → a.block < w4.heap.size := fun hn => lies_block hL4 (by rw [rcs_len]; omega)
    have hap : 0 < l.length → ∀ a, R4 = some a → ¬ ((x ≤ a.block ∧ a.block < x + 3) ∨ ob S = some a.block) := fun hn a ha h1 => by
      have h2 := hN4 a ha
      have h3 := h.row.lt
      rcases h1 with h1 | h1
      · omega
      · have := (ho _ h1).2; omega
    refine hr.snoc (lies_stay hL5 hs6 (fun hn a ha => ?_)) (fun hn a ha h1 => hap hn a ha (hT _ (by have := hlt hn a ha; omega) h1)) hm4 hm4'
    have hn' : 0 < l.length := by rw [rcs_len] at hn; omega
    exact hk2 _ (by have := hlt hn' a ha; omega) (fun e => hap hn' a ha (.inl (by omega))) (fun e => hap hn' a ha (.inr e))
  · exact (h5.bel.grown hg6 (Nat.le_of_lt h5.arg.lt) (fun g hg => by have := (ho g hg).1; omega)).setCell (p := ⟨x + 2, 0, none⟩) (Nat.le_add_right _ _) _
theorem below_drew' {w w' : World} (h : Below w.drew.heap.size w.drew w') : Below w.heap.size w w' := ⟨h.os, h.tape, h.output, h.size, h.block⟩
end Go.Proofs.YtpjoefekhgmlhaaGreat.Tp

namespace Go.Proofs.YtpjoefekhgmlhaaGreat.Tp
open Go.RowKit Mem Go.ChangeShapes Go.WideShapes

instance : Inhabited RuleZ := ⟨⟨0, 0, 0, 0⟩⟩
theorem four_of {cs : List Value} (h : cs.length = 4) : ∃ a b c d, cs = [a, b, c, d] := by
  match cs, h with
  | [a, b, c, d], _ => exact ⟨a, b, c, d, rfl⟩
theorem one_of {cs : Array Value} (h : cs.size = 1) : ∃ a, cs = #[a] := by
  match cs, h with
  | ⟨[a]⟩, _ => exact ⟨a, rfl⟩
section
variable {H : Type} {enc : TypeId × Value → H} {w : World} {base : Nat} {sp : Nat → Bool} {held : Bool}
theorem cells_rule : Tryz.prog.cellsOf 43 = 4 := by kernel_rfl
theorem cells_u32 : Tryz.prog.cellsOf 25 = 1 := by kernel_rfl
theorem cells_int : Tryz.prog.cellsOf 3 = 1 := by kernel_rfl
theorem cells_net : Tryz.prog.cellsOf 24 = 1 := by kernel_rfl
theorem cells_nodes : Tryz.prog.cellsOf 22 = 1 := by kernel_rfl
theorem cells_rules : Tryz.prog.cellsOf 44 = 1 := by kernel_rfl
theorem open_rule {fuel : Nat} {cs : List Value} {x : DataW H × List MemPlace} (h : DataW.trod enc Tryz.prog w base sp held fuel 43 cs = some x) : ∃ r : RuleZ, cs = rcz r ∧ RuleZOk r := by
  obtain ⟨y0, y1, y2, y3, n, -, hl, h0, h1, h2, h3⟩ := Go.Joins.trod_struct4 Tryz.underlying43 h
  have hc : cs.length = 4 := hl.trans cells_rule
  obtain ⟨v0, v1, v2, v3, rfl⟩ := four_of hc
  simp only [cells_u32, cells_int, List.drop_zero, List.take_succ_cons, List.take_zero, List.drop_succ_cons] at h0 h1 h2 h3
  obtain ⟨n0, e0, -, w0⟩ := DataW.trod_int Tryz.underlying25 h0
  obtain ⟨n1, e1, -, w1⟩ := DataW.trod_int Tryz.underlying3 h1
  obtain ⟨n2, e2, -, w2⟩ := DataW.trod_int Tryz.underlying3 h2
  obtain ⟨n3, e3, -, w3⟩ := DataW.trod_int Tryz.underlying3 h3
  obtain ⟨a, ha, rfl⟩ := wf_u32 w0
  injection e0 with e0 _
  injection e1 with e1 _
  injection e2 with e2 _
  injection e3 with e3 _
  subst e0 e1 e2 e3
  exact ⟨⟨a, n1, n2, n3⟩, rfl, ⟨ha, wf_int w1, wf_int w2, wf_int w3⟩⟩
theorem open_rules {fuel : Nat} {v : Value} {x : DataW H × List MemPlace} (h : DataW.trod enc Tryz.prog w base sp held fuel 44 [v] = some x) : ∃ B l c, v = .slice B (l : List RuleZ).length c ∧ RulesZAt w B l ∧ ∀ r ∈ l, RuleZOk r := by
  rcases Deep.open_slice Tryz.underlying44 h with ⟨e, -⟩ | ⟨a, len, cap, m, n, D, Pl, e, -, hl, -, hm, -, hel⟩
  · injection e with e _
    exact ⟨none, [], 0, e, lies_none, by simp⟩
  · injection e with e _
    subst e
    have hlm : len ≤ m := by rw [hm]; split <;> omega
    rw [cells_rule] at hel
    have each : ∀ i, i < len → ∃ r : RuleZ, (∀ j, j < 4 → w.cell? ((a.add (i * 4)).add j) = (rcz r)[j]?) ∧ RuleZOk r := fun i hi => by
      obtain ⟨cs', h1, h2⟩ := hel i (by omega)
      obtain ⟨-, -, hc⟩ := World.cells?_some h1
      obtain ⟨r, rfl, hr⟩ := open_rule h2
      exact ⟨r, hc, hr⟩
    obtain ⟨R, hR⟩ := Deep.choose_lt each
    refine ⟨some a, (List.range len).map R, cap, by simp, fun hp => ?_, fun r hr => ?_⟩
    · have hp' : 0 < len := by rw [rczs_len] at hp; simp at hp; omega
      obtain ⟨b, off, spot⟩ := a
      have hc0 : w.cell? ((Addr.add ⟨b, off, spot⟩ (0 * 4)).add 0) = some (.int .u32 ((R 0).a : Int)) := (hR 0 hp').1 0 (by omega)
      have hspot : spot = none := by simpa [Addr.add] using World.cell?_spot hc0
      subst hspot
      have hb : b < w.heap.size := by
        have := block_lt_of_cell hc0
        simpa [Addr.add] using this
      refine ⟨b, off, rfl, hb, fun t u hu => ?_⟩
      have ht : t < ((List.range len).map R).length * 4 := by
        have := (List.getElem?_eq_some_iff.1 hu).1
        rwa [rczs_len] at this
      have ht' : t < len * 4 := by simpa using ht
      have hi : t / 4 < len := by omega
      have h1 := (hR (t / 4) hi).1 (t % 4) (by omega)
      rw [Mem.add_plain, Mem.add_plain, show off + t / 4 * 4 + t % 4 = off + t by omega] at h1
      rw [h1]
      have h2 := rczs_at ((List.range len).map R) (t / 4) (by simpa using hi) (t % 4) (by omega)
      rw [show t / 4 * 4 + t % 4 = t by omega] at h2
      rw [h2] at hu
      simpa using hu
    · obtain ⟨i, hi, rfl⟩ := List.mem_map.1 hr
      exact (hR i (List.mem_range.1 hi)).2
set_option maxRecDepth 100000 in
theorem open_net {r : Go.Reach} {b0 : Nat} {v : Value} {d : DataW H} {ps : List MemPlace} (hval : Value.okWide Tryz.prog w r b0 24 v) (h : DataW.Trod enc Tryz.prog w base sp held 24 v d ps) :
    ∃ A net c, v = .agg #[.slice A (net : List (List RuleZ)).length c] ∧ NetZAt w A net ∧ ∀ l ∈ net, ∀ r ∈ l, RuleZOk r := by
  obtain ⟨cs, rfl, hsz⟩ := okWide_struct Tryz.underlying24 hval
  have hc : cs.size = 1 := hsz.trans cells_net
  obtain ⟨v0, rfl⟩ := one_of hc
  obtain ⟨fuel, hf⟩ := h
  obtain ⟨xs, n, -, -, -, hlx, hel⟩ := DataW.trod_struct Tryz.underlying24 hf
  have h0 : DataW.trod enc Tryz.prog w base sp held n 22 (([v0].drop 0).take (Tryz.prog.cellsOf 22)) = xs[0]? := hel 0 _ rfl
  rw [cells_nodes] at h0
  have hx0 : ∃ y, xs[0]? = some y := by
    have hl1 : xs.length = 1 := by rw [hlx]; rfl
    exact ⟨xs[0]'(by omega), List.getElem?_eq_getElem (by omega)⟩
  obtain ⟨y, hy⟩ := hx0
  rw [hy] at h0
  have h0' : DataW.trod enc Tryz.prog w base sp held n 22 [v0] = some y := h0
  rcases Deep.open_slice1 Tryz.underlying22 cells_rules h0' with ⟨e, -⟩ | ⟨a, len, cap, m, n', V, D, Pl, e, -, hl, -, hm, -, hev⟩
  · injection e with e _
    subst e
    exact ⟨none, [], 0, rfl, ⟨[], rfl, lies_none, fun i hi => absurd hi (by simp)⟩, by simp⟩
  · injection e with e _
    subst e
    have hlm : len ≤ m := by rw [hm]; split <;> omega
    have each : ∀ i, i < len → ∃ q : List RuleZ, w.cell? (a.add i) = some (V i) ∧ (∃ B c, V i = .slice B q.length c ∧ RulesZAt w B q) ∧ ∀ r ∈ q, RuleZOk r := fun i hi => by
      obtain ⟨h1, h2⟩ := hev i (by omega)
      obtain ⟨B, l, c, e, hl, hr⟩ := open_rules h2
      exact ⟨l, h1, ⟨B, c, e, hl⟩, hr⟩
    obtain ⟨R, hR⟩ := Deep.choose_lt each
    refine ⟨some a, (List.range len).map R, cap, by simp, ⟨(List.range len).map V, by simp, fun hp => ?_, fun i hi => ?_⟩, fun l hl => ?_⟩
    · have hp' : 0 < len := by simpa using hp
      obtain ⟨b, off, spot⟩ := a
      have hc0 := (hR 0 hp').1
      have hspot : spot = none := by simpa [Addr.add] using World.cell?_spot hc0
      subst hspot
      have hb : b < w.heap.size := by
        have := block_lt_of_cell hc0
        simpa [Addr.add] using this
      refine ⟨b, off, rfl, hb, fun t u hu => ?_⟩
      rw [List.getElem?_map] at hu
      obtain ⟨i, hi, rfl⟩ := Option.map_eq_some_iff.1 hu
      obtain ⟨hi1, hi2⟩ := List.getElem?_eq_some_iff.1 hi
      have hi3 : t < len := by simpa using hi1
      have : i = t := by simpa using hi2.symm
      subst this
      have h1 := (hR i hi3).1
      rwa [Mem.add_plain] at h1
    · have hi' : i < len := by simpa using hi
      obtain ⟨B, c, e, hB⟩ := (hR i hi').2.1
      refine ⟨B, c, ?_, ?_⟩
      · simp [hi', e]
      · simpa using hB
    · obtain ⟨i, hi, rfl⟩ := List.mem_map.1 hl
      exact (hR i (List.mem_range.1 hi)).2.2
end
end Go.Proofs.YtpjoefekhgmlhaaGreat.Tp

namespace Go.Proofs.YtpjoefekhgmlhaaGreat.Gr


theorem loop_empty {v : List Int} (hg : goodB v = true) (h : allRanked v = true) : loopL v = [] := by
  unfold loopL; rw [loopOf_none hg ((ranked_iff_no_cyc hg).1 h)]; rfl
theorem loop_full {v : List Int} (hg : goodB v = true) (h : allRanked v = false) : 0 < (loopL v).length := by
  have hne : ¬ ∀ u, u < v.length → ¬ Cyc v u := fun hc => by rw [(ranked_iff_no_cyc hg).2 hc] at h; cases h
  have : ∃ u, u < v.length ∧ Cyc v u := Classical.byContradiction fun hn => hne fun u hu hc => hn ⟨u, hu, hc⟩
  obtain ⟨u, ⟨hu, hc⟩, hl⟩ := least_nat this
  unfold loopL
  rw [loopOf_some hg hu hc (fun x hx hcx => hl x hx ⟨by omega, hcx⟩)]
  simp [ringOf]
theorem ranks_len (v : List Int) : (ranksL v).length = v.length := by simp [ranksL]
theorem ranks_at {v : List Int} (hg : goodB v = true) {u k : Nat} (hu : u < (ranksL v).length) (h : IsRank v k u) : (ranksL v)[u] = (k : Int) := by
  simp [ranksL, rankOf_eq hg h]

def revAt (n : Nat) (x : Int) : Int := if x < 0 then -1 else (n : Int) - 1 - x
def revV (v : List Int) : List Int := v.reverse.map (revAt v.length)
theorem rev_len (v : List Int) : (revV v).length = v.length := by simp [revV]
theorem rev_at {v : List Int} {u : Nat} (hu : u < v.length) (hu' : v.length - 1 - u < (revV v).length) : (revV v)[v.length - 1 - u] = revAt v.length v[u] := by
  simp only [revV, List.getElem_map, List.getElem_reverse]
  congr 2; omega
theorem rev_good {v : List Int} (hg : goodB v = true) : goodB (revV v) = true := by
  rw [good_iff] at hg ⊢
  intro x hx
  rw [rev_len]
  unfold revV at hx
  obtain ⟨y, hy, rfl⟩ := List.mem_map.1 hx
  have := hg y (List.mem_reverse.1 hy)
  unfold revAt
  split <;> omega
theorem rev_none {v : List Int} {u : Nat} (hu : u < v.length) (h : nxt v u = none) : nxt (revV v) (v.length - 1 - u) = none := by
  have hu' : v.length - 1 - u < (revV v).length := by rw [rev_len]; omega
  rw [nxt_at hu] at h
  split at h
  · rename_i hn
    exact nxt_of_neg hu' (by rw [rev_at hu, revAt, if_pos hn]; decide)
  · cases h
theorem rev_some {v : List Int} (hg : goodB v = true) {u y : Nat} (h : nxt v u = some y) : nxt (revV v) (v.length - 1 - u) = some (v.length - 1 - y) := by
  obtain ⟨hu, hy⟩ := nxt_lt hg h
  have hu' : v.length - 1 - u < (revV v).length := by rw [rev_len]; omega
  have hb := good_at hg hu
  rw [nxt_at hu] at h
  split at h
  · cases h
  · rename_i hn
    injection h with h
    rw [nxt_of_nonneg hu' (by rw [rev_at hu, revAt, if_neg hn]; omega), rev_at hu, revAt, if_neg hn]
    congr 1; omega
theorem rev_rank {v : List Int} (hg : goodB v = true) : ∀ {k u : Nat}, IsRank v k u → IsRank (revV v) k (v.length - 1 - u)
  | 0, u, h => ⟨by rw [rev_len]; have := h.1; omega, rev_none h.1 h.2⟩
  | k + 1, u, ⟨y, hy, h⟩ => ⟨_, rev_some hg hy, rev_rank hg h⟩
theorem rev_back {v : List Int} (hg : goodB v = true) : ∀ {k u : Nat}, u < v.length → IsRank (revV v) k (v.length - 1 - u) → IsRank v k u
  | 0, u, hu, h => ⟨hu, by
    cases hn : nxt v u with
    | none => rfl
    | some y => have := h.2; rw [rev_some hg hn] at this; cases this⟩
  | k + 1, u, hu, ⟨z, hz, h⟩ => by
    cases hn : nxt v u with
    | none => rw [rev_none hu hn] at hz; cases hz
    | some y =>
      rw [rev_some hg hn] at hz
      injection hz with hz
      subst hz
      exact ⟨y, hn, rev_back hg (nxt_lt hg hn).2 h⟩
theorem rev_all {v : List Int} (hg : goodB v = true) : allRanked (revV v) = allRanked v := by
  rw [Bool.eq_iff_iff, allRanked_iff hg, allRanked_iff (rev_good hg)]
  constructor
  · intro h u hu
    obtain ⟨k, hk⟩ := h (v.length - 1 - u) (by rw [rev_len]; omega)
    exact ⟨k, rev_back hg hu hk⟩
  · intro h u hu
    rw [rev_len] at hu
    obtain ⟨k, hk⟩ := h (v.length - 1 - u) (by omega)
    have := rev_rank hg hk
    rw [show v.length - 1 - (v.length - 1 - u) = u by omega] at this
    exact ⟨k, this⟩
theorem rev_ranks {v : List Int} (hg : goodB v = true) (ha : allRanked v = true) {u : Nat} (hu : u < (ranksL v).length) (hu' : v.length - 1 - u < (ranksL (revV v)).length) : (ranksL (revV v))[v.length - 1 - u] = (ranksL v)[u] := by
  have hu0 : u < v.length := by rw [ranks_len] at hu; exact hu
  obtain ⟨k, hk⟩ := (allRanked_iff hg).1 ha u hu0
  rw [ranks_at hg hu hk, ranks_at (rev_good hg) hu' (rev_rank hg hk)]
theorem rev_fill {v : List Int} {k : Nat} (hk : k < v.length) (xs : List Int) (hx : xs.length = v.length)
    (hp : ∀ i (hi : i < v.length), i < k → xs[v.length - 1 - i]? = some (revAt v.length v[i])) :
    ∀ i (hi : i < v.length), i < k + 1 → (xs.set (v.length - 1 - k) (revAt v.length v[k]))[v.length - 1 - i]? = some (revAt v.length v[i]) := fun i hi hik => by
  rw [List.getElem?_set]
  by_cases e : i = k
  · subst e; rw [if_pos rfl, if_pos (by omega)]
  · rw [if_neg (by omega)]; exact hp i hi (by omega)
theorem rev_full {v xs : List Int} (hx : xs.length = v.length) (hp : ∀ i (hi : i < v.length), xs[v.length - 1 - i]? = some (revAt v.length v[i])) : xs = revV v := by
  apply List.ext_getElem
  · rw [rev_len, hx]
  · intro j h1 h2
    have h := hp (v.length - 1 - j) (by omega)
    have h' := rev_at (v := v) (u := v.length - 1 - j) (by omega) (by rw [rev_len]; omega)
    simp only [show v.length - 1 - (v.length - 1 - j) = j by omega] at h h'
    rw [List.getElem?_eq_getElem h1] at h
    injection h with h
    rw [h, h']


theorem per_inj {v : List Int} (hg : goodB v = true) {u p : Nat} (hu : u < v.length) (hc : Cyc v u) (h : Per v u p) {i j : Nat} (hij : i < j) (hj : j < p) : at_ v u i ≠ at_ v u j := fun e => by
  have h1 := (hc.all hg hu i).1
  have h2 := (hc.all hg hu j).1
  have h3 : iter v (j + (p - j)) u = some u := by rw [show j + (p - j) = p by omega]; exact h.2.1
  rw [iter_add, h2, Option.bind_some, ← e] at h3
  have h4 : iter v (i + (p - j)) u = some u := by rw [iter_add, h1, Option.bind_some]; exact h3
  exact h.2.2 _ (by omega) (by omega) h4
/-- Facts of the loop that is told: a ring of some period. -/
theorem loop_ring {v : List Int} (hg : goodB v = true) (h : 0 < (loopL v).length) : ∃ u p, u < v.length ∧ Cyc v u ∧ Per v u p ∧ p ≤ v.length ∧ (∀ x, x < u → ¬ Cyc v x) ∧ loopL v = (ringTo v u p).map fun x : Nat => (x : Int) := by
  have ha : ¬ allRanked v = true := fun ha => by rw [loop_empty hg ha] at h; simp at h
  have hne : ¬ ∀ u, u < v.length → ¬ Cyc v u := fun hc => ha ((ranked_iff_no_cyc hg).2 hc)
  have : ∃ u, u < v.length ∧ Cyc v u := Classical.byContradiction fun hn => hne fun u hu hc => hn ⟨u, hu, hc⟩
  obtain ⟨u, ⟨hu, hc⟩, hl⟩ := least_nat this
  obtain ⟨p, hp, hpl⟩ := hc.per hg hu
  refine ⟨u, p, hu, hc, hp, hpl, fun x hx hcx => hl x hx ⟨by omega, hcx⟩, ?_⟩
  unfold loopL
  rw [loopOf_some hg hu hc (fun x hx hcx => hl x hx ⟨by omega, hcx⟩), ringOf_eq hg hu hc hp hpl]
/-- The nodes of the loop: each a node with a step, no two alike. -/
theorem loop_nodes {v : List Int} (hg : goodB v = true) {i : Nat} (h : i < (loopL v).length) :
    ∃ x : Nat, (loopL v)[i] = (x : Int) ∧ ∃ hx : x < v.length, 0 ≤ v[x] ∧ ∀ j (hj : j < i), (loopL v)[j]'(by omega) ≠ (x : Int) := by
  obtain ⟨u, p, hu, hc, hp, hpl, hl, e⟩ := loop_ring hg (by omega)
  have hlen : (loopL v).length = p := by rw [e, List.length_map, ringTo_len]
  have hat : ∀ k (hk : k < (loopL v).length), (loopL v)[k] = ((at_ v u k : Nat) : Int) := fun k hk => by
    simp only [e, List.getElem_map, ringTo, List.getElem_range]
  refine ⟨at_ v u i, hat i h, (hc.all hg hu i).2, ?_, fun j hj => ?_⟩
  · have h1 := hc.val hg hu i
    rw [List.getElem?_eq_getElem (hc.all hg hu i).2] at h1
    injection h1 with h1
    omega
  · rw [hat j (by omega)]
    have := per_inj hg hu hc hp hj (by omega)
    omega

/-- How many nodes have a step. -/
def cnt (v : List Int) : Nat := v.countP fun x => decide (0 ≤ x)
theorem cnt_le (v : List Int) : cnt v ≤ v.length := List.countP_le_length
theorem cnt_set : ∀ {v : List Int} {k : Nat} (h : k < v.length), 0 ≤ v[k] → cnt (v.set k (-1)) + 1 = cnt v
  | x :: v, 0, h, hx => by
    simp only [List.getElem_cons_zero] at hx
    simp [cnt, hx]
  | x :: v, k + 1, h, hx => by
    simp only [List.getElem_cons_succ] at hx
    have := cnt_set (v := v) (k := k) (by simpa using h) hx
    simp only [cnt, List.set_cons_succ, List.countP_cons] at this ⊢
    omega
theorem set_good {v : List Int} (hg : goodB v = true) (k : Nat) : goodB (v.set k (-1)) = true := by
  rw [good_iff] at hg ⊢
  intro x hx
  rw [List.length_set]
  rcases List.mem_or_eq_of_mem_set hx with h | rfl
  · exact hg x h
  · omega
theorem ends_all {v : List Int} (h : ∀ i (hi : i < v.length), v[i] = -1) : goodB v = true ∧ allRanked v = true ∧ (∀ i (hi : i < (ranksL v).length), (ranksL v)[i] = 0) ∧ (sinks v).length = v.length := by
  have hg : goodB v = true := by
    rw [good_iff]
    intro x hx
    obtain ⟨i, hi, rfl⟩ := List.mem_iff_getElem.1 hx
    rw [h i hi]; omega
  have hn : ∀ u, u < v.length → nxt v u = none := fun u hu => nxt_of_neg hu (by rw [h u hu]; decide)
  have hr : ∀ u, u < v.length → IsRank v 0 u := fun u hu => ⟨hu, hn u hu⟩
  refine ⟨hg, (allRanked_iff hg).2 fun u hu => ⟨0, hr u hu⟩, fun i hi => ?_, ?_⟩
  · exact ranks_at hg hi (hr i (by rw [ranks_len] at hi; exact hi))
  · unfold sinks
    rw [List.length_map, List.filter_eq_self.2 (fun u hu => by rw [hn u (List.mem_range.1 hu)]; rfl), List.length_range]
theorem ends_fill {k : Nat} (xs : List Int) (hp : ∀ i (hi : i < xs.length), i < k → xs[i] = -1) :
    ∀ i (hi : i < (xs.set k (-1)).length), i < k + 1 → (xs.set k (-1))[i] = -1 := fun i hi hik => by
  rw [List.getElem_set]
  by_cases e : k = i
  · subst e; rw [if_pos rfl]
  · rw [if_neg e]; exact hp i (by rw [List.length_set] at hi; exact hi) (by omega)
/-- A loop's node: its step is the next one; all but the first are behind the first. -/
theorem loop_facts {v cl : List Int} (hg : goodB v = true) (e : cl = loopL v) {i : Nat} (h : i < cl.length) :
    ∃ x y z : Nat, cl[i] = (x : Int) ∧ (∃ hx : x < v.length, v[x] = (y : Int)) ∧ (i + 1) % cl.length < cl.length ∧ cl[(i + 1) % cl.length]? = some (y : Int) ∧ cl[0]? = some (z : Int) ∧ (0 < i → z < x) := by
  subst e
  obtain ⟨u, p, hu, hc, hp, hpl, hl, e⟩ := loop_ring hg (by omega)
  have hlen : (loopL v).length = p := by rw [e, List.length_map, ringTo_len]
  have hat : ∀ k, k < p → (loopL v)[k]? = some ((at_ v u k : Nat) : Int) := fun k hk => by
    rw [e, List.getElem?_map]
    simp [ringTo, hk]
  have hp0 := hp.1
  have hm : (i + 1) % (loopL v).length < (loopL v).length := Nat.mod_lt _ (by omega)
  refine ⟨at_ v u i, at_ v u (i + 1), u, ?_, ⟨(hc.all hg hu i).2, ?_⟩, hm, ?_, ?_, fun hi => ?_⟩
  · have := hat i (by omega)
    rw [List.getElem?_eq_getElem h] at this
    injection this
  · have h1 := hc.val hg hu i
    rw [List.getElem?_eq_getElem (hc.all hg hu i).2] at h1
    injection h1
  · rw [hlen] at hm ⊢
    rw [hat _ hm]
    by_cases e1 : i + 1 = p
    · rw [e1, Nat.mod_self, per_eq hp]; rfl
    · rw [Nat.mod_eq_of_lt (by omega)]
  · have := hat 0 hp0
    exact this
  · have h1 := per_ne hg hu hc hp hi (by omega)
    have h2 := cyc_along hc (hc.all hg hu i).1
    rcases Nat.lt_trichotomy (at_ v u i) u with h3 | h3 | h3
    · exact absurd h2 (hl _ h3)
    · exact absurd h3 h1
    · exact h3
/-- A rank: below how many nodes there are, 0 at the ends, one more than that of the step. -/
theorem ranks_facts {v rl : List Int} (hg : goodB v = true) (ha : allRanked v = true) (e : rl = ranksL v) {i : Nat} (hi : i < v.length) :
    ∃ k : Nat, rl[i]? = some (k : Int) ∧ k < v.length ∧ (v[i] < 0 → k = 0) ∧ ∀ y : Nat, v[i] = (y : Int) → ∃ j : Nat, y < v.length ∧ rl[y]? = some (j : Int) ∧ k = j + 1 := by
  subst e
  have hat : ∀ u k, u < v.length → IsRank v k u → (ranksL v)[u]? = some (k : Int) := fun u k hu hk => by
    rw [List.getElem?_eq_getElem (by rw [ranks_len]; exact hu), ranks_at hg _ hk]
  obtain ⟨k, hk⟩ := (allRanked_iff hg).1 ha i hi
  refine ⟨k, hat i k hi hk, hk.bound hg, fun hneg => ?_, fun y hy => ?_⟩
  · have h0 : IsRank v 0 i := ⟨hi, nxt_of_neg hi hneg⟩
    exact hk.unique h0
  · have hn : nxt v i = some y := by rw [nxt_of_nonneg hi (by omega), hy]; simp
    cases k with
    | zero => have := hk.2; rw [hn] at this; cases this
    | succ j =>
      obtain ⟨z, hz, hr⟩ := hk
      rw [hn] at hz
      injection hz with hz
      subst hz
      exact ⟨j, (nxt_lt hg hn).2, hat y j (nxt_lt hg hn).2 hr, rfl⟩
end Go.Proofs.YtpjoefekhgmlhaaGreat.Gr
