/- CONTRACTS of netfile.takeNode, netfile.takeAll of nodes, of what netfile.Put makes. · CONTRACT of netfile.Take, of what netfile.Put makes. · CONTRACTS of certfile's writer: num, group. Conditions: no error before; numbers that fit. -/
import Derived.Test.YtpjoefekhgmlhaaGreatMb15
import Derived.Defers
import Derived.Deep.RegionHeld3
import Derived.OneCell
namespace Go.Proofs.YtpjoefekhgmlhaaGreat.Tp
open Go.RowKit Mem

/-- Rules are told, and the bytes behind; both are new. -/
def TakeNodePost (w : World) (l : List RuleT) (rest : List Nat) (e : Ending) (w' : World) : Prop := ∃ R m R2 m2, e = .returned (.tuple #[.slice R l.length m, .slice R2 rest.length m2, .int .i64 0]) ∧ RulesAt w' R l ∧ Lies w' R2 (bytes rest) ∧ Below w.heap.size w w' ∧
  l.length ≤ m ∧ m ≤ 9223372036854775807 ∧ rest.length ≤ m2 ∧ m2 ≤ 9223372036854775807 ∧ Gr.New w R ∧ Gr.New w R2
theorem new_mono {w w' : World} {R : Option Addr} (h : Gr.New w' R) (hs : w.heap.size ≤ w'.heap.size) : Gr.New w R := fun a ha => Nat.le_trans hs (h a ha)
set_option maxHeartbeats 400000 in
theorem takeNode_any (A : Option Addr) (n c : Nat) (l : List RuleT) (rest : List Nat) (w : World) (h : ∀ r ∈ l, RuleFits r) (hl : l.length ≤ 2000) (hn : (nodeB l ++ rest).length = n) (hA : Lies w A (bytes (nodeB l ++ rest))) (hr : rest.length ≤ 1000000) (hc : n ≤ c) (hc2 : c ≤ 9223372036854775807) :
    Calls Tryz.prog 74 #[.slice A n c] w (TakeNodePost w l rest) := by
  have hrl := rulesB_len l
  have hop := open_any A n c 84 (rulesB l) rest w hn hA (by omega) hr hc hc2
  have htr := fun B k W (hB : Lies W B (bytes (rulesB l))) h1 h2 => trules_any B (rulesB l).length k l W h (by omega) rfl hB h1 h2
  obtain ⟨rb, hrb⟩ : ∃ rb, rb = rulesB l := ⟨_, rfl⟩
  rw [← hrb] at hop htr
  have HOP := Lib.hid hop
  have HTR := Lib.hid htr
  clear hop htr hrb hrl hA hn h
  go_enter Tryz.func74, Tryz.ntmps74
  go_wp2_with fail
  refine (HOP.out).mono ?_
  rintro e w2 ⟨R1, m1, R2, m2, rfl, hL1, hL2, hb2, hm1, hm1', hm2, hm2', hnew2⟩
  have HL2 := Lib.hid hL2
  have HB2 := Lib.hid hb2
  have HN2 := Lib.hid hnew2
  have htr2 := HTR.out R1 m1 w2 hL1 hm1 hm1'
  clear hL1 hL2 hb2 hnew2 HTR HOP
  have HTR2 := Lib.hid htr2
  clear htr2
  go_wp2_with fail
  refine (HTR2.out).mono ?_
  rintro e w3 ⟨R3, m3, rfl, hL3, hb3, hm3, hm3', hnew3⟩
  have HB3 := Lib.hid hb3
  have HN3 := Lib.hid hnew3
  have HL3 := Lib.hid hL3
  clear hb3 hnew3 hL3
  go_wp2_with fail
  go_ret3
  exact ⟨R3, m3, R2, m2, rfl, HL3.out, HL2.out.below HB3.out, HB2.out.trans (HB3.out.mono HB2.out.size), hm3, hm3', hm2, hm2', new_mono HN3.out HB2.out.size, HN2.out⟩

/-- Rows of rules, away from a block. -/
def RowsR (w : World) (own : Option Nat) (vs : List Value) (net : List (List RuleT)) : Prop := vs.length = net.length ∧ ∀ i (hi : i < net.length), ∃ B c, vs[i]? = some (.slice B net[i].length c) ∧ Held w own B (rcs net[i]) ∧ net[i].length ≤ c ∧ c ≤ 9223372036854775807
theorem RowsR.step {w w' : World} {own own' : Option Nat} {vs : List Value} {ls : List (List RuleT)} (h : RowsR w own vs ls) (hg : w.grownBy w' own) (hat : own' = own ∨ own' = some w.heap.size) : RowsR w' own' vs ls :=
  ⟨h.1, fun i hi => by
    obtain ⟨B, c, e, hh, h2⟩ := h.2 i hi
    exact ⟨B, c, e, hh.step hg hat, h2⟩⟩
theorem RowsR.below {w w' : World} {own : Option Nat} {vs : List Value} {ls : List (List RuleT)} (h : RowsR w own vs ls) (hb : Below w.heap.size w w') : RowsR w' own vs ls :=
  ⟨h.1, fun i hi => by
    obtain ⟨B, c, e, hh, h2⟩ := h.2 i hi
    exact ⟨B, c, e, hh.below hb, h2⟩⟩
theorem RowsR.snoc {w : World} {own : Option Nat} {vs : List Value} {ls : List (List RuleT)} (h : RowsR w own vs ls) {B : Option Addr} {c : Nat} {l : List RuleT} (hl : Held w own B (rcs l)) (h1 : l.length ≤ c) (h2 : c ≤ 9223372036854775807) : RowsR w own (vs ++ [.slice B l.length c]) (ls ++ [l]) := by
  refine ⟨by simp [h.1], fun i hi => ?_⟩
  rw [List.length_append, List.length_singleton] at hi
  by_cases e : i < ls.length
  · obtain ⟨B', c', e', hh⟩ := h.2 i e
    refine ⟨B', c', ?_, ?_⟩
    · rw [List.getElem?_append_left (by rw [h.1]; exact e), List.getElem_append_left e]; exact e'
    · rw [List.getElem_append_left e]; exact hh
  · have ei : i = ls.length := by omega
    subst ei
    refine ⟨B, c, ?_, ?_⟩
    · rw [List.getElem?_append_right (by rw [h.1]; exact Nat.le_refl _), h.1]; simp
    · simpa using ⟨hl, h1, h2⟩
theorem RowsR.net {w : World} {own : Option Nat} {vs : List Value} {net : List (List RuleT)} (h : RowsR w own vs net) {A : Option Addr} (hA : Lies w A vs) : NetAt w A net :=
  ⟨vs, h.1, hA, fun i hi => by
    obtain ⟨B, c, e, hh, h2⟩ := h.2 i hi
    exact ⟨B, c, e, hh.lies, h2⟩⟩
theorem rrows_info : (Tryz.prog.info? 44).map (fun i => (i.zero, i.size, i.bytes)) = some (some (.slice none 0 0), 1, 24) := by kernel_rfl
/-- Slices that are new. -/
def RowsN (w : World) (vs : List Value) : Prop := ∀ (i : Nat) (B : Option Addr) (n c : Nat), vs[i]? = some (Value.slice B n c) → Gr.New w B
theorem RowsN.snoc {w : World} {vs : List Value} (h : RowsN w vs) {B : Option Addr} {n c : Nat} (hB : Gr.New w B) : RowsN w (vs ++ [.slice B n c]) := fun i B' n' c' hi => by
  by_cases e : i < vs.length
  · rw [List.getElem?_append_left e] at hi; exact h i B' n' c' hi
  · rw [List.getElem?_append_right (by omega)] at hi
    by_cases e2 : i - vs.length = 0
    · rw [e2] at hi; simp at hi; rw [← hi.1]; exact hB
    · rw [List.getElem?_eq_none (by simp; omega)] at hi; cases hi
/-- A network whose memory is all new. -/
def NetNew (w0 w : World) (A : Option Addr) (net : List (List RuleT)) : Prop := ∃ vs, Lies w A vs ∧ RowsR w none vs net ∧ RowsN w0 vs ∧ Gr.New w0 A
theorem NetNew.net {w0 w : World} {A : Option Addr} {net : List (List RuleT)} (h : NetNew w0 w A net) : NetAt w A net := by
  obtain ⟨vs, h1, h2, _⟩ := h
  exact h2.net h1
theorem NetNew.below {w0 w w' : World} {A : Option Addr} {net : List (List RuleT)} (h : NetNew w0 w A net) (hb : Below w.heap.size w w') : NetNew w0 w' A net := by
  obtain ⟨vs, h1, h2, h3, h4⟩ := h
  exact ⟨vs, h1.below hb, h2.below hb, h3, h4⟩
theorem NetNew.setCell {w0 w : World} {A : Option Addr} {net : List (List RuleT)} (h : NetNew w0 w A net) {g k : Nat} (hg : g < w0.heap.size) (v : Value) : NetNew w0 (w.setCell ⟨g, k, none⟩ v) A net := by
  obtain ⟨vs, h1, h2, h3, h4⟩ := h
  refine ⟨vs, lies_setCell h1 v (fun a ha e => ?_), ⟨h2.1, fun i hi => ?_⟩, h3, h4⟩
  · have h5 := h4 a ha; rw [e] at h5; exact absurd h5 (by show ¬ w0.heap.size ≤ g; omega)
  · obtain ⟨B, c, e, hh, h5⟩ := h2.2 i hi
    refine ⟨B, c, e, ⟨lies_setCell hh.lies v (fun a ha e2 => ?_), fun _ _ _ e => by cases e⟩, h5⟩
    have h6 := h3 i B _ c e a ha; rw [e2] at h6; exact absurd h6 (by show ¬ w0.heap.size ≤ g; omega)
/-- A network's nodes are told. -/
def NodesPost (w : World) (net : List (List RuleT)) (e : Ending) (w' : World) : Prop := ∃ R m, e = .returned (.tuple #[.slice R net.length m, .int .i64 0]) ∧ NetNew w w' R net ∧ Below w.heap.size w w' ∧ net.length ≤ m ∧ m ≤ 9223372036854775807

set_option maxRecDepth 100000 in
set_option maxHeartbeats 2000000 in
theorem tnodes_any (A : Option Addr) (n c : Nat) (net : List (List RuleT)) (w : World) (h : NetOk net) (hs : ∀ l ∈ net, l.length ≤ 2000) (hn : (nodesB net).length = n) (hA : Lies w A (bytes (nodesB net))) (hc : n ≤ c) (hc2 : c ≤ 9223372036854775807) :
    Calls Tryz.prog 73 #[.slice A n c, .int .i64 256, .func (.func 74) #[] #[]] w (NodesPost w net) := by
  have hnn := h.nodes
  obtain ⟨g, hg⟩ : ∃ g, g = (gp net.length).length := ⟨_, rfl⟩
  have hg2 := gp_len net.length
  rw [← hg] at hg2
  obtain ⟨hg1, hg2⟩ := hg2
  obtain ⟨rl, hrl⟩ : ∃ rl : Nat → List Nat, rl = fun k => (net.drop k).flatMap nodeB := ⟨_, rfl⟩
  have hr0 : rl 0 = net.flatMap nodeB := by rw [hrl]; rfl
  have hre : rl net.length = [] := by rw [hrl]; simp
  have hnb : nodesB net = gp net.length ++ rl 0 := by rw [hr0]; rfl
  have hn' : n = g + (rl 0).length := by rw [← hn, hnb, List.length_append, hg]
  have hnf := nodesB_few h
  have hrf : ∀ k, (rl k).length ≤ 50000 := fun k => by
    have e : net.flatMap nodeB = (net.take k).flatMap nodeB ++ rl k := by rw [hrl, ← List.flatMap_append, List.take_append_drop]
    have e2 : (rl 0).length = ((net.take k).flatMap nodeB).length + (rl k).length := by rw [hr0, e, List.length_append]
    omega
  have hrs : ∀ k (hk : k < net.length), rl k = nodeB net[k] ++ rl (k + 1) := fun k hk => by rw [hrl]; simp only [List.drop_eq_getElem_cons hk, List.flatMap_cons]
  rw [hnb] at hn hA
  have hgt := gtake_split A n c net.length g (rl 0) w hg.symm hn (by omega) hA (by omega)
  obtain ⟨A1, hcut, hLc⟩ := cut_l bty bsz A n c g (g : Int) rfl (by omega) hc
  have hL1 := hLc w _ hA (by rw [bytes_len, hn])
  have e1 : (bytes (gp net.length ++ rl 0)).drop g = bytes (rl 0) := by rw [bytes_app, hg, List.drop_append_of_le_length (by rw [bytes_len]; omega), List.drop_of_length_le (by rw [bytes_len]; omega), List.nil_append]
  rw [e1] at hL1
  have hn1 : n - g = (rl 0).length := by omega
  rw [hn1] at hcut
  have hcg : (rl 0).length ≤ c - g := by omega
  have hcg2 : c - g ≤ 9223372036854775807 := by omega
  have hgn : g ≤ n := by omega
  have t0 : decide ((net.length : Int) > 256) = false := by rw [decide_eq_false_iff_not]; omega
  have htn := fun B N d k (hk : k < net.length) W h1 h2 h3 h4 => takeNode_any B N d (net[k]'hk) (rl (k + 1)) W (fun r hr => fits_of ((h.table _ (List.getElem_mem hk)).rule r hr) hnn) (hs _ (List.getElem_mem hk)) h1 h2 (by have := hrf (k + 1); omega) h3 h4
  have HGT := Lib.hid hgt
  have HL1 := Lib.hid hL1
  have HRS := Lib.hid hrs
  have HRE := Lib.hid hre
  have HTN := Lib.hid htn
  have HRF := Lib.hid hrf
  clear hg hn hnb hn' hnf hgt hLc hL1 e1 hn1 hA h hs hrl hr0 hre hrs htn hrf
  go_enter Tryz.func73, Tryz.ntmps73
  go_wp2_with fail
  refine (HGT.out).mono ?_
  rintro e w' ⟨rfl, rfl⟩
  clear HGT
  go_wp2_with fail
  go_loopw [0, 11, 31] (fun x s i wr => ∃ (k N : Nat) (B : Option Addr) (d : Nat) (S : Option Addr) (cp : Nat) (vs : List Value), k ≤ net.length ∧ i = .int .i64 k ∧ x = .slice B N d ∧ Hid (N = (rl k).length) ∧ N ≤ d ∧ d ≤ 9223372036854775807 ∧ s = .slice S k cp ∧ Hid (Held wr (Value.slice S k cp).ownBlock B (bytes (rl k))) ∧ wr.ownsRow w.heap.size 44 1 (.slice S k cp) k vs ∧ Hid (RowsR wr (Value.slice S k cp).ownBlock vs (net.take k) ∧ RowsN w vs) ∧ Below w.heap.size w wr) (fun _ _ i _ => net.length - (intOf i).toNat)
  case atStart => exact ⟨0, _, A1, c - g, none, 0, [], by omega, rfl, rfl, Lib.hid rfl, by omega, hcg2, rfl, Lib.hid (Held.of HL1.out), World.ownsRow_nil _ _ _ _, Lib.hid ⟨⟨rfl, fun i hi => absurd hi (by simp)⟩, fun i B n c hi => by simp at hi⟩, Below.refl _ _⟩
  case round =>
    clear HL1
    obtain ⟨k, N, B, d, S, cp, vs, hk, rfl, rfl, HN, hd, hd2, rfl, HHB, hown, HRR, hbr⟩ := hrel
    obtain ⟨S0, cp0, e0, hc1', hc2'⟩ := own_form hown
    injection e0 with e0 _ e2
    subst e0 e2
    by_cases hlt : k < net.length
    · have htn := HTN.out B N d k hlt wr (by rw [← HRS.out k hlt, HN.out]) (by rw [← HRS.out k hlt]; exact HHB.out.lies) hd hd2
      have htk : net.take (k + 1) = net.take k ++ [net[k]] := List.take_succ_eq_append_getElem hlt
      obtain ⟨l, hl⟩ : ∃ l, l = net[k] := ⟨_, rfl⟩
      rw [← hl] at htn htk
      have hgo : ∀ g, (Value.slice S k cp).ownBlock = some g → g < wr.heap.size := fun g hg => (hown.lt g hg).2
      have HTNN := Lib.hid htn
      have HTK := Lib.hid htk
      have HOWN := Lib.hid hown
      have HBR := Lib.hid hbr
      have HGO := Lib.hid hgo
      clear htn htk hl hown hbr hgo HHB
      go_wp2_with fail
      refine (HTNN.out).mono ?_
      rintro e w4 ⟨R4, m4, B4, d4, rfl, hL4, hL4', hb4, hm4, hm4', hd4, hd4', hnew4, hnew4'⟩
      have hown4 := own_below HOWN.out hb4
      have hrows4 := HRR.out.1.below hb4
      have hrn := HRR.out.2.snoc (n := l.length) (c := m4) (new_mono hnew4 HBR.out.size)
      have hheld4 : Held w4 (Value.slice S k cp).ownBlock R4 (rcs l) := Held.fresh hL4 hnew4 HGO.out
      have hheldB : Held w4 (Value.slice S k cp).ownBlock B4 (bytes (rl (k + 1))) := Held.fresh hL4' hnew4' HGO.out
      have hb4w := HBR.out.trans (hb4.mono HBR.out.size)
      obtain ⟨L, hL⟩ : ∃ L, L = l.length := ⟨_, rfl⟩
      have hsn0 := hrows4.snoc hheld4 hm4 hm4'
      rw [← hL] at hsn0 hrn ⊢
      have HRN := Lib.hid hrn
      have hal : Below w4.heap.size w4 (w4.alloc (.cells #[.slice R4 L m4] 44)) := (Below.refl _ _).alloc (Nat.le_refl _) _
      have hown5 := own_below hown4 hal
      have hsn := hsn0.below hal
      rw [← HTK.out] at hsn
      have hheldB5 := hheldB.below hal
      have hb5w := hb4w.trans (hal.mono hb4w.size)
      have hone := Lies.new w4 #[.slice R4 L m4] 44
      have HSN := Lib.hid hsn
      have HHB5 := Lib.hid hheldB5
      have HONE := Lib.hid hone
      have HB5 := Lib.hid hb5w
      have hkk : k ≤ 256 := by omega
      clear hL4 hL4' hb4 hnew4 hnew4' hown4 hrows4 hheld4 hheldB hb4w hL hsn0 hal hsn hheldB5 hb5w hone hm4 hm4' hrn HOWN HRR HBR HGO HTNN
      go_wp2_with (at_builtin; refine wpList_appN rfl (.tmp 43) (.tmp 45) _ rfl Tryz.underlying22 rrows_info rfl (by omega) (by omega) w _ HB5.out _ _ _ _ rfl hown5 _ 1 1 _ rfl rfl HONE.out (by intro u hu; simp at hu; subst hu; rfl) (by omega) ?_; intro S6 c6 w6 hown6 hc6 hc6' hb6 hg6 hat6)
      refine ⟨⟨k + 1, (rl (k + 1)).length, B4, d4, S6, c6, _, by omega, by go_num, rfl, Lib.hid rfl, hd4, hd4', rfl, Lib.hid (HHB5.out.step hg6 hat6), hown6, Lib.hid ⟨HSN.out.step hg6 hat6, HRN.out⟩, hb6⟩, by simp [intOf]; omega⟩
    · obtain rfl : k = net.length := by omega
      have hN0 : N = 0 := by rw [HN.out, HRE.out]; rfl
      subst hN0
      have hnet : NetNew w wr S net := by
        obtain ⟨hr1, hr2⟩ := HRR.out
        rw [List.take_of_length_le (Nat.le_refl _)] at hr1
        exact ⟨vs, .of_own hown, ⟨hr1.1, fun i hi => by
          obtain ⟨B, c, e, hh, h5⟩ := hr1.2 i hi
          exact ⟨B, c, e, hh.none, h5⟩⟩, hr2, new_of hown⟩
      have HNET := Lib.hid hnet
      clear hnet
      go_wp2_with fail
      go_ret2
      exact ⟨S, cp, rfl, HNET.out, hbr, hc1', hc2'⟩
end Go.Proofs.YtpjoefekhgmlhaaGreat.Tp

namespace Go.Proofs.YtpjoefekhgmlhaaGreat.Tp
open Go.RowKit Mem

theorem setCell_self {w : World} {a : Addr} {v : Value} (h : w.cell? a = some v) : w.setCell a v = w := by
  have hs := World.cell?_spot h
  unfold World.cell? at h
  unfold World.setCell
  have hh : (w.heap.modify a.block fun o => match o with
      | .cells c elem frozen => .cells (if a.spot.isSome then c else c.setIfInBounds a.off v) elem frozen
      | o => o) = w.heap := by
    apply Array.ext_getElem?
    intro i
    rw [Array.getElem?_modify]
    by_cases e : a.block = i
    · subst e
      rw [if_pos rfl]
      cases hg : w.heap[a.block]? with
      | none => rfl
      | some o =>
        rw [hg] at h
        cases o with
        | cells cs t fr =>
          simp only [hs, Option.isSome_none, Bool.false_eq_true, if_false] at h ⊢
          simp only [Option.map_some, Option.some.injEq]
          have : cs.setIfInBounds a.off v = cs := by
            apply Array.ext_getElem?
            intro j
            rw [Array.getElem?_setIfInBounds]
            by_cases e2 : a.off = j
            · subst e2
              obtain ⟨h1, h2⟩ := Array.getElem?_eq_some_iff.1 h
              rw [if_pos rfl, if_pos h1, h]
            · rw [if_neg e2]
          rw [this]
        | _ => first | rfl | (simp at h)
    · rw [if_neg e]
  exact congrArg (fun H => ({ w with heap := H } : World)) hh

/-- A network is told. -/
def NTakePost (w : World) (net : List (List RuleT)) (e : Ending) (w' : World) : Prop := ∃ R m, e = .returned (.tuple #[.agg #[.slice R net.length m], .int .i64 0]) ∧ NetAt w' R net ∧ Below w.heap.size w w' ∧ net.length ≤ m ∧ m ≤ 9223372036854775807
theorem take_deferred (p q : Addr) (w : World) (u : FrameMode) (hp : w.cell? p = some (.int .i64 0)) :
    CallsD Tryz.prog 72 #[.pointer (some p), .pointer (some q)] u w fun e u' w' => u' = u ∧ e = .returned (.tuple #[]) ∧ w' = w := by
  go_enter_d Tryz.func72, Tryz.ntmps72
  go_wp2
  exact bodyPost_end (v := .tuple #[]) (by simp [results, Tryz.results72, go_sem]) rfl ⟨rfl, rfl⟩

set_option maxRecDepth 100000 in
set_option maxHeartbeats 2000000 in
theorem ntake_any (A : Option Addr) (n c : Nat) (net : List (List RuleT)) (w : World) (h : NetOk net) (hs : ∀ l ∈ net, l.length ≤ 2000) (hn : (netB net).length = n) (hA : Lies w A (bytes (netB net))) (hc : n ≤ c) (hc2 : c ≤ 9223372036854775807) :
    Calls Tryz.prog 33 #[.slice A n c] w (NTakePost w net) := by
  have hmf : ∀ (fn : Fn) (first cap : Array Value) (w : World), (Instr.makeFunc fn first cap).run Tryz.prog w = .ok (.func fn first cap) w := fun _ _ _ _ => rfl
  have hnf := nodesB_few h
  have hnl : n = (nodesB net).length + 8 := by rw [← hn]; exact frameB_len _ _
  obtain ⟨wa, hwa⟩ : ∃ wa, wa = w.alloc (.cells #[.slice none 0 0] 24) := ⟨_, rfl⟩
  obtain ⟨wb, hwb⟩ : ∃ wb, wb = wa.alloc (.cells #[.int .i64 0] 32) := ⟨_, rfl⟩
  have sa : wa.heap.size = w.heap.size + 1 := by rw [hwa]; simp
  have sb : wb.heap.size = w.heap.size + 1 + 1 := by rw [hwb]; simp [sa]
  have ba : Below w.heap.size w wa := by rw [hwa]; exact (Below.refl _ _).alloc (Nat.le_refl _) _
  have bb : Below w.heap.size w wb := by rw [hwb]; exact ba.alloc ba.size _
  have bc : Below wa.heap.size wa wb := by rw [hwb]; exact (Below.refl _ _).alloc (Nat.le_refl _) _
  have hR1 : VRow wb w.heap.size [.slice none 0 0] := (show VRow wa w.heap.size [.slice none 0 0] by rw [hwa]; exact VRow.new w #[.slice none 0 0] _).below bc (by omega)
  have hR2 : VRow wb (w.heap.size + 1) [.int .i64 0] := by rw [hwb, ← sa]; exact VRow.new wa #[.int .i64 0] _
  have hft := ftake_any A n c (nodesB net) 1179206193 wb (by omega) hnl (hA.below bb) (nodesB_lt h hs) (by omega) hc hc2
  have htn := fun B k W (hB : Lies W B (bytes (nodesB net))) h1 h2 => tnodes_any B (nodesB net).length k net W h hs rfl hB h1 h2
  have hnm := fun R m W (hR : NetAt W R net) => nmay_any R m net W hR h
  rw [hwa] at hwb
  have HW := Lib.hid hwb
  have HR1 := Lib.hid hR1
  have HR2 := Lib.hid hR2
  have HFT := Lib.hid hft
  have HTN := Lib.hid htn
  have HNM := Lib.hid hnm
  have HBB := Lib.hid bb
  clear hnf hnl hwa hwb sa ba bb bc hR1 hR2 hft htn hnm h hs hn hA
  go_enter_defers Tryz.func33, Tryz.ntmps33
  go_wp2_with fail
  clear hmf
  rw [← HW.out]
  refine (HFT.out).mono ?_
  rintro e w2 ⟨R, m, rfl, hL, hb2, hm1, hm2⟩
  rw [bytes_len] at hm1
  rw [bytes_len]
  have hb2w := HBB.out.trans (hb2.mono HBB.out.size)
  have hR1 := HR1.out.below hb2 HR1.out.lt
  have hR2 := HR2.out.below hb2 HR2.out.lt
  have hc0 := hR2.cell 0 (by simp)
  have hf0 := hR2.free 0 (by simp)
  simp only [List.getElem_cons_zero] at hc0
  have hse := setCell_self hc0
  have htn := HTN.out R m w2 hL hm1 hm2
  have HTN2 := Lib.hid htn
  have HB2 := Lib.hid hb2w
  have HR1b := Lib.hid hR1
  have HR2b := Lib.hid hR2
  clear hL hb2 hb2w hR1 hR2 htn HTN HR1 HR2 HFT HBB
  go_wp2_with fail
  refine (HTN2.out).mono ?_
  rintro e w4 ⟨R4, m4, rfl, hN4, hb4, hm4, hm4'⟩
  have hg2 := HR2b.out.lt
  have hR1 := (HR1b.out.below hb4 HR1b.out.lt)
  have hR2 := (HR2b.out.below hb4 hg2)
  clear hc0 hf0 hse
  have hx0 := hR1.cell 0 (by simp)
  have hxf := hR1.free 0 (by simp)
  have hy0 := hR2.cell 0 (by simp)
  have hyf := hR2.free 0 (by simp)
  simp only [List.getElem_cons_zero] at hx0 hy0
  have hR15 := hR1.set_ 0 (.slice R4 net.length m4)
  have hR25 := hR2.other (p := ⟨w.heap.size, 0, none⟩) (by show w.heap.size ≠ w.heap.size + 1; omega) (.slice R4 net.length m4)
  have hN5 := (hN4.setCell (g := w.heap.size) (k := 0) (by omega) (.slice R4 net.length m4)).net
  have hb5 := (HB2.out.trans (hb4.mono HB2.out.size)).setCell (p := ⟨w.heap.size, 0, none⟩) (Nat.le_refl _) (.slice R4 net.length m4)
  obtain ⟨w5, hw5⟩ : ∃ w5, w5 = w4.setCell ⟨w.heap.size, 0, none⟩ (.slice R4 net.length m4) := ⟨_, rfl⟩
  rw [← hw5] at hR15 hR25 hN5 hb5
  have hz0 := hR15.cell 0 (by simp)
  have hv0 := hR25.cell 0 (by simp)
  simp only [List.set_cons_zero, List.getElem_cons_zero] at hz0 hv0
  have hzs := setCell_self hz0
  have hvs := setCell_self hv0
  have HW5 := Lib.hid hw5
  have HR15 := Lib.hid hR15
  have HR25 := Lib.hid hR25
  have HN5 := Lib.hid hN5
  have HB5 := Lib.hid hb5
  have hv0' := hv0
  have hvs' := hvs
  rw [hw5] at hv0' hvs'
  clear hN4 hb4 hR1 hR2 hR15 hR25 hN5 hb5 HR1b HR2b HB2 HTN2 hw5 hz0 hzs hv0 hvs
  go_wp2_with fail
  rw [← HW5.out]
  clear hx0 hxf hy0 hyf hv0' hvs'
  have hz0 := HR15.out.cell 0 (by simp)
  simp only [List.set_cons_zero, List.getElem_cons_zero] at hz0
  clear hz0
  have KS : Hid (∀ W, Below w5.heap.size w5 W → (W.cell? ⟨w.heap.size, 0, none⟩ = some (.slice R4 net.length m4) ∧ W.frozen? ⟨w.heap.size, 0, none⟩ = false ∧ W.cell? ⟨w.heap.size + 1, 0, none⟩ = some (.int .i64 0) ∧ W.frozen? ⟨w.heap.size + 1, 0, none⟩ = false ∧ NetAt W R4 net ∧ Below w.heap.size w W)) := Lib.hid fun W hW => by
    have hR1 := HR15.out.below hW HR15.out.lt
    have hR2 := HR25.out.below hW HR25.out.lt
    exact ⟨hR1.cell 0 (by simp), hR1.free 0 (by simp), hR2.cell 0 (by simp), hR2.free 0 (by simp), HN5.out.below hW, HB5.out.trans (hW.mono HB5.out.size)⟩
  have HD := KS.out w5.drew (below_drew (Below.refl _ _))
  have hnm := HNM.out R4 m4 w5.drew HD.2.2.2.2.1
  have HN := Lib.hid hnm
  clear hnm HNM HD
  go_region_held3 (fun W => W.cell? ⟨w.heap.size, 0, none⟩ = some (.slice R4 net.length m4) ∧ W.frozen? ⟨w.heap.size, 0, none⟩ = false ∧ W.cell? ⟨w.heap.size + 1, 0, none⟩ = some (.int .i64 0) ∧ W.frozen? ⟨w.heap.size + 1, 0, none⟩ = false ∧ NetAt W R4 net ∧ Below w.heap.size w W)
    (first | exact KS.out _ (below_drew (Below.refl _ _)) | exact KS.out _ ((below_drew (Below.refl _ _)).trans hb6) | (rw [setCell_self (KS.out _ ((below_drew (Below.refl _ _)).trans hb6)).1]; exact KS.out _ ((below_drew (Below.refl _ _)).trans hb6)) | (rw [setCell_self (KS.out _ ((below_drew (Below.refl _ _)).trans hb6)).2.2.1]; exact KS.out _ ((below_drew (Below.refl _ _)).trans hb6)))
    (first | (go_at_call 23; refine (HN.out).mono ?_; rintro e w6 ⟨rfl, hb6⟩; have hzs := setCell_self (KS.out _ ((below_drew (Below.refl _ _)).trans hb6)).1; have hvs := setCell_self (KS.out _ ((below_drew (Below.refl _ _)).trans hb6)).2.2.1))
  obtain ⟨hz0, hzf, hv0, hvf, hnet, hbe⟩ := KS.out _ ((below_drew (Below.refl _ _)).trans hb6)
  have HNET := Lib.hid hnet
  have HBE := Lib.hid hbe
  clear hnet hbe hb6 KS HN HB5 HN5 HR15 HR25 HW5
  go_wp2_with fail
  refine leaves_cons (f := 72) (args := #[.pointer (some ⟨w.heap.size + 1, 0, none⟩), .pointer (some ⟨w.heap.size, 0, none⟩)]) (by simp) (by simp [go_sem]) ?_
  refine (take_deferred _ _ _ .returning hv0).mono ?_
  rintro e u' w7 ⟨rfl, rfl, rfl⟩
  exact ⟨.tuple #[.agg #[.slice R4 net.length m4], .int .i64 0], by simp [results, Tryz.results33, go_sem, hz0, hv0], R4, m4, rfl, HNET.out, HBE.out, hm4, hm4'⟩
end Go.Proofs.YtpjoefekhgmlhaaGreat.Tp

namespace Go.Proofs.YtpjoefekhgmlhaaGreat.Tp
open Go.RowKit Mem

/-- Nothing has turned but block g and the row that was own. -/
structure Near (own own' : Option Nat) (g : Nat) (W W' : World) : Prop where
  os : W'.os = W.os
  tape : W'.tape = W.tape
  output : W'.output = W.output
  size : W.heap.size ≤ W'.heap.size
  block : ∀ b, b < W.heap.size → b ≠ g → own ≠ some b → W'.heap[b]? = W.heap[b]?
  grow : own' = own ∨ ∀ b, own' = some b → W.heap.size ≤ b
theorem Near.trans {o1 o2 o3 : Option Nat} {g : Nat} {A B C : World} (h : Near o1 o2 g A B) (k : Near o2 o3 g B C) : Near o1 o3 g A C := by
  refine ⟨k.os.trans h.os, k.tape.trans h.tape, k.output.trans h.output, Nat.le_trans h.size k.size, fun b hb hg ho => ?_, ?_⟩
  · refine (k.block b (Nat.lt_of_lt_of_le hb h.size) hg (fun e => ?_)).trans (h.block b hb hg ho)
    rcases h.grow with h1 | h1
    · rw [h1] at e; exact ho e
    · have := h1 b e; omega
  · rcases k.grow with h2 | h2
    · rcases h.grow with h1 | h1
      · exact .inl (h2.trans h1)
      · exact .inr fun b e => h1 b (h2 ▸ e)
    · exact .inr fun b e => Nat.le_trans h.size (h2 b e)
theorem Near.of_below {own : Option Nat} {g : Nat} {W W' : World} (h : Below W.heap.size W W') : Near own own g W W' :=
  ⟨h.os, h.tape, h.output, h.size, fun b hb _ _ => h.block b hb, .inl rfl⟩
theorem Near.of_grown {own own' : Option Nat} {g : Nat} {W W' : World} (h : W.grownBy W' own) (hat : own' = own ∨ own' = some W.heap.size) : Near own own' g W W' :=
  ⟨h.os, h.tape, h.output, h.size, fun b hb _ ho => h.block b hb (fun e => ho e.symm), hat.imp id fun e b hb => by rw [e] at hb; injection hb with hb; omega⟩
theorem Near.set_ (own : Option Nat) (g k : Nat) (W : World) (v : Value) : Near own own g W (W.setCell ⟨g, k, none⟩ v) :=
  ⟨rfl, rfl, rfl, by simp, fun b _ hg _ => Below.heap_setCell W ⟨g, k, none⟩ v b hg, .inl rfl⟩
theorem Near.below {own own' : Option Nat} {g base : Nat} {W W' : World} (h : Near own own' g W W') (hg : base ≤ g) (ho : ∀ b, own = some b → base ≤ b) (hb : base ≤ W.heap.size) : Below base W W' :=
  ⟨h.os, h.tape, h.output, h.size, fun b hb' => h.block b (by omega) (by omega) (fun e => by have := ho b e; omega)⟩

/-- A writer without an error, in block g, that has written xs. -/
structure WAt (base : Nat) (W : World) (g : Nat) (S : Option Addr) (n cp : Nat) (xs : List Nat) : Prop where
  row : VRow W g [.slice S n cp, .int .i64 0]
  own : W.ownsRow base 5 1 (.slice S n cp) n (bytes xs)
  low : base ≤ g
  apart : (Value.slice S n cp).ownBlock ≠ some g
theorem WAt.below {base : Nat} {W W' : World} {g : Nat} {S : Option Addr} {n cp : Nat} {xs : List Nat} (h : WAt base W g S n cp xs) (hb : Below W.heap.size W W') : WAt base W' g S n cp xs :=
  ⟨h.row.below hb h.row.lt, own_below h.own hb, h.low, h.apart⟩
def WPost (base : Nat) (W : World) (g : Nat) (own : Option Nat) (xs : List Nat) (e : Ending) (W' : World) : Prop :=
  ∃ S n cp, e = .returned (.tuple #[]) ∧ WAt base W' g S n cp xs ∧ Near own (Value.slice S n cp).ownBlock g W W'

/-- Behind an append to what has been written. -/
theorem WAt.step {base : Nat} {W w3 : World} {g : Nat} {S S3 : Option Addr} {n cp m c3 : Nat} {xs ys : List Nat} (h : WAt base W g S n cp xs) (hown : w3.ownsRow base 5 1 (.slice S3 (n + m) c3) (n + m) (bytes xs ++ bytes ys)) (hg : W.grownBy w3 (Value.slice S n cp).ownBlock)
    (hat : (Value.slice S3 (n + m) c3).ownBlock = (Value.slice S n cp).ownBlock ∨ (Value.slice S3 (n + m) c3).ownBlock = some W.heap.size) :
    VRow w3 g [.slice S n cp, .int .i64 0] ∧ WAt base (w3.setCell ⟨g, 0, none⟩ (.slice S3 (n + m) c3)) g S3 (n + m) c3 (xs ++ ys) ∧ Near (Value.slice S n cp).ownBlock (Value.slice S3 (n + m) c3).ownBlock g W (w3.setCell ⟨g, 0, none⟩ (.slice S3 (n + m) c3)) ∧
      (w3.setCell ⟨g, 0, none⟩ (.slice S3 (n + m) c3)).setCell ⟨g, 1, none⟩ (.int .i64 0) = w3.setCell ⟨g, 0, none⟩ (.slice S3 (n + m) c3) := by
  have hr3 : VRow w3 g [.slice S n cp, .int .i64 0] := h.row.keep hg.size (hg.block g h.row.lt (fun e => h.apart e.symm))
  have ha3 : (Value.slice S3 (n + m) c3).ownBlock ≠ some g := by
    rcases hat with e | e
    · rw [e]; exact h.apart
    · rw [e]; intro e2; injection e2 with e2; have := h.row.lt; omega
  have hr4 := hr3.set_ 0 (.slice S3 (n + m) c3)
  have e0 : (w3.setCell ⟨g, 0, none⟩ (.slice S3 (n + m) c3)).cell? ⟨g, 1, none⟩ = some (.int .i64 0) := hr4.cell 1 (by simp)
  refine ⟨hr3, ⟨hr4, ?_, h.low, ha3⟩, (Near.of_grown hg hat).trans (Near.set_ _ g 0 w3 _), setCell_self e0⟩
  rw [bytes_app]
  exact ownsRow_setCell_other hown (a := ⟨g, 0, none⟩) ha3 _

set_option maxRecDepth 100000 in
set_option maxHeartbeats 1000000 in
theorem wnum_any (base g : Nat) (S : Option Addr) (n cp : Nat) (xs : List Nat) (A : Option Addr) (c : Nat) (l : List Nat) (size : Nat) (W : World) (hW : WAt base W g S n cp xs) (hA : Lies W A (Gr.ints (l.map fun x : Nat => (x : Int)))) (hl : l.length ≤ 16) (hs : size = 1 ∨ size = 2 ∨ size = 4) (hb : ∀ x ∈ l, x < 256 ^ size) (hx : n ≤ 10000000) :
    Calls Tryz.prog 75 #[.pointer (some ⟨g, 0, none⟩), .int .i64 (size : Int), .slice A l.length c] W (WPost base W g (Value.slice S n cp).ownBlock (xs ++ rowB size l)) := by
  obtain ⟨i0, hi, hz0, hz1, hz2⟩ := info_parts byte_info
  have hrow := row_bytes A c l size W hA hl hs hb
  have hrl := rowB_len hs l
  obtain ⟨rb, hrb⟩ : ∃ rb, rb = rowB size l := ⟨_, rfl⟩
  obtain ⟨M, hM⟩ : ∃ M, M = rb.length := ⟨_, rfl⟩
  rw [← hrb] at hrow hrl ⊢
  have hM2 : M ≤ 64 := by
    rw [hM, hrl]
    exact Nat.le_trans (Nat.mul_le_mul hl (show size ≤ 4 by omega)) (by omega)
  have hc1 : W.cell? ⟨g, 1, none⟩ = some (.int .i64 0) := hW.row.cell 1 (by simp)
  have HROW := Lib.hid hrow
  have HM := Lib.hid hM
  have HW := Lib.hid hW
  clear hrow hrl hrb hM hs hb hA hW
  go_enter Tryz.func75, Tryz.ntmps75
  go_wp2_with fail
  refine (HROW.out).mono ?_
  rintro e w2 ⟨R, m, rfl, hL, hb2, _, _⟩
  rw [bytes_len, ← HM.out]
  have hW2 := HW.out.below hb2
  have hN2 : Near (Value.slice S n cp).ownBlock (Value.slice S n cp).ownBlock g W w2 := .of_below hb2
  have hd0 : w2.cell? ⟨g, 0, none⟩ = some (.slice S n cp) := hW2.row.cell 0 (by simp)
  have hown := hW2.own
  have hbase : base ≤ w2.heap.size := Nat.le_trans hW2.low (Nat.le_of_lt hW2.row.lt)
  have HL := Lib.hid hL
  have HN2 := Lib.hid hN2
  have HW2 := Lib.hid hW2
  clear hc1 hL hb2 hN2 hW2
  go_wp2_with (at_builtin; refine wpList_append_lies _ rfl (.tmp 23) (.tmp 24) _ rfl base 5 i0 _ 1 1 Tryz.underlying45 hi hz0 hz1 hz2 rfl (by omega) (.slice S n cp) n _ rfl hown R M m (bytes rb) rfl (by rw [bytes_len, HM.out, Nat.mul_one]) HL.out (bytes_one _) (by simp only [maxLen]; omega) (by omega) hbase ?_; intro v3 w3 hown3 hg3 hat3; obtain ⟨S3, c3, rfl, hc3, hc3'⟩ := own_form hown3; obtain ⟨hr3, hW4, hN4, hse⟩ := HW2.out.step hown3 hg3 hat3; have hq0 := hr3.cell 0 (by simp); have hqf := hr3.free 0 (by simp); have hq1 := hW4.row.cell 1 (by simp); have hq1f := hW4.row.free 1 (by simp); simp only [List.getElem_cons_zero, List.getElem_cons_succ] at hq0 hq1; have HW4 := Lib.hid hW4; have HN4 := Lib.hid hN4; have hu0 := hr3.cell 1 (by simp); have hu1 := hr3.free 1 (by simp); simp only [List.getElem_cons_zero, List.getElem_cons_succ] at hu0; clear hW4 hN4 hown3 hg3 hat3 hr3)
  exact bodyPost_end (v := .tuple #[]) (by simp [results, Tryz.results75, go_sem]) rfl ⟨S3, n + M, c3, rfl, HW4.out, HN2.out.trans HN4.out⟩

set_option maxRecDepth 100000 in
set_option maxHeartbeats 1000000 in
theorem wgroup_any (base g : Nat) (S : Option Addr) (n cp : Nat) (xs : List Nat) (A : Option Addr) (c : Nat) (l : List Nat) (W : World) (hW : WAt base W g S n cp xs) (hA : Held W (Value.slice S n cp).ownBlock A (Gr.ints (l.map fun x : Nat => (x : Int)))) (hAg : 0 < l.length → ∀ a, A = some a → a.block ≠ g) (hl : l.length ≤ 10000) (hb : ∀ x ∈ l, x < 16384) (hx : n ≤ 10000000) :
    Calls Tryz.prog 76 #[.pointer (some ⟨g, 0, none⟩), .slice A l.length c] W (WPost base W g (Value.slice S n cp).ownBlock (xs ++ l.flatMap gp)) := by
  obtain ⟨i0, hi, hz0, hz1, hz2⟩ := info_parts byte_info
  have H := Lib.hid hb
  have HW := Lib.hid hW
  have HA := Lib.hid hA
  have HAG := Lib.hid hAg
  clear hb hW hA hAg
  go_enter Tryz.func76, Tryz.ntmps76
  go_wp2_with fail
  go_loopw [10] (fun i wr => ∃ (k : Nat) (S' : Option Addr) (n' cp' : Nat), k ≤ l.length ∧ i = .int .i64 k ∧ Hid (WAt base wr g S' n' cp' (xs ++ (l.take k).flatMap gp)) ∧ n' ≤ n + 2 * k ∧ Hid (Near (Value.slice S n cp).ownBlock (Value.slice S' n' cp').ownBlock g W wr)) (fun i _ => l.length - (intOf i).toNat)
  case atStart => exact ⟨0, S, n, cp, by omega, rfl, Lib.hid (by simpa using HW.out), by omega, Lib.hid (.of_below (Below.refl _ _))⟩
  case round =>
    obtain ⟨k, S', n', cp', hk, rfl, HWr, hn', HNr⟩ := hrel
    by_cases hlt : k < l.length
    · have hlt' : k < (l.map fun x : Nat => (x : Int)).length := by simpa using hlt
      obtain ⟨b, off, hAe, hbb, hcell0⟩ := HA.out.lies.at_map hlt'
      have hpos : 0 < l.length := by omega
      have hcell : wr.cell? ⟨b, off + k, none⟩ = some (.int .i64 (l[k] : Int)) := by
        rw [World.cell?_of_block (w := W) (HNr.out.block b hbb (HAG.out hpos _ hAe) (HA.out.apart (by simpa [Gr.ints] using hpos) _ hAe)), hcell0, List.getElem_map]
      have hx := H.out _ (List.getElem_mem hlt)
      have hnx : xs ++ (l.take (k + 1)).flatMap gp = xs ++ (l.take k).flatMap gp ++ gp l[k] := by rw [List.take_succ_eq_append_getElem hlt, List.flatMap_append, List.append_assoc]; simp
      obtain ⟨x, hxe⟩ : ∃ x, x = l[k] := ⟨_, rfl⟩
      rw [← hxe] at hcell hx hnx
      have hgp := gput_any x hx wr
      have hg2 := gp_len x
      obtain ⟨gl, hgl⟩ : ∃ gl, gl = gp x := ⟨_, rfl⟩
      rw [← hgl] at hgp hg2 hnx
      obtain ⟨M, hM⟩ : ∃ M, M = gl.length := ⟨_, rfl⟩
      rw [← hM] at hg2
      obtain ⟨hg1, hg2⟩ := hg2
      have hc1 : wr.cell? ⟨g, 1, none⟩ = some (.int .i64 0) := HWr.out.row.cell 1 (by simp)
      have HGP := Lib.hid hgp
      have HM := Lib.hid hM
      have HNX := Lib.hid hnx
      clear hgp hM hnx hgl hxe hx hcell0 hbb
      subst hAe
      go_wp2_with fail
      refine (HGP.out).mono ?_
      rintro e w2 ⟨R, m, rfl, hL, hb2, _, _⟩
      rw [bytes_len, ← HM.out]
      have hW2 := HWr.out.below hb2
      have hN2 : Near (Value.slice S' n' cp').ownBlock (Value.slice S' n' cp').ownBlock g wr w2 := .of_below hb2
      have hd0 : w2.cell? ⟨g, 0, none⟩ = some (.slice S' n' cp') := hW2.row.cell 0 (by simp)
      have hown := hW2.own
      have hbase : base ≤ w2.heap.size := Nat.le_trans hW2.low (Nat.le_of_lt hW2.row.lt)
      have HL := Lib.hid hL
      have HN2 := Lib.hid hN2
      have HW2 := Lib.hid hW2
      clear hc1 hcell hL hb2 hN2 hW2 HWr HGP
      go_wp2_with (at_builtin; refine wpList_append_lies _ rfl (.tmp 28) (.tmp 29) _ rfl base 5 i0 _ 1 1 Tryz.underlying45 hi hz0 hz1 hz2 rfl (by omega) (.slice S' n' cp') n' _ rfl hown R M m (bytes gl) rfl (by rw [bytes_len, HM.out, Nat.mul_one]) HL.out (bytes_one _) (by simp only [maxLen]; omega) (by omega) hbase ?_; intro v3 w3 hown3 hg3 hat3; obtain ⟨S3, c3, rfl, hc3, hc3'⟩ := own_form hown3; obtain ⟨hr3, hW4, hN4, hse⟩ := HW2.out.step hown3 hg3 hat3; have hq0 := hr3.cell 0 (by simp); have hqf := hr3.free 0 (by simp); have hq1 := hW4.row.cell 1 (by simp); have hq1f := hW4.row.free 1 (by simp); simp only [List.getElem_cons_zero, List.getElem_cons_succ] at hq0 hq1; have HW4 := Lib.hid hW4; have HN4 := Lib.hid hN4; have hu0 := hr3.cell 1 (by simp); have hu1 := hr3.free 1 (by simp); simp only [List.getElem_cons_zero, List.getElem_cons_succ] at hu0; clear hW4 hN4 hown3 hg3 hat3 hr3)
      refine ⟨⟨k + 1, S3, n' + M, c3, by omega, by go_num, Lib.hid (by rw [HNX.out]; exact HW4.out), by omega, Lib.hid (HNr.out.trans (HN2.out.trans HN4.out))⟩, by simp [intOf]; omega⟩
    · obtain rfl : k = l.length := by omega
      go_wp2_with fail
      refine bodyPost_end (v := .tuple #[]) (by simp [results, Tryz.results76, go_sem]) rfl ⟨S', n', cp', rfl, ?_, HNr.out⟩
      have := HWr.out
      rwa [List.take_of_length_le (Nat.le_refl _)] at this
end Go.Proofs.YtpjoefekhgmlhaaGreat.Tp
