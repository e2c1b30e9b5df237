/- CONTRACT of theseustop.round: does an address go round. Conditions: the network may be.
PLAIN: the ring of N nodes, and the chain that it becomes. Conditions: as said. -/
import Derived.Test.YtpjoefekhgmlhaaGreatMa26
import Derived.Test.YtpjoefekhgmlhaaGreatMa14
import Derived.Test.YtpjoefekhgmlhaaGreatMa30
import Derived.Test.YtpjoefekhgmlhaaGreatMa34
import Derived.Test.YtpjoefekhgmlhaaGreatMa36
namespace Go.Proofs.YtpjoefekhgmlhaaGreat.Tp
open Go.RowKit Mem

/-- Does an address go round, from any node. -/
def roundB (net : List (List RuleT)) (a : Nat) : Bool := (List.range net.length).any (Gr.cycB (vecL net a))
theorem nxt_step {net : List (List RuleT)} {a u : Nat} (hu : u < net.length) : Gr.nxt (vecL net a) u = stepN net a u := by
  unfold Gr.nxt stepN
  have h1 : (vecL net a)[u]? = some (goesI net[u] a) := by simp [vecL, hu]
  rw [h1, List.getElem?_eq_getElem hu]
  simp only
  unfold goesI
  cases nextL net[u] a with
  | none => simp
  | some x => simp
theorem step_in {net : List (List RuleT)} (h : NetOk net) {a u y : Nat} (hs : stepN net a u = some y) : y < net.length := by
  unfold stepN at hs
  cases e : net[u]? with
  | none => rw [e] at hs; cases hs
  | some l =>
    rw [e] at hs
    simp only at hs
    unfold nextL at hs
    cases e2 : findL l a with
    | none => rw [e2] at hs; cases hs
    | some r =>
      rw [e2] at hs
      simp only at hs
      by_cases h1 : r.act = 1
      · rw [if_pos h1] at hs
        injection hs with hs
        have := ((h.table l (List.mem_of_getElem? e)).rule r (find_mem e2)).act
        omega
      · rw [if_neg h1] at hs; cases hs
theorem iter_last {v : List Int} {k u y : Nat} (h : Gr.iter v k u = some y) : Gr.iter v (k + 1) u = Gr.nxt v y := by
  rw [Gr.iter_add k 1 u, h]
  show Gr.iter v 1 y = _
  unfold Gr.iter
  cases Gr.nxt v y <;> rfl
theorem iter_dead {v : List Int} {k u : Nat} (h : Gr.iter v (k + 1) u = none) (j : Nat) (hj : k ≤ j) : Gr.iter v (j + 1) u = none := by
  rw [show j + 1 = (k + 1) + (j - k) by omega, Gr.iter_add, h]; rfl
theorem cyc_false {v : List Int} {u : Nat} (h : ∀ k, k < v.length → Gr.iter v (k + 1) u ≠ some u) : Gr.cycB v u = false := by
  unfold Gr.cycB
  rw [List.any_eq_false]
  intro k hk
  have := h k (by simpa using hk)
  simpa using this
theorem round_true {net : List (List RuleT)} {a u k : Nat} (hu : u < net.length) (hk : k < net.length) (h : Gr.iter (vecL net a) (k + 1) u = some u) : roundB net a = true := by
  unfold roundB
  rw [List.any_eq_true]
  refine ⟨u, by simpa using hu, ?_⟩
  unfold Gr.cycB
  rw [List.any_eq_true]
  exact ⟨k, by rw [vecL_len]; simpa using hk, by rw [h]; simp⟩
theorem round_false {net : List (List RuleT)} {a : Nat} (h : ∀ u, u < net.length → Gr.cycB (vecL net a) u = false) : roundB net a = false := by
  unfold roundB
  rw [List.any_eq_false]
  intro u hu
  rw [h u (by simpa using hu)]; simp

set_option maxRecDepth 100000 in
set_option maxHeartbeats 4000000 in
theorem round_any (A : Option Addr) (c : Nat) (net : List (List RuleT)) (a : Nat) (w : World) (hN : NetAt w A net) (h : NetOk net) (ha : a < 4294967296) :
    Calls Tryz.prog 10 #[.agg #[.slice A net.length c], .int .u32 (a : Int)] w fun e w' => e = .returned (.bool (roundB net a)) ∧ Below w.heap.size w w' := by
  have hnn := h.nodes
  obtain ⟨w1, hw1⟩ : ∃ w1, w1 = w.alloc (.cells #[.slice A net.length c] 24) := ⟨_, rfl⟩
  have b1 : Below w.heap.size w w1 := by rw [hw1]; exact bal _ _
  have hr1 : VRow w1 w.heap.size [.slice A net.length c] := by rw [hw1]; exact VRow.new w #[.slice A net.length c] _
  have hst := fun W (hW : Below w.heap.size w W) (u : Nat) (hu : u < net.length) => step_any A c net a u W (hN.below hW) h hu ha
  obtain ⟨nn, hne⟩ : ∃ nn, nn = net.length := ⟨_, rfl⟩
  rw [← hne] at hst hr1 hw1 hnn ⊢
  have HST := Lib.hid hst
  have HR1 := Lib.hid hr1
  have HB1 := Lib.hid b1
  have HW1 := Lib.hid hw1
  have HIN := Lib.hid fun u y (hs : stepN net a u = some y) => step_in h hs
  have HNE := Lib.hid hne
  clear hst hr1 b1 hw1 hN h hne
  go_enter Tryz.func10, Tryz.ntmps10
  go_wp2_with fail
  rw [← HW1.out]
  go_loopw [5] (fun s5 wr => ∃ v : Nat, v ≤ nn ∧ s5 = .int .i64 v ∧ Hid (∀ u, u < v → Gr.cycB (vecL net a) u = false) ∧ Hid (Below w1.heap.size w1 wr)) (fun s5 _ => nn - (intOf s5).toNat)
  case atStart => exact ⟨0, by omega, rfl, Lib.hid (fun u hu => absurd hu (by omega)), Lib.hid (Below.refl _ _)⟩
  case round =>
    obtain ⟨v, hv, rfl, HC, HB⟩ := hrel
    have hx := ((HR1.out.below HB.out HR1.out.lt).get (i := 0) rfl).1
    by_cases hlt : v < nn
    · have HV0 : Hid (Gr.iter (vecL net a) 0 v = some v) := Lib.hid rfl
      obtain ⟨wo, rfl⟩ : ∃ wo : World, wo = wr := ⟨_, rfl⟩
      go_wp2_with fail
      go_loopw [6, 7] (fun s6 s7 wr => ∃ (k u : Nat), k ≤ nn ∧ u < nn ∧ s6 = .int .i64 u ∧ s7 = .int .i64 k ∧ Hid (Gr.iter (vecL net a) k v = some u) ∧ Hid (∀ j, j < k → Gr.iter (vecL net a) (j + 1) v ≠ some v) ∧ Hid (Below w1.heap.size w1 wr)) (fun _ s7 _ => nn - (intOf s7).toNat)
      case atStart => exact ⟨0, v, by omega, hlt, rfl, rfl, HV0, Lib.hid (fun j hj => absurd hj (by omega)), HB⟩
      case round =>
        clear HV0 HB hx
        obtain ⟨k, u, hk, hu, rfl, rfl, HI, HNO, HB⟩ := hrel
        have hx := ((HR1.out.below HB.out HR1.out.lt).get (i := 0) rfl).1
        by_cases hlk : k < nn
        · have hwB := HB1.out.trans (HB.out.mono HB1.out.size)
          have hst := HST.out _ hwB u hu
          have hil := iter_last HI.out
          rw [nxt_step (by rw [← HNE.out]; exact hu)] at hil
          cases ho : stepN net a u with
          | none =>
            rw [ho] at hst hil
            simp only [optInt, Option.getD_none, Option.isSome_none] at hst
            have hcf : Gr.cycB (vecL net a) v = false := cyc_false fun j hj => by
              by_cases ej : j < k
              · exact HNO.out j ej
              · rw [iter_dead hil j (by omega)]; simp
            have HC' : Hid (∀ u, u < v + 1 → Gr.cycB (vecL net a) u = false) := Lib.hid fun u hu => by
              by_cases eu : u = v
              · subst eu; exact hcf
              · exact HC.out u (by omega)
            have HST2 := Lib.hid hst
            clear hst hil ho hcf hwB
            go_wp2_with fail
            refine (HST2.out).mono ?_
            rintro e w5 ⟨rfl, hb5⟩
            have HB5 := Lib.hid (HB.out.trans (hb5.mono HB.out.size))
            clear hb5 hx
            go_wp2_with fail
            refine ⟨⟨v + 1, by omega, by go_num, HC', HB5⟩, by simp [intOf]; omega⟩
          | some y =>
            rw [ho] at hst hil
            simp only [optInt, Option.getD_some, Option.isSome_some] at hst
            have hyl := HIN.out u y ho
            rw [← HNE.out] at hyl
            have HST2 := Lib.hid hst
            by_cases hyv : y = v
            · have t1 : ((y : Int) == (v : Int)) = true := by simp [hyv]
              have hrt : roundB net a = true := round_true (by rw [← HNE.out]; exact hlt) (by rw [← HNE.out]; exact hlk) (by rw [hil, hyv])
              have HRT := Lib.hid hrt
              clear hst hil ho hwB hrt hyv
              go_wp2_with fail
              refine (HST2.out).mono ?_
              rintro e w5 ⟨rfl, hb5⟩
              have HB5 := Lib.hid (HB1.out.trans ((HB.out.trans (hb5.mono HB.out.size)).mono HB1.out.size))
              clear hb5 hx
              go_wp2_with fail
              go_ret
              exact ⟨by rw [HRT.out]; rfl, HB5.out⟩
            · have t1 : ((y : Int) == (v : Int)) = false := by rw [beq_eq_false_iff_ne]; omega
              have HI' : Hid (Gr.iter (vecL net a) (k + 1) v = some y) := Lib.hid hil
              have HNO' : Hid (∀ j, j < k + 1 → Gr.iter (vecL net a) (j + 1) v ≠ some v) := Lib.hid fun j hj e => by
                by_cases ej : j < k
                · exact HNO.out j ej e
                · rw [show j = k by omega, hil] at e
                  injection e with e
                  exact hyv e
              clear hst hil ho hwB hyv
              go_wp2_with fail
              refine (HST2.out).mono ?_
              rintro e w5 ⟨rfl, hb5⟩
              have HB5 := Lib.hid (HB.out.trans (hb5.mono HB.out.size))
              clear hb5 hx
              go_wp2_with fail
              refine ⟨⟨k + 1, y, by omega, hyl, rfl, by go_num, HI', HNO', HB5⟩, by simp [intOf]; omega⟩
        · obtain rfl : k = nn := by omega
          have HC' : Hid (∀ u, u < v + 1 → Gr.cycB (vecL net a) u = false) := Lib.hid fun u hu => by
            by_cases eu : u = v
            · subst eu; exact cyc_false fun j hj => HNO.out j (by rw [vecL_len, ← HNE.out] at hj; exact hj)
            · exact HC.out u (by omega)
          go_wp2_with fail
          refine ⟨⟨v + 1, by omega, by go_num, HC', HB⟩, by simp [intOf]; omega⟩
    · obtain rfl : v = nn := by omega
      have hrf : roundB net a = false := round_false fun u hu => HC.out u (by rw [← HNE.out] at hu; exact hu)
      have HRF := Lib.hid hrf
      have HBE := Lib.hid (HB1.out.trans (HB.out.mono HB1.out.size))
      clear hrf
      go_wp2_with fail
      go_ret
      exact ⟨by rw [HRF.out]; rfl, HBE.out⟩
end Go.Proofs.YtpjoefekhgmlhaaGreat.Tp

namespace Go.Proofs.YtpjoefekhgmlhaaGreat.Tp
open Go.RowKit Mem

/-- What analyze.Net answers, of a network whose cuts are few. -/
theorem anetOf {net : List (List RuleT)} {L : List Nat} (h : NetOk net) (hpos : 0 < net.length) (hL : cutsL net = L) (hf : L.length ≤ 12) : AnetOf net (anCert (atomsTo net L)) := fun N cN w hN => by
  subst hL
  have hc := cuts_ok h
  exact anet_any N cN net (cutsL net) w hN h hpos (cutsOf_few 12 So.sorts_few h hf) (by omega) hc.2.1 (sok h hpos hc.1 hc.2.1 (by omega))
theorem shown_true (w : World) : Calls Tryz.prog 6 #[] w fun e w' => e = .returned (.bool true) ∧ Below w.heap.size w w' :=
  shown_any w (by have := anetOf netS1_ok (by decide) cutsS1 (by decide); rwa [certS1] at this) (by have := anetOf netS2_ok (by decide) cutsS2 (by decide); rwa [certS2] at this)
/-- Node i sends all to node i + 1, the last one to the first. -/
def ringR (n i : Nat) : RuleT := ⟨0, 0, 1, (i + 1) % n⟩
def ringNet (n : Nat) : List (List RuleT) := (List.range n).map fun i => [ringR n i]
/-- .. but the last one delivers. -/
def lineNet (n : Nat) : List (List RuleT) := (ringNet n).set (n - 1) [⟨0, 0, 2, 0⟩]
theorem ring_len (n : Nat) : (ringNet n).length = n := by simp [ringNet]
theorem line_len (n : Nat) : (lineNet n).length = n := by simp [lineNet, ring_len]
theorem ring_at {n i : Nat} (hi : i < (ringNet n).length) : (ringNet n)[i] = [ringR n i] := by simp [ringNet]
theorem line_at {n i : Nat} (hi : i < (lineNet n).length) : (lineNet n)[i] = if i = n - 1 then [⟨0, 0, 2, 0⟩] else [ringR n i] := by
  have hn := line_len n
  simp only [lineNet, List.getElem_set]
  by_cases e : i = n - 1
  · rw [if_pos e.symm, if_pos e]
  · rw [if_neg (fun h => e h.symm), if_neg e, ring_at]
theorem one_mem {net : List (List RuleT)} {P : List RuleT → Prop} (h : ∀ i (hi : i < net.length), P net[i]) : ∀ l ∈ net, P l := fun l hl => by
  obtain ⟨i, hi, rfl⟩ := List.getElem_of_mem hl
  exact h i hi
theorem sum_ones {net : List (List RuleT)} (h : ∀ l ∈ net, l.length = 1) : (net.map List.length).sum = net.length := by
  induction net with
  | nil => rfl
  | cons l net ih =>
    rw [List.map_cons, List.sum_cons, h l (by simp), ih (fun x hx => h x (by simp [hx])), List.length_cons]; omega
theorem ring_one (n : Nat) : ∀ l ∈ ringNet n, l.length = 1 := one_mem fun i hi => by rw [ring_at hi]; rfl
theorem line_one (n : Nat) : ∀ l ∈ lineNet n, l.length = 1 := one_mem fun i hi => by rw [line_at hi]; split <;> rfl
theorem ring_ok {n : Nat} (h0 : 0 < n) (hn : n ≤ 256) : NetOk (ringNet n) := by
  refine ⟨by rw [ring_len]; exact hn, by rw [sum_ones (ring_one n), ring_len]; omega, one_mem fun i hi => ?_⟩
  rw [ring_at hi, ring_len]
  refine table_one ⟨show (0 : Nat) < 4294967296 by omega, show (0 : Nat) ≤ 32 by omega, by simp [ringR], .inl ⟨rfl, Nat.mod_lt _ h0⟩⟩
theorem line_ok {n : Nat} (h0 : 0 < n) (hn : n ≤ 256) : NetOk (lineNet n) := by
  refine ⟨by rw [line_len]; exact hn, by rw [sum_ones (line_one n), line_len]; omega, one_mem fun i hi => ?_⟩
  rw [line_at hi, line_len]
  split
  · exact table_one ⟨show (0 : Nat) < 4294967296 by omega, show (0 : Nat) ≤ 32 by omega, by simp, .inr ⟨.inl rfl, rfl⟩⟩
  · refine table_one ⟨show (0 : Nat) < 4294967296 by omega, show (0 : Nat) ≤ 32 by omega, by simp [ringR], .inl ⟨rfl, Nat.mod_lt _ h0⟩⟩
theorem ded_zero : ∀ {l : List Nat}, (∀ x ∈ l, x = 0) → 0 < l.length → dedN l = [0]
  | [x], h, _ => by
    have := h x (by simp)
    subst this
    simp [dedN]
  | x :: y :: l, h, _ => by
    have hx := h x (by simp)
    subst hx
    have ih := ded_zero (l := y :: l) (fun z hz => h z (by simp [hz])) (by simp)
    unfold dedN
    rw [ih]
    simp
theorem pts_zero {net : List (List RuleT)} (h : ∀ l ∈ net, ∀ r ∈ l, r.a = 0 ∧ r.len = 0) : ∀ x ∈ ptsN net, x = 0 := by
  intro x hx
  rcases List.mem_cons.1 hx with rfl | h1
  · rfl
  · obtain ⟨t, ht, h2⟩ := List.mem_flatMap.1 h1
    obtain ⟨r, hr, h3⟩ := List.mem_flatMap.1 h2
    obtain ⟨ha, hl⟩ := h t ht r hr
    unfold ptsR at h3
    rw [ha, hl] at h3
    have e1 : lowN 0 0 = 0 := by decide
    have e2 : highN 0 0 = 4294967295 := by decide
    rw [e1, e2] at h3
    simpa using h3
theorem cuts_zero {net : List (List RuleT)} (h : ∀ l ∈ net, ∀ r ∈ l, r.a = 0 ∧ r.len = 0) : cutsL net = [0] :=
  cuts_is (ded_zero (pts_zero h) (by simp [ptsN])) (by decide)
theorem ring_cuts (n : Nat) : cutsL (ringNet n) = [0] := cuts_zero (one_mem fun i hi => by rw [ring_at hi]; intro r hr; simp at hr; subst hr; exact ⟨rfl, rfl⟩)
theorem line_cuts (n : Nat) : cutsL (lineNet n) = [0] := cuts_zero (one_mem fun i hi => by rw [line_at hi]; split <;> (intro r hr; simp at hr; subst hr; exact ⟨rfl, rfl⟩))
/-! ### where it goes -/
theorem find_zero {r : RuleT} {a : Nat} (hr : r.a = 0 ∧ r.len = 0) (ha : a < 4294967296) : findL [r] a = some r := by
  have hh : holdsB r.a r.len a = true := by
    rw [hr.1, hr.2]
    unfold holdsB
    rw [decide_eq_true_eq]
    have : wid 0 = 4294967296 := by decide
    rw [this, Nat.div_eq_of_lt ha]
  show pickR a none r = some r
  unfold pickR
  rw [if_pos hh]
def ringV (n : Nat) : List Int := (List.range n).map fun i => (((i + 1) % n : Nat) : Int)
def lineV (n : Nat) : List Int := (List.range n).map fun i => if i = n - 1 then -1 else ((i + 1 : Nat) : Int)
theorem ring_vec (n a : Nat) (ha : a < 4294967296) : vecL (ringNet n) a = ringV n := by
  unfold vecL ringNet ringV
  rw [List.map_map]
  refine List.map_congr_left fun i _ => ?_
  show goesI [ringR n i] a = _
  unfold goesI nextL
  rw [find_zero ⟨rfl, rfl⟩ ha]
  simp [ringR]
theorem line_vec {n : Nat} (h0 : 0 < n) (a : Nat) (ha : a < 4294967296) : vecL (lineNet n) a = lineV n := by
  refine List.ext_getElem (by simp [vecL_len, line_len, lineV]) fun i h1 h2 => ?_
  have hi : i < n := by simpa [vecL_len, line_len] using h1
  have hi2 : i < (lineNet n).length := by rw [line_len]; exact hi
  have e1 : (vecL (lineNet n) a)[i] = goesI (lineNet n)[i] a := by simp [vecL]
  rw [e1, line_at]
  have e2 : (lineV n)[i] = if i = n - 1 then -1 else ((i + 1 : Nat) : Int) := by simp [lineV]
  rw [e2]
  by_cases e : i = n - 1
  · rw [if_pos e, if_pos e]
    unfold goesI nextL
    rw [find_zero ⟨rfl, rfl⟩ ha]
    simp
  · rw [if_neg e, if_neg e]
    unfold goesI nextL
    rw [find_zero ⟨rfl, rfl⟩ ha]
    simp only [ringR, if_true]
    rw [Nat.mod_eq_of_lt (by omega)]
theorem ringV_nxt {n i : Nat} (hi : i < n) : Gr.nxt (ringV n) i = some ((i + 1) % n) := by
  unfold Gr.nxt
  have h1 : (ringV n)[i]? = some (((i + 1) % n : Nat) : Int) := by simp [ringV, hi]
  rw [h1]
  simp only
  rw [if_neg (by omega), Int.toNat_natCast]
theorem lineV_nxt {n i : Nat} (hi : i < n) : Gr.nxt (lineV n) i = if i = n - 1 then none else some (i + 1) := by
  unfold Gr.nxt
  have h1 : (lineV n)[i]? = some (if i = n - 1 then -1 else ((i + 1 : Nat) : Int)) := by simp [lineV, hi]
  rw [h1]
  simp only
  by_cases e : i = n - 1
  · rw [if_pos e, if_pos e]; rfl
  · rw [if_neg e, if_neg e, if_neg (by omega)]; simp
theorem ringV_iter {n : Nat} (h0 : 0 < n) : ∀ k, Gr.iter (ringV n) k 0 = some (k % n)
  | 0 => by simp [Gr.iter]
  | k + 1 => by
    rw [iter_last (ringV_iter h0 k), ringV_nxt (Nat.mod_lt _ h0)]
    rw [Nat.mod_add_mod]
theorem ring_step {n a i : Nat} (ha : a < 4294967296) (hi : i < n) : stepN (ringNet n) a i = some ((i + 1) % n) := by
  rw [← nxt_step (by rw [ring_len]; exact hi), ring_vec n a ha, ringV_nxt hi]
theorem line_step {n a i : Nat} (ha : a < 4294967296) (hi : i < n) : stepN (lineNet n) a i = if i = n - 1 then none else some (i + 1) := by
  rw [← nxt_step (by rw [line_len]; exact hi), line_vec (by omega) a ha, lineV_nxt hi]
theorem ring_round {n a : Nat} (h0 : 0 < n) (ha : a < 4294967296) : roundB (ringNet n) a = true := by
  refine round_true (u := 0) (k := n - 1) (by rw [ring_len]; exact h0) (by rw [ring_len]; omega) ?_
  rw [ring_vec n a ha, ringV_iter h0, show n - 1 + 1 = n by omega, Nat.mod_self]
theorem ringV_good {n : Nat} (h0 : 0 < n) : Gr.goodB (ringV n) = true := by
  rw [Gr.good_iff]
  intro x hx
  obtain ⟨i, hi, rfl⟩ := List.mem_map.1 hx
  have := Nat.mod_lt (i + 1) h0
  have hl : (ringV n).length = n := by simp [ringV]
  rw [hl]
  omega
theorem lineV_good {n : Nat} (h0 : 0 < n) : Gr.goodB (lineV n) = true := by
  rw [Gr.good_iff]
  intro x hx
  obtain ⟨i, hi, rfl⟩ := List.mem_map.1 hx
  rw [List.mem_range] at hi
  have hl : (lineV n).length = n := by simp [lineV]
  rw [hl]
  split <;> omega
theorem ring_loop {n : Nat} (h0 : 0 < n) : Gr.loopOf (ringV n) = List.range n := by
  have hl : (ringV n).length = n := by simp [ringV]
  have hg := ringV_good h0
  have hu : 0 < (ringV n).length := by omega
  have hc : Gr.Cyc (ringV n) 0 := ⟨n, h0, by rw [ringV_iter h0, Nat.mod_self]⟩
  have hp : Gr.Per (ringV n) 0 n := ⟨h0, by rw [ringV_iter h0, Nat.mod_self], fun i h1 h2 e => by
    rw [ringV_iter h0, Nat.mod_eq_of_lt h2] at e
    injection e with e; omega⟩
  rw [Gr.loopOf_some hg hu hc (fun x hx => absurd hx (by omega)), Gr.ringOf_eq hg hu hc hp (by omega)]
  refine List.ext_getElem (by simp [Gr.ringTo]) fun i h1 h2 => ?_
  have hi : i < n := by simpa using h2
  simp only [Gr.ringTo, List.getElem_map, List.getElem_range]
  unfold Gr.at_
  rw [ringV_iter h0, Nat.mod_eq_of_lt hi]; rfl
theorem line_rank {n : Nat} : ∀ (k : Nat), k < n → Gr.IsRank (lineV n) k (n - 1 - k)
  | 0, h => ⟨by simp [lineV]; omega, by rw [lineV_nxt (by omega), if_pos (by omega)]⟩
  | k + 1, h => ⟨n - 1 - k, by rw [lineV_nxt (by omega), if_neg (by omega)]; congr 1; omega, line_rank k (by omega)⟩
theorem line_free {n : Nat} (h0 : 0 < n) : hasLoop (lineV n) = false ∧ ranksN (lineV n) = (List.range n).map fun i => n - 1 - i := by
  have hl : (lineV n).length = n := by simp [lineV]
  have hg := lineV_good h0
  have hr : ∀ u, u < n → Gr.IsRank (lineV n) (n - 1 - u) u := fun u hu => by
    have := line_rank (n := n) (n - 1 - u) (by omega)
    rwa [show n - 1 - (n - 1 - u) = u by omega] at this
  refine ⟨?_, ?_⟩
  · have ha : Gr.allRanked (lineV n) = true := (Gr.allRanked_iff hg).2 fun u hu => ⟨_, hr u (by omega)⟩
    have := Gr.loopOf_none hg ((Gr.ranked_iff_no_cyc hg).1 ha)
    unfold hasLoop
    rw [this]; rfl
  · unfold ranksN
    rw [hl]
    refine List.map_congr_left fun u hu => ?_
    rw [List.mem_range] at hu
    unfold Gr.rankOf
    rw [Gr.isRank_rk (hr u hu) (by omega)]; rfl
def ringC (n : Nat) : CertT := ⟨2, [], 0, List.range n⟩
def lineC (n : Nat) : CertT := ⟨1, [⟨0, 4294967295, (List.range n).map fun i => n - 1 - i⟩], 0, []⟩
theorem ring_cert {n : Nat} (h0 : 0 < n) : anCert (atomsTo (ringNet n) [0]) = ringC n := by
  have e : atomsTo (ringNet n) [0] = ⟨[0], [0], [ringV n]⟩ := by
    simp [atomsTo, atStep, ring_vec n 0 (by omega)]
  rw [e]
  have hlo := ring_loop h0
  have hh : hasLoop (ringV n) = true := by unfold hasLoop; rw [hlo]; simpa using h0
  unfold anCert
  simp [List.findIdx?_cons, hh, hlo, ringC]
theorem line_cert {n : Nat} (h0 : 0 < n) : anCert (atomsTo (lineNet n) [0]) = lineC n := by
  have e : atomsTo (lineNet n) [0] = ⟨[0], [0], [lineV n]⟩ := by
    simp [atomsTo, atStep, line_vec h0 0 (by omega)]
  rw [e]
  obtain ⟨h1, h2⟩ := line_free h0
  unfold anCert
  simp [List.findIdx?_cons, h1, lineC, partsOf, partOf, cutHi, h2]
theorem ring_certOk {n : Nat} (h0 : 0 < n) (hn : n ≤ 256) : CertOk n (ringC n) := by
  have := cert_ok (ring_ok h0 hn) (by rw [ring_len]; exact h0) (l := [0]) (by simp) (by simp) (by simp) ⟨by simp, rfl⟩
  rwa [ring_cert h0, ring_len] at this
theorem line_certOk {n : Nat} (h0 : 0 < n) (hn : n ≤ 256) : CertOk n (lineC n) := by
  have := cert_ok (line_ok h0 hn) (by rw [line_len]; exact h0) (l := [0]) (by simp) (by simp) (by simp) ⟨by simp, rfl⟩
  rwa [line_cert h0, line_len] at this
theorem range_getD {n i : Nat} (hi : i < n) : (List.range n).getD i 0 = i := by simp [List.getD, hi]
/-- The ring's own certificate holds. -/
theorem ring_ans {n : Nat} (h0 : 0 < n) (hn : n ≤ 256) : ansT (ringNet n) [0] n (ringC n) = (2, 0) := by
  unfold ansT
  rw [if_pos (ring_len n).symm]
  unfold ansN
  rw [ring_len, if_pos (cmayE_self (ring_certOk h0 hn)), if_neg (show ¬ (ringC n).verdict = 1 by show ¬ (2 : Nat) = 1; omega), if_pos]
  refine traceB_of fun i hi => ?_
  have hi' : i < n := by simpa [ringC] using hi
  show stepN (ringNet n) 0 ((List.range n).getD i 0) = some (behind (List.range n) i)
  rw [range_getD hi', ring_step (by omega) hi']
  unfold behind
  rw [List.length_range]
  by_cases e : i + 1 < n
  · rw [if_pos e, range_getD e, Nat.mod_eq_of_lt e]
  · rw [if_neg e, range_getD h0, show i + 1 = n by omega, Nat.mod_self]
/-- It is no trace of the chain. -/
theorem line_ring_ans {n : Nat} (h0 : 0 < n) (hn : n ≤ 256) : ansN (lineNet n) [0] n (ringC n) = (0, 17) := by
  unfold ansN
  rw [line_len, if_pos (cmayE_self (ring_certOk h0 hn)), if_neg (show ¬ (ringC n).verdict = 1 by show ¬ (2 : Nat) = 1; omega), if_neg]
  intro h
  unfold traceB at h
  rw [List.all_eq_true] at h
  have := h (n - 1) (by simp [ringC]; omega)
  have e1 : (ringC n).trace.getD (n - 1) 0 = n - 1 := range_getD (by omega)
  rw [e1, show (ringC n).dest = 0 from rfl, line_step (by omega) (by omega), if_pos rfl] at this
  simp at this
/-- The chain's certificate holds. -/
theorem line_ans {n : Nat} (h0 : 0 < n) (hn : n ≤ 256) : ansN (lineNet n) [0] n (lineC n) = (1, 0) := by
  unfold ansN
  rw [line_len, if_pos (cmayE_self (line_certOk h0 hn)), if_pos (show (lineC n).verdict = 1 from rfl), if_pos]
  have hin : insideL [0] 0 4294967295 = [0] := by decide
  show partsB (lineNet n) [0] [⟨0, 4294967295, (List.range n).map fun i => n - 1 - i⟩] = true
  refine partsB_of fun i hi => ?_
  have : i = 0 := by simp at hi; omega
  subst this
  show fallB (lineNet n) (insideL [0] 0 4294967295) ((List.range n).map fun i => n - 1 - i) = true
  rw [hin]
  refine fallB_of fun i hi => ?_
  have : i = 0 := by simp at hi; omega
  subst this
  refine passA_of fun v hv => ?_
  rw [line_len] at hv
  show passV (lineNet n) _ 0 v = true
  unfold passV
  rw [line_step (by omega) hv]
  have hg : ∀ u, u < n → ((List.range n).map fun i => n - 1 - i).getD u 0 = n - 1 - u := fun u hu => by simp [List.getD, hu]
  by_cases e : v = n - 1
  · rw [if_pos e]
  · rw [if_neg e]
    simp only
    rw [hg v hv, hg (v + 1) (by omega), decide_eq_true_eq]
    omega
theorem ring_anet {n : Nat} (h0 : 0 < n) (hn : n ≤ 256) : AnetOf (ringNet n) (ringC n) := by
  have := anetOf (ring_ok h0 hn) (by rw [ring_len]; exact h0) (ring_cuts n) (by decide)
  rwa [ring_cert h0] at this
theorem line_anet {n : Nat} (h0 : 0 < n) (hn : n ≤ 256) : AnetOf (lineNet n) (lineC n) := by
  have := anetOf (line_ok h0 hn) (by rw [line_len]; exact h0) (line_cuts n) (by decide)
  rwa [line_cert h0] at this
theorem ring_cutsOf {n : Nat} (h0 : 0 < n) (hn : n ≤ 256) : CutsOf (ringNet n) [0] := by
  have := cutsOf_few 12 So.sorts_few (ring_ok h0 hn) (by rw [ring_cuts]; decide)
  rwa [ring_cuts] at this
theorem line_cutsOf {n : Nat} (h0 : 0 < n) (hn : n ≤ 256) : CutsOf (lineNet n) [0] := by
  have := cutsOf_few 12 So.sorts_few (line_ok h0 hn) (by rw [line_cuts]; decide)
  rwa [line_cuts] at this
end Go.Proofs.YtpjoefekhgmlhaaGreat.Tp
