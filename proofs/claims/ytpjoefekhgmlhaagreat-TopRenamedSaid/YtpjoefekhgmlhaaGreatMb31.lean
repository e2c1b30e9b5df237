/- PLAIN LAW: what atoms of a network hold to; the certificate made of them may be. Conditions: a network that may be, of one node at least. · CONTRACT of check.Trace. Conditions: the network may be; the trace's numbers are nodes. · CONTRACTS: cover.All, check.parts, check.Net, of certificates that may be for some number of nodes. -/
import Derived.Test.YtpjoefekhgmlhaaGreatMb27
import Derived.Test.YtpjoefekhgmlhaaGreatMb18
import Derived.Test.YtpjoefekhgmlhaaGreatMb25
import Derived.Test.YtpjoefekhgmlhaaGreatMb30
import Derived.Test.YtpjoefekhgmlhaaGreatMb17
import Derived.StillTailTactics
namespace Go.Proofs.YtpjoefekhgmlhaaGreat.Tp
open Go.RowKit Mem

def hasLoop (v : List Int) : Bool := decide (0 < (Gr.loopOf v).length)
/-- The ranks as numbers. -/
def ranksN (v : List Int) : List Nat := (List.range v.length).map (Gr.rankOf v)
theorem ranksN_ints (v : List Int) : Gr.ints (Gr.ranksL v) = nums (ranksN v) := by
  unfold Gr.ranksL ranksN
  simp [Gr.ints, nums]
def partOf (s : AtS) (j : Nat) : PartT := ⟨s.F.getD j 0, cutHi s.F j, ranksN (s.V.getD (s.H.getD j 0) [])⟩
def partsOf (s : AtS) : List PartT := (List.range s.F.length).map (partOf s)
/-- The certificate that analyze.Net makes of atoms. -/
def anCert (s : AtS) : CertT := match s.V.findIdx? hasLoop with
  | some i => ⟨2, [], s.F.getD (s.H.idxOf i) 0, Gr.loopOf (s.V.getD i [])⟩
  | none => ⟨1, partsOf s, 0, []⟩
/-- What atoms of a network hold to. -/
structure SOk (s : AtS) : Prop where
  len : s.F.length = s.H.length
  lt : ∀ j ∈ s.H, j < s.V.length
  all : ∀ i, i < s.V.length → i ∈ s.H
  num : ∀ a ∈ s.F, a < 4294967296
  pos : ∀ j (hj : j < s.F.length), 0 < j → 0 < s.F[j]
  few : s.F.length ≤ 100000
  vec : ∀ v ∈ s.V, Gr.errno v = 0
  some_ : ∀ v ∈ s.V, 0 < v.length
  fewV : s.V.length ≤ s.H.length
theorem ranked_of {v : List Int} (he : Gr.errno v = 0) (h : hasLoop v = false) : Gr.allRanked v = true := by
  obtain ⟨hl, hg⟩ := Gr.errno_zero he
  rw [Gr.ranked_iff_no_cyc hg]
  intro u hu hc
  have hn : Gr.loopOf v = [] := by
    unfold hasLoop at h
    rw [decide_eq_false_iff_not] at h
    exact List.length_eq_zero_iff.1 (by omega)
  unfold Gr.loopOf at hn
  cases e : (List.range v.length).find? (Gr.cycB v) with
  | some x => rw [e] at hn; simp [Gr.ringOf] at hn
  | none =>
    have := List.find?_eq_none.1 e u (by simpa using hu)
    exact this ((Gr.cyc_iff hg hu).2 hc)

def AnPost (w : World) (c : CertT) (e : Ending) (w' : World) : Prop := ∃ A B cA cB, e = .returned (.tuple #[.agg #[.int .i64 (c.verdict : Int), .slice A c.parts.length cA, .int .u32 (c.dest : Int), .slice B c.trace.length cB], .int .i64 0]) ∧
  PartsAt w' A c.parts ∧ Lies w' B (nums c.trace) ∧ (∀ a, B = some a → w.heap.size ≤ a.block) ∧ Below w.heap.size w w'
/-- What analyze.Net answers of a network. -/
def AnetOf (net : List (List RuleT)) (c : CertT) : Prop := ∀ (N : Option Addr) (cN : Nat) (w : World), NetAt w N net → Calls Tryz.prog 8 #[.agg #[.slice N net.length cN]] w (AnPost w c)
theorem vecL_good {net : List (List RuleT)} (h : NetOk net) (a : Nat) : Gr.errno (vecL net a) = 0 := by
  have hl := vecL_len net a
  have hn := h.nodes
  unfold Gr.errno
  rw [if_neg (by omega), if_pos]
  rw [Gr.good_iff]
  intro x hx
  obtain ⟨l, hml, rfl⟩ := List.mem_map.1 hx
  rw [hl]
  unfold goesI nextL
  cases e : findL l a with
  | none => simp only; omega
  | some r =>
    have hr := ((h.table l hml).rule r (find_mem e)).act
    by_cases h1 : r.act = 1
    · simp only [h1, if_true]; omega
    · simp only [h1, if_false]; omega
/-- What the rounds of atoms.Of hold to. -/
structure SInv (net : List (List RuleT)) (l : List Nat) (s : AtS) : Prop where
  len : s.F.length = s.H.length
  lt : ∀ j ∈ s.H, j < s.V.length
  all : ∀ i, i < s.V.length → i ∈ s.H
  sub : s.F.Sublist l
  vec : ∀ v ∈ s.V, ∃ a, v = vecL net a
  few : s.V.length ≤ s.H.length
theorem SInv.step {net : List (List RuleT)} {l : List Nat} {s : AtS} (h : SInv net l s) (a : Nat) : SInv net (l ++ [a]) (atStep net s a) := by
  have hs2 : (s.F ++ [a]).Sublist (l ++ [a]) := h.sub.append (List.Sublist.refl _)
  unfold atStep
  split
  · rename_i hm
    split
    · exact ⟨h.len, h.lt, h.all, h.sub.trans (List.sublist_append_left _ _), h.vec, h.few⟩
    · refine ⟨by simp [h.len], fun j hj => ?_, fun i hi => by simp [h.all i hi], hs2, h.vec, by have := h.few; simp; omega⟩
      rcases List.mem_append.1 hj with h1 | h1
      · exact h.lt j h1
      · simp at h1; rw [h1]; exact List.idxOf_lt_length_of_mem hm
  · refine ⟨by simp [h.len], fun j hj => ?_, fun i hi => ?_, hs2, fun v hv => ?_, by have := h.few; simp; omega⟩
    · rw [List.length_append, List.length_singleton]
      rcases List.mem_append.1 hj with h1 | h1
      · have := h.lt j h1; omega
      · simp at h1; omega
    · simp only [List.length_append, List.length_singleton] at hi
      by_cases e : i < s.V.length
      · simp [h.all i e]
      · simp; right; omega
    · rcases List.mem_append.1 hv with h1 | h1
      · exact h.vec v h1
      · simp at h1; exact ⟨a, h1⟩
theorem sinv (net : List (List RuleT)) (l : List Nat) : SInv net l (atomsTo net l) := by
  have : ∀ k, k ≤ l.length → SInv net (l.take k) (atomsTo net (l.take k)) := fun k => by
    induction k with
    | zero => intro _; exact ⟨rfl, by simp [atomsTo], by simp [atomsTo], by simp [atomsTo], by simp [atomsTo], by simp [atomsTo]⟩
    | succ k ih =>
      intro hk
      rw [atomsTo_next (by omega), List.take_succ_eq_append_getElem (by omega)]
      exact (ih (by omega)).step _
  have h := this l.length (Nat.le_refl _)
  rwa [List.take_of_length_le (Nat.le_refl _)] at h
theorem sok {net : List (List RuleT)} {l : List Nat} (h : NetOk net) (hpos : 0 < net.length) (hl : l.Pairwise (· < ·)) (hb : ∀ a ∈ l, a < 4294967296) (hf : l.length ≤ 100000) : SOk (atomsTo net l) := by
  have hi := sinv net l
  have hp := hl.sublist hi.sub
  refine ⟨hi.len, hi.lt, hi.all, fun a ha => hb a (hi.sub.subset ha), fun j hj h0 => ?_, Nat.le_trans hi.sub.length_le hf, fun v hv => ?_, fun v hv => ?_, hi.few⟩
  · have := (List.pairwise_iff_getElem.1 hp) 0 j (by omega) hj h0
    omega
  · obtain ⟨a, rfl⟩ := hi.vec v hv; exact vecL_good h a
  · obtain ⟨a, rfl⟩ := hi.vec v hv; rw [vecL_len]; exact hpos
theorem atoms_head {net : List (List RuleT)} {l : List Nat} (h0 : 0 < l.length) : ∃ h : 0 < (atomsTo net l).F.length, (atomsTo net l).F[0] = l[0] := by
  have : ∀ k, k + 1 ≤ l.length → ∃ h : 0 < (atomsTo net (l.take (k + 1))).F.length, (atomsTo net (l.take (k + 1))).F[0] = l[0] := fun k => by
    induction k with
    | zero =>
      intro hk
      rw [atomsTo_next (by omega)]
      refine ⟨?_, ?_⟩
      · simp [atomsTo, atStep]
      · simp [atomsTo, atStep]
    | succ k ih =>
      intro hk
      obtain ⟨hl, he⟩ := ih (by omega)
      have key : ∀ s : AtS, s = atomsTo net (l.take (k + 1)) → ∀ h : 0 < s.F.length, s.F[0] = l[0] → ∃ h : 0 < (atStep net s l[k + 1]).F.length, (atStep net s l[k + 1]).F[0] = l[0] := fun s _ hs e => by
        unfold atStep
        split
        · split
          · exact ⟨hs, e⟩
          · exact ⟨by simp, by rw [List.getElem_append_left hs]; exact e⟩
        · exact ⟨by simp, by rw [List.getElem_append_left hs]; exact e⟩
      have := key _ rfl hl he
      rw [atomsTo_next (by omega)]
      exact this
  have := this (l.length - 1) (by omega)
  rwa [show l.length - 1 + 1 = l.length by omega, List.take_of_length_le (Nat.le_refl _)] at this
theorem cutHi_mid {l : List Nat} {i : Nat} (h : i + 1 < l.length) : cutHi l i = l[i + 1] - 1 := by
  unfold cutHi
  rw [if_pos h]
  simp [List.getD, List.getElem?_eq_getElem h]
theorem cutHi_last {l : List Nat} {i : Nat} (h : ¬ i + 1 < l.length) : cutHi l i = 4294967295 := by unfold cutHi; rw [if_neg h]
theorem getD_at {l : List Nat} {i : Nat} (h : i < l.length) : l.getD i 0 = l[i] := by simp [List.getD, List.getElem?_eq_getElem h]
/-- The parts meet, from zero to the top. -/
theorem parts_meet {s : AtS} (hF : s.F.Pairwise (· < ·)) (hb : ∀ a ∈ s.F, a < 4294967296) (h0 : ∃ h : 0 < s.F.length, s.F[0] = 0) (hf : s.F.length ≤ 8193) : Meets (partsOf s) := by
  obtain ⟨hpos, hz⟩ := h0
  have hlen : (partsOf s).length = s.F.length := by simp [partsOf]
  have hat : ∀ i (hi : i < (partsOf s).length), (partsOf s)[i] = partOf s i := fun i hi => by simp [partsOf]
  have hlt := List.pairwise_iff_getElem.1 hF
  have hmem : ∀ i (hi : i < s.F.length), s.F[i] < 4294967296 := fun i hi => hb _ (List.getElem_mem hi)
  refine ⟨by omega, by omega, fun p hp => ?_, fun h => ?_, fun h => ?_, fun i hi => ?_, fun i hi => ?_⟩
  · obtain ⟨i, hi, rfl⟩ := List.getElem_of_mem hp
    rw [hat i hi]
    have hi' : i < s.F.length := by omega
    refine ⟨?_, ?_⟩
    · show s.F.getD i 0 < _
      rw [getD_at hi']; exact hmem i hi'
    · show cutHi s.F i < _
      by_cases e : i + 1 < s.F.length
      · rw [cutHi_mid e]; have := hmem _ e; omega
      · rw [cutHi_last e]; omega
  · rw [hat 0 h]
    show s.F.getD 0 0 = 0
    rw [getD_at hpos]; exact hz
  · rw [hat _ h]
    show cutHi s.F _ = _
    exact cutHi_last (by omega)
  · rw [hat i hi]
    have hi' : i < s.F.length := by omega
    show s.F.getD i 0 ≤ cutHi s.F i
    rw [getD_at hi']
    by_cases e : i + 1 < s.F.length
    · rw [cutHi_mid e]; have := hlt i (i + 1) hi' e (by omega); omega
    · rw [cutHi_last e]; have := hmem _ hi'; omega
  · rw [hat i (by omega), hat (i + 1) hi]
    have e : i + 1 < s.F.length := by omega
    have h1 := hlt i (i + 1) (by omega) e (by omega)
    have h2 := hmem _ e
    refine ⟨?_, ?_⟩
    · show cutHi s.F i ≠ _
      rw [cutHi_mid e]; omega
    · show s.F.getD (i + 1) 0 = cutHi s.F i + 1
      rw [getD_at e, cutHi_mid e]; omega
theorem loop_trace {v : List Int} (he : Gr.errno v = 0) (h : hasLoop v = true) : TraceOk (Gr.loopOf v) ∧ (Gr.loopOf v).length ≤ v.length ∧ ∀ x ∈ Gr.loopOf v, x < v.length := by
  obtain ⟨hl, hg⟩ := Gr.errno_zero he
  have hpos : 0 < (Gr.loopOf v).length := by unfold hasLoop at h; simpa using h
  have hll : (Gr.loopL v).length = (Gr.loopOf v).length := by simp [Gr.loopL]
  obtain ⟨u, p, hu, hc, hp, hpl, hmin, e⟩ := Gr.loop_ring hg (by omega)
  have he2 : Gr.loopOf v = Gr.ringTo v u p := by
    unfold Gr.loopL at e
    exact (List.map_inj_right (fun a b hab => by omega)).1 e
  have hpl2 : (Gr.loopOf v).length = p := by rw [he2, Gr.ringTo_len]
  have hat : ∀ i (hi : i < (Gr.loopOf v).length), (Gr.loopOf v)[i] = Gr.at_ v u i := fun i hi => by
    simp only [he2, Gr.ringTo, List.getElem_map, List.getElem_range]
  have hltv : ∀ x ∈ Gr.loopOf v, x < v.length := fun x hx => by
    obtain ⟨i, hi, rfl⟩ := List.getElem_of_mem hx
    rw [hat i hi]; exact (hc.all hg hu i).2
  refine ⟨⟨hpos, by omega, fun x hx => by have := hltv x hx; omega, fun i hi hm => ?_, fun i hi h0 => ?_⟩, by omega, hltv⟩
  · obtain ⟨j, hj, hje⟩ := List.getElem_of_mem hm
    rw [List.length_take] at hj
    rw [List.getElem_take, hat j (by omega), hat i hi] at hje
    exact Gr.per_inj hg hu hc hp (show j < i by omega) (by omega) hje
  · rw [hat 0 h0, hat i hi]
    have h00 : Gr.at_ v u 0 = u := by simp [Gr.at_, Gr.iter]
    rw [h00]
    rcases Nat.lt_or_ge (Gr.at_ v u i) u with hlt | hge
    · exact absurd (Gr.cyc_along hc (hc.all hg hu i).1) (hmin _ hlt)
    · exact hge
theorem ranks_good {v : List Int} (he : Gr.errno v = 0) (h : hasLoop v = false) : (ranksN v).length = v.length ∧ ∀ x ∈ ranksN v, x < v.length := by
  obtain ⟨hl, hg⟩ := Gr.errno_zero he
  have hr := ranked_of he h
  refine ⟨by simp [ranksN], fun x hx => ?_⟩
  obtain ⟨i, hi, rfl⟩ := List.getElem_of_mem hx
  have hi' : i < v.length := by simpa [ranksN] using hi
  obtain ⟨k, hk, hkl, -⟩ := Gr.ranks_facts hg hr rfl hi'
  have h2 : Gr.ranksL v = (ranksN v).map fun x : Nat => (x : Int) := by unfold Gr.ranksL ranksN; simp
  rw [h2, List.getElem?_map, List.getElem?_eq_getElem hi] at hk
  simp at hk
  omega
/-- The certificate of atoms may be. -/
theorem cert_ok {net : List (List RuleT)} {l : List Nat} (h : NetOk net) (hpos : 0 < net.length) (hl : l.Pairwise (· < ·)) (hb : ∀ a ∈ l, a < 4294967296) (hf : l.length ≤ 8193) (h0 : ∃ h : 0 < l.length, l[0] = 0) : CertOk net.length (anCert (atomsTo net l)) := by
  have hs := sok h hpos hl hb (by omega)
  have hi := sinv net l
  have hlenv : ∀ v ∈ (atomsTo net l).V, v.length = net.length := fun v hv => by
    obtain ⟨a, rfl⟩ := hi.vec v hv; exact vecL_len net a
  unfold anCert
  cases e : (atomsTo net l).V.findIdx? hasLoop with
  | some i =>
    obtain ⟨hil, hpi, -⟩ := List.findIdx?_eq_some_iff_getElem.1 e
    have hv := List.getElem_mem hil
    obtain ⟨t1, t2, t3⟩ := loop_trace (hs.vec _ hv) hpi
    have hgd : (atomsTo net l).V.getD i [] = (atomsTo net l).V[i] := by simp [List.getD, List.getElem?_eq_getElem hil]
    have hlv := hlenv _ hv
    refine .inr ⟨rfl, rfl, ?_, ?_, ?_, ?_⟩
    · show (atomsTo net l).F.getD _ 0 < _
      have hlt : (atomsTo net l).H.idxOf i < (atomsTo net l).F.length := by rw [hs.len]; exact List.idxOf_lt_length_of_mem (hs.all i hil)
      rw [getD_at hlt]; exact hs.num _ (List.getElem_mem hlt)
    · show TraceOk (Gr.loopOf _); rw [hgd]; exact t1
    · show (Gr.loopOf _).length ≤ _; rw [hgd]; omega
    · show ∀ x ∈ Gr.loopOf _, _; rw [hgd, ← hlv]; exact t3
  | none =>
    have hno := List.findIdx?_eq_none_iff.1 e
    refine .inl ⟨rfl, ⟨?_, ?_, ?_⟩, rfl, rfl⟩
    · obtain ⟨hl0, hz⟩ := h0
      obtain ⟨hF0, hFz⟩ := atoms_head (net := net) hl0
      exact parts_meet (hl.sublist hi.sub) hs.num ⟨hF0, by rw [hFz]; exact hz⟩ (Nat.le_trans hi.sub.length_le hf)
    all_goals (
      intro p hp
      obtain ⟨j, hj, rfl⟩ := List.mem_map.1 hp
      rw [List.mem_range] at hj
      have hjH : j < (atomsTo net l).H.length := by rw [← hs.len]; exact hj
      have hk := hs.lt _ (List.getElem_mem hjH)
      have hv := List.getElem_mem hk
      obtain ⟨r1, r2⟩ := ranks_good (hs.vec _ hv) (by simpa using hno _ hv)
      have e1 : (partOf (atomsTo net l) j).ranks = ranksN ((atomsTo net l).V[(atomsTo net l).H[j]]) := by
        show ranksN ((atomsTo net l).V.getD ((atomsTo net l).H.getD j 0) []) = _
        rw [getD_at hjH]
        simp [List.getD, List.getElem?_eq_getElem hk]
      rw [e1]
      rw [hlenv _ hv] at r1 r2
      first | exact r1 | exact r2)
/-- What the cuts of a network hold to. -/
theorem cuts_ok {net : List (List RuleT)} (h : NetOk net) : (cutsL net).Pairwise (· < ·) ∧ (∀ a ∈ cutsL net, a < 4294967296) ∧ (∃ h0 : 0 < (cutsL net).length, (cutsL net)[0] = 0) := by
  have trn : ∀ a b c : Nat, decide (a ≤ b) = true → decide (b ≤ c) = true → decide (a ≤ c) = true := fun a b c h1 h2 => by simp only [decide_eq_true_eq] at *; omega
  have ton : ∀ a b : Nat, (decide (a ≤ b) || decide (b ≤ a)) = true := fun a b => by simp only [Bool.or_eq_true, decide_eq_true_eq]; omega
  have hs := List.pairwise_mergeSort trn ton (dedN (ptsN net))
  have hperm := List.mergeSort_perm (dedN (ptsN net)) fun x y => decide (x ≤ y)
  have hnd : (cutsL net).Nodup := hperm.nodup_iff.2 (nodup_dedN _)
  have hp : (cutsL net).Pairwise (· < ·) := by
    refine (List.pairwise_and_iff.2 ⟨hs, hnd⟩).imp ?_
    rintro a b ⟨h1, h2⟩
    simp only [decide_eq_true_eq] at h1
    exact Nat.lt_of_le_of_ne h1 h2
  have hm : ∀ a, a ∈ cutsL net ↔ a ∈ ptsN net := fun a => (hperm.mem_iff).trans mem_dedN
  have h0m : 0 ∈ cutsL net := (hm 0).2 (by simp [ptsN])
  refine ⟨hp, fun a ha => ?_, ?_⟩
  · have := (hm a).1 ha
    rcases List.mem_cons.1 this with rfl | h1
    · omega
    · obtain ⟨t, ht, h2⟩ := List.mem_flatMap.1 h1
      obtain ⟨r, hr, h3⟩ := List.mem_flatMap.1 h2
      have hok := (h.table t ht).rule r hr
      unfold ptsR at h3
      rcases List.mem_cons.1 h3 with rfl | h4
      · exact cutLow_lt hok.a
      · split at h4
        · simp at h4
        · simp at h4
          have := cutHigh_lt hok.a hok.len
          omega
  · obtain ⟨i, hi, he⟩ := List.getElem_of_mem h0m
    have hpos : 0 < (cutsL net).length := by omega
    refine ⟨hpos, ?_⟩
    by_cases e : i = 0
    · subst e; exact he
    · have := (List.pairwise_iff_getElem.1 hp) 0 i hpos hi (by omega)
      omega
end Go.Proofs.YtpjoefekhgmlhaaGreat.Tp

namespace Go.Proofs.YtpjoefekhgmlhaaGreat.Tp
open Go.RowKit Mem

/-- The node behind place i of a trace. -/
def behind (l : List Nat) (i : Nat) : Nat := if i + 1 < l.length then l.getD (i + 1) 0 else l.getD 0 0
def traceB (net : List (List RuleT)) (dest : Nat) (l : List Nat) : Bool := (List.range l.length).all fun i => stepN net dest (l.getD i 0) == some (behind l i)
theorem traceB_of {net : List (List RuleT)} {dest : Nat} {l : List Nat} (h : ∀ i, i < l.length → stepN net dest (l.getD i 0) = some (behind l i)) : traceB net dest l = true := by
  unfold traceB
  rw [List.all_eq_true]
  intro i hi
  rw [h i (List.mem_range.1 hi)]
  simp
theorem traceB_no {net : List (List RuleT)} {dest : Nat} {l : List Nat} {i : Nat} (hi : i < l.length) (h : stepN net dest (l.getD i 0) ≠ some (behind l i)) : traceB net dest l = false := by
  cases hf : traceB net dest l with
  | false => rfl
  | true =>
    unfold traceB at hf
    rw [List.all_eq_true] at hf
    have := hf i (List.mem_range.2 hi)
    exact absurd (by simpa using this) h
def TracePost (b : Bool) (w : World) (e : Ending) (w' : World) : Prop := e = .returned (.int .i64 (if b then 0 else 17)) ∧ Below w.heap.size w w'

set_option maxRecDepth 100000 in
set_option maxHeartbeats 2000000 in
theorem trace_any (A B : Option Addr) (c d : Nat) (net : List (List RuleT)) (dest : Nat) (l : List Nat) (w : World) (hN : NetAt w A net) (h : NetOk net) (hB : Lies w B (nums l)) (h0 : 0 < l.length) (hln : l.length ≤ 256) (hl : ∀ v ∈ l, v < net.length) (hd : dest < 4294967296) :
    Calls Tryz.prog 26 #[.agg #[.slice A net.length c], .int .u32 (dest : Int), .slice B l.length d] w (TracePost (traceB net dest l) w) := by
  have hnn := h.nodes
  have H := Lib.hid h
  have HL := Lib.hid hl
  obtain ⟨fb, hfb⟩ : ∃ fb, fb = traceB net dest l := ⟨_, rfl⟩
  rw [← hfb]
  have HFB := Lib.hid hfb
  have t0 : ((l.length : Int) == 0) = false := by rw [beq_eq_false_iff_ne]; omega
  have hb0 : Below w.heap.size w (w.alloc (.cells #[.slice A net.length c] 24)) := (Below.refl _ _).alloc (Nat.le_refl _) _
  have hst := steps_any A c net _ (hN.below hb0)
  have HST := Lib.hid hst
  have HB0 := Lib.hid hb0
  clear h hl hfb hst hb0 hN
  go_enter Tryz.func26, Tryz.ntmps26
  go_wp2_with fail
  refine (HST.out).mono ?_
  rintro e w2 ⟨f, rfl, hf, hb2⟩
  obtain ⟨g, N, cN, rfl, hg, hgc, hN⟩ := hf
  have hb2w := HB0.out.trans (hb2.mono HB0.out.size)
  have hbx : Below w2.heap.size w2 (w2.alloc (.cells #[.int .i64 (net.length : Int), .func (.func 101) #[] #[.pointer (some ⟨g, 0, none⟩)]] 123)) := (Below.refl _ _).alloc (Nat.le_refl _) _
  have hx1 : (w2.alloc (.cells #[.int .i64 (net.length : Int), .func (.func 101) #[] #[.pointer (some ⟨g, 0, none⟩)]] 123)).cell? ⟨w2.heap.size, 1, none⟩ = some (.func (.func 101) #[] #[.pointer (some ⟨g, 0, none⟩)]) := by rw [cell_of_row _ _ 1 _ _ (0, 0) (heap_alloc_new w2 _)]; rfl
  have hgx : w2.heap.size < (w2.alloc (.cells #[.int .i64 (net.length : Int), .func (.func 101) #[] #[.pointer (some ⟨g, 0, none⟩)]] 123)).heap.size := by simp
  have hb1 := hb2w.trans (hbx.mono hb2w.size)
  have hN1 := hN.below hbx
  have hgc1 := (hbx.cell (p := ⟨g, 0, none⟩) hg).trans hgc
  have hg1 : g < (w2.alloc (.cells #[.int .i64 (net.length : Int), .func (.func 101) #[] #[.pointer (some ⟨g, 0, none⟩)]] 123)).heap.size := Nat.lt_of_lt_of_le hg hbx.size
  have hB1 := hB.below hb1
  clear hb2 hN hgc hg hbx hB HST HB0 hb2w
  go_wp2_with fail
  generalize w2.alloc (.cells #[.int .i64 (net.length : Int), .func (.func 101) #[] #[.pointer (some ⟨g, 0, none⟩)]] 123) = w1 at *
  go_loopw [20] (fun i wr => ∃ k : Nat, k ≤ l.length ∧ i = .int .i64 k ∧ Hid (∀ j, j < k → stepN net dest (l.getD j 0) = some (behind l j)) ∧ Below w1.heap.size w1 wr) (fun i _ => l.length - (intOf i).toNat)
  case atStart => exact ⟨0, by omega, rfl, Lib.hid (fun j h => absurd h (by omega)), Below.refl _ _⟩
  case round =>
    obtain ⟨k, hk, rfl, HALL, hbr⟩ := hrel
    by_cases hlt : k < l.length
    · obtain ⟨b, off, hBe, hb, hc0⟩ := Lies.at_map hB1 hlt
      obtain ⟨b', off', hBe', hb', hc1⟩ := Lies.at_map hB1 h0
      rw [hBe] at hBe'
      injection hBe' with hBe'
      injection hBe' with e1 e2 _
      subst e1 e2
      have hk0 := (hbr.cell (p := ⟨b, off + k, none⟩) hb).trans hc0
      have h00 := (hbr.cell (p := ⟨b, off + 0, none⟩) hb).trans hc1
      rw [Nat.add_zero] at h00
      have hxr1 := (hbr.cell (p := ⟨w2.heap.size, 1, none⟩) hgx).trans hx1
      have hvl := HL.out _ (List.getElem_mem hlt)
      have hget : l.getD k 0 = l[k] := by simp [List.getD, hlt]
      have hget0 : l.getD 0 0 = l[0] := by simp [List.getD, h0]
      have hst := stepf_any N cN g net dest l[k] wr ((hbr.cell (p := ⟨g, 0, none⟩) hg1).trans hgc1) (hN1.below hbr) H.out hvl hd
      have hbe : ∀ nx : Nat, behind l k = nx → (stepN net dest l[k] = some nx → ∀ j, j < k + 1 → stepN net dest (l.getD j 0) = some (behind l j)) ∧ (stepN net dest l[k] ≠ some nx → fb = false) := fun nx e => by
        refine ⟨fun hs j hj => ?_, fun hs => ?_⟩
        · by_cases ej : j = k
          · subst ej; rw [hget, e, hs]
          · exact HALL.out j (by omega)
        · rw [HFB.out]; exact traceB_no hlt (by rw [hget, e]; exact hs)
      obtain ⟨nx, hnx⟩ : ∃ nx, nx = behind l k := ⟨_, rfl⟩
      obtain ⟨hyes, hno⟩ := hbe nx hnx.symm
      obtain ⟨x, hx⟩ : ∃ x, x = l[k] := ⟨_, rfl⟩
      obtain ⟨x0, hx0⟩ : ∃ x0, x0 = l[0] := ⟨_, rfl⟩
      rw [← hx] at hk0 hst hyes hno
      rw [← hx0] at h00 hget0
      have HYES := Lib.hid hyes
      have HNO := Lib.hid hno
      have HBB := Lib.hid hB1
      by_cases hlast : k + 1 < l.length
      · obtain ⟨b'', off'', hBe'', hb'', hc2⟩ := Lies.at_map hB1 hlast
        rw [hBe] at hBe''
        injection hBe'' with hBe''
        injection hBe'' with e1 e2 _
        subst e1 e2
        have hk1 := (hbr.cell (p := ⟨b, off + (k + 1), none⟩) hb).trans hc2
        have hbh : l[k + 1] = nx := by rw [hnx]; unfold behind; rw [if_pos hlast]; simp [List.getD, hlast]
        rw [hbh] at hk1
        subst hBe
        clear hc0 hc1 hc2 hx hx0 hget hget0 hbh hnx hbe hyes hno hB1 hvl
        cases ho : stepN net dest x with
        | none =>
          have hf := HNO.out (by rw [ho]; simp)
          rw [ho] at hst
          have HST := Lib.hid hst
          have HF := Lib.hid hf
          clear hst ho hf
          go_wp2_with fail
          refine (HST.out).mono ?_
          rintro e w3 ⟨rfl, hb3⟩
          simp only [Option.isSome_none]
          go_wp2_with fail
          go_ret
          exact ⟨by rw [HF.out]; rfl, hb1.trans ((hbr.trans (hb3.mono hbr.size)).mono hb1.size)⟩
        | some z =>
          rw [ho] at hst
          have HST := Lib.hid hst
          by_cases hz : z = nx
          · subst hz
            have hf := HYES.out ho
            have t1 : ((z : Int) != (z : Int)) = false := by simp
            have HF := Lib.hid hf
            clear hst ho hf
            go_wp2_with fail
            refine (HST.out).mono ?_
            rintro e w3 ⟨rfl, hb3⟩
            simp only [optInt, Option.isSome_some, Option.getD_some]
            go_wp2_with fail
            refine ⟨⟨k + 1, by omega, by go_num, Lib.hid HF.out, hbr.trans (hb3.mono hbr.size)⟩, by simp [intOf]; omega⟩
          · have hf := HNO.out (by rw [ho]; intro e; injection e with e; exact hz e)
            have t1 : ((z : Int) != (nx : Int)) = true := by simp; omega
            have HF := Lib.hid hf
            clear hst ho hf hz
            go_wp2_with fail
            refine (HST.out).mono ?_
            rintro e w3 ⟨rfl, hb3⟩
            simp only [optInt, Option.isSome_some, Option.getD_some]
            go_wp2_with fail
            go_ret
            exact ⟨by rw [HF.out]; rfl, hb1.trans ((hbr.trans (hb3.mono hbr.size)).mono hb1.size)⟩
      · have hbh : x0 = nx := by rw [hnx]; unfold behind; rw [if_neg hlast, hget0]
        rw [hbh] at h00
        subst hBe
        clear hc0 hc1 hx hx0 hget hget0 hbh hnx hbe hyes hno hB1 hvl
        cases ho : stepN net dest x with
        | none =>
          have hf := HNO.out (by rw [ho]; simp)
          rw [ho] at hst
          have HST := Lib.hid hst
          have HF := Lib.hid hf
          clear hst ho hf
          go_wp2_with fail
          refine (HST.out).mono ?_
          rintro e w3 ⟨rfl, hb3⟩
          simp only [Option.isSome_none]
          go_wp2_with fail
          go_ret
          exact ⟨by rw [HF.out]; rfl, hb1.trans ((hbr.trans (hb3.mono hbr.size)).mono hb1.size)⟩
        | some z =>
          rw [ho] at hst
          have HST := Lib.hid hst
          by_cases hz : z = nx
          · subst hz
            have hf := HYES.out ho
            have t1 : ((z : Int) != (z : Int)) = false := by simp
            have HF := Lib.hid hf
            clear hst ho hf
            go_wp2_with fail
            refine (HST.out).mono ?_
            rintro e w3 ⟨rfl, hb3⟩
            simp only [optInt, Option.isSome_some, Option.getD_some]
            go_wp2_with fail
            refine ⟨⟨k + 1, by omega, by go_num, Lib.hid HF.out, hbr.trans (hb3.mono hbr.size)⟩, by simp [intOf]; omega⟩
          · have hf := HNO.out (by rw [ho]; intro e; injection e with e; exact hz e)
            have t1 : ((z : Int) != (nx : Int)) = true := by simp; omega
            have HF := Lib.hid hf
            clear hst ho hf hz
            go_wp2_with fail
            refine (HST.out).mono ?_
            rintro e w3 ⟨rfl, hb3⟩
            simp only [optInt, Option.isSome_some, Option.getD_some]
            go_wp2_with fail
            go_ret
            exact ⟨by rw [HF.out]; rfl, hb1.trans ((hbr.trans (hb3.mono hbr.size)).mono hb1.size)⟩
    · have hyes : traceB net dest l = true := traceB_of (fun i hi => HALL.out i (by omega))
      rw [← HFB.out] at hyes
      have HYES := Lib.hid hyes
      clear hyes
      go_wp2_with fail
      go_ret
      exact ⟨by rw [HYES.out]; rfl, hb1.trans (hbr.mono hb1.size)⟩
end Go.Proofs.YtpjoefekhgmlhaaGreat.Tp

namespace Go.Proofs.YtpjoefekhgmlhaaGreat.Tp
open Go.RowKit Mem

def AllPost (w : World) (ls : List (List Nat)) (e : Ending) (w' : World) : Prop := ∃ R m, e = .returned (.tuple #[.slice R ls.length m, .int .i64 0]) ∧ RowsAt w' R ls ∧ Below w.heap.size w w'
set_option maxHeartbeats 400000 in
theorem all_any (N A : Option Addr) (cN cA : Nat) (net : List (List RuleT)) (l : List Nat) (ps : List PartT) (w : World) (hc : CutsOf net l) (hN : NetAt w N net) (hA : PartsAt w A ps) (hl : l.length ≤ 1000000) (hb : ∀ a ∈ l, a < 4294967296) (hm : Meets ps) :
    Calls Tryz.prog 60 #[.agg #[.slice N net.length cN], .slice A ps.length cA] w (AllPost w (pointsL l ps)) := by
  have hb0 : Below w.heap.size w (w.alloc (.cells #[.slice N net.length cN] 24)) := (Below.refl _ _).alloc (Nat.le_refl _) _
  have hmt := meet_any A cA ps _ (hA.below hb0) hm
  have hpt := fun W (hW : Below w.heap.size w W) => points_any N A cN cA net l ps W hc (hN.below hW) (hA.below hW) hl hb hm.few
  have HMT := Lib.hid hmt
  have HPT := Lib.hid hpt
  have HB0 := Lib.hid hb0
  clear hmt hpt hb0 hc hN hA hm hb
  go_enter Tryz.func60, Tryz.ntmps60
  go_wp2_with fail
  refine (HMT.out).mono ?_
  rintro e w2 ⟨rfl, hb2⟩
  have hx := box_cell w w2 24 #[.slice N net.length cN] hb2 0 _ rfl
  have hb2w := HB0.out.trans (hb2.mono HB0.out.size)
  have HB2 := Lib.hid hb2w
  clear hb2 hb2w HMT HB0
  go_wp2_with fail
  refine (HPT.out _ HB2.out).mono ?_
  rintro e w3 ⟨R, m, rfl, hR, hb3⟩
  go_wp2_with fail
  go_ret2
  exact ⟨R, m, rfl, hR, HB2.out.trans (hb3.mono HB2.out.size)⟩

/-- Each part falls at its points. -/
def partsB (net : List (List RuleT)) (l : List Nat) (ps : List PartT) : Bool := ps.all fun p => fallB net (insideL l p.f p.t) p.ranks
theorem partsB_of {net : List (List RuleT)} {l : List Nat} {ps : List PartT} (h : ∀ i (hi : i < ps.length), fallB net (insideL l ps[i].f ps[i].t) ps[i].ranks = true) : partsB net l ps = true := by
  unfold partsB; rw [List.all_eq_true]
  intro p hp
  obtain ⟨i, hi, rfl⟩ := List.mem_iff_getElem.1 hp
  exact h i hi
theorem partsB_no {net : List (List RuleT)} {l : List Nat} {ps : List PartT} {i : Nat} (hi : i < ps.length) (h : fallB net (insideL l ps[i].f ps[i].t) ps[i].ranks = false) : partsB net l ps = false := by
  cases hf : partsB net l ps with
  | false => rfl
  | true =>
    unfold partsB at hf
    rw [List.all_eq_true] at hf
    rw [hf _ (List.getElem_mem hi)] at h
    cases h
theorem inside_lt {l : List Nat} {lo hi : Nat} (h : ∀ a ∈ l, a < 4294967296) (hlo : lo < 4294967296) : ∀ a ∈ insideL l lo hi, a < 4294967296 := by
  intro a ha
  unfold insideL at ha
  rcases List.mem_cons.1 ha with rfl | ha
  · exact hlo
  · exact h a (List.mem_filter.1 ha).1
theorem inside_few {l : List Nat} {lo hi : Nat} (h : l.length ≤ 900000) : (insideL l lo hi).length ≤ 1000000 := by
  unfold insideL
  have := List.length_filter_le (fun a => decide (lo < a ∧ a ≤ hi)) l
  simp at this ⊢
  omega

set_option maxRecDepth 100000 in
set_option maxHeartbeats 2000000 in
theorem parts_any (N A : Option Addr) (cN cA : Nat) (net : List (List RuleT)) (l : List Nat) (ps : List PartT) (w : World) (hc : CutsOf net l) (hN : NetAt w N net) (h : NetOk net) (hA : PartsAt w A ps) (hl : l.length ≤ 900000) (hb : ∀ a ∈ l, a < 4294967296) (hm : PartsOk net.length ps) :
    Calls Tryz.prog 25 #[.agg #[.slice N net.length cN], .slice A ps.length cA] w (FallPost (partsB net l ps) w) := by
  have hnn := h.nodes
  have hpsl := hm.meets.few
  obtain ⟨fb, hfb⟩ : ∃ fb, fb = partsB net l ps := ⟨_, rfl⟩
  rw [← hfb]
  have hb0 : Below w.heap.size w (w.alloc (.cells #[.slice N net.length cN] 24)) := (Below.refl _ _).alloc (Nat.le_refl _) _
  have hal := all_any N A cN cA net l ps _ hc (hN.below hb0) (hA.below hb0) (by omega) hb hm.meets
  have hst := fun W (hW : Below w.heap.size w W) => steps_any N cN net W (hN.below hW)
  have hpl : (pointsL l ps).length = ps.length := by simp [pointsL]
  rw [show AllPost (w.alloc (.cells #[.slice N net.length cN] 24)) (pointsL l ps) = fun e w' => ∃ R m, e = .returned (.tuple #[.slice R ps.length m, .int .i64 0]) ∧ RowsAt w' R (pointsL l ps) ∧ Below (w.alloc (.cells #[.slice N net.length cN] 24)).heap.size (w.alloc (.cells #[.slice N net.length cN] 24)) w' by unfold AllPost; rw [hpl]] at hal
  have HFB := Lib.hid hfb
  have HB0 := Lib.hid hb0
  have HAL := Lib.hid hal
  have HST := Lib.hid hst
  have HPL := Lib.hid hpl
  have H := Lib.hid h
  have HM := Lib.hid hm
  have HB := Lib.hid hb
  have HA := Lib.hid hA
  clear hfb hb0 hal hst hpl h hm hb hA hN hc
  go_enter Tryz.func25, Tryz.ntmps25
  go_wp2_with fail
  refine (HAL.out).mono ?_
  rintro e w2 ⟨R, m, rfl, hR, hb2⟩
  have hx := box_cell w w2 24 #[.slice N net.length cN] hb2 0 _ rfl
  have hb2w := HB0.out.trans (hb2.mono HB0.out.size)
  have HB2 := Lib.hid hb2w
  clear hb2 hb2w HAL HB0
  go_wp2_with fail
  refine (HST.out _ HB2.out).mono ?_
  rintro e w3 ⟨f, rfl, hf, hb3⟩
  have hR3 := hR.below hb3
  have hb3w := HB2.out.trans (hb3.mono HB2.out.size)
  have hbx : Below w3.heap.size w3 (w3.alloc (.cells #[.int .i64 (net.length : Int), f] 123)) := (Below.refl _ _).alloc (Nat.le_refl _) _
  obtain ⟨g, Nf, cf, rfl, hg, hgc, hNf⟩ := hf
  have hf : StepFn w3 (.func (.func 101) #[] #[.pointer (some ⟨g, 0, none⟩)]) net := ⟨g, Nf, cf, rfl, hg, hgc, hNf⟩
  have hx0 : (w3.alloc (.cells #[.int .i64 (net.length : Int), .func (.func 101) #[] #[.pointer (some ⟨g, 0, none⟩)]] 123)).cell? ⟨w3.heap.size, 0, none⟩ = some (.int .i64 (net.length : Int)) := by rw [cell_of_row _ _ 0 _ _ (0, 0) (heap_alloc_new w3 _)]; rfl
  have hx1 : (w3.alloc (.cells #[.int .i64 (net.length : Int), .func (.func 101) #[] #[.pointer (some ⟨g, 0, none⟩)]] 123)).cell? ⟨w3.heap.size, 1, none⟩ = some (.func (.func 101) #[] #[.pointer (some ⟨g, 0, none⟩)]) := by rw [cell_of_row _ _ 1 _ _ (0, 0) (heap_alloc_new w3 _)]; rfl
  have hR4 := hR3.below hbx
  have hf4 := hf.below hbx
  have hb4 := hb3w.trans (hbx.mono hb3w.size)
  have hgx : w3.heap.size < (w3.alloc (.cells #[.int .i64 (net.length : Int), .func (.func 101) #[] #[.pointer (some ⟨g, 0, none⟩)]] 123)).heap.size := by simp
  obtain ⟨w4, hw4⟩ : ∃ w4, w4 = w3.alloc (.cells #[.int .i64 (net.length : Int), .func (.func 101) #[] #[.pointer (some ⟨g, 0, none⟩)]] 123) := ⟨_, rfl⟩
  rw [← hw4] at hx0 hx1 hR4 hf4 hb4 hgx
  have HW4 := Lib.hid hw4
  have HF4 := Lib.hid hf4
  have HR4 := Lib.hid hR4
  have HB4 := Lib.hid hb4
  have HX0 := Lib.hid hx0
  have HX1 := Lib.hid hx1
  clear hb3 hb3w hbx hg hgc hNf hf hR hR3 hw4 hf4 hR4 hb4 hx0 hx1 HB2 HST
  go_wp2_with fail
  rw [← HW4.out]
  go_loopw [24] (fun i wr => ∃ k : Nat, k ≤ ps.length ∧ i = .int .i64 k ∧ Hid (∀ j (hj : j < ps.length), j < k → fallB net (insideL l ps[j].f ps[j].t) ps[j].ranks = true) ∧ Below w4.heap.size w4 wr) (fun i _ => ps.length - (intOf i).toNat)
  case atStart => exact ⟨0, by omega, rfl, Lib.hid (fun j hj h => absurd h (by omega)), Below.refl _ _⟩
  case round =>
    obtain ⟨k, hk, rfl, HALL, hbr⟩ := hrel
    have hbrw := HB4.out.trans (hbr.mono HB4.out.size)
    by_cases hlt : k < ps.length
    · obtain ⟨b, off, Rr, cR, hAe, hbb, hc0, hc1, hc2, hr, -⟩ := HA.out.at_ hlt
      have hk0 := (hbrw.cell (p := ⟨b, off + k * 3, none⟩) hbb).trans hc0
      have hk1 := (hbrw.cell (p := ⟨b, off + k * 3 + 1, none⟩) hbb).trans hc1
      have hk2 := (hbrw.cell (p := ⟨b, off + k * 3 + 2, none⟩) hbb).trans hc2
      have hy0 := (hbr.cell (p := ⟨w3.heap.size, 0, none⟩) hgx).trans HX0.out
      have hy1 := (hbr.cell (p := ⟨w3.heap.size, 1, none⟩) hgx).trans HX1.out
      obtain ⟨bR, oR, Bp, cp, hRe, hbR, hcR, hlp⟩ := (HR4.out.below hbr).at_ (show k < (pointsL l ps).length by rw [HPL.out]; exact hlt)
      have hmem := List.getElem_mem hlt
      have hpe : (pointsL l ps)[k]'(by rw [HPL.out]; exact hlt) = insideL l ps[k].f ps[k].t := by simp [pointsL]
      simp only [hpe] at hcR hlp
      have hnum := HM.out.meets.num _ hmem
      have hlen := HM.out.len _ hmem
      obtain ⟨p, hp⟩ : ∃ p, p = ps[k] := ⟨_, rfl⟩
      have hfin : ∀ r, fallB net (insideL l p.f p.t) p.ranks = r → (r = true → ∀ j (hj : j < ps.length), j < k + 1 → fallB net (insideL l ps[j].f ps[j].t) ps[j].ranks = true) ∧ (r = false → fb = false) := fun r hq => by
        refine ⟨fun h j hj hjk => ?_, fun h => ?_⟩
        · by_cases e : j = k
          · subst e; rw [← hp, hq, h]
          · exact HALL.out j hj (by omega)
        · rw [HFB.out]; exact partsB_no hlt (by rw [← hp, hq, h])
      rw [← hp] at hk0 hk1 hk2 hcR hlp hnum hlen hr
      have hfa := fun W (hW : Below wr.heap.size wr W) => fall_any (.func (.func 101) #[] #[.pointer (some ⟨g, 0, none⟩)]) Bp Rr cp cR net (insideL l p.f p.t) p.ranks W ((HF4.out.below hbr).below hW) H.out (hlp.below hW) ((hr.below hbrw).below hW) hlen (inside_lt HB.out hnum.1) (inside_few hl)
      rw [hlen] at hk2 hfa
      obtain ⟨L, hL⟩ : ∃ L, L = (insideL l p.f p.t).length := ⟨_, rfl⟩
      rw [← hL] at hcR hfa
      obtain ⟨r, hr0⟩ : ∃ r, r = fallB net (insideL l p.f p.t) p.ranks := ⟨_, rfl⟩
      obtain ⟨hyes, hno⟩ := hfin r hr0.symm
      rw [← hr0] at hfa
      have HFA := Lib.hid hfa
      have HYES := Lib.hid hyes
      have HNO := Lib.hid hno
      have t1 : ((net.length : Int) != (net.length : Int)) = false := by simp
      have hbw3 : w3.heap.size < wr.heap.size := Nat.lt_of_lt_of_le hgx hbr.size
      have hbwb : b < wr.heap.size := Nat.lt_of_lt_of_le hbb hbrw.size
      have HBR := Lib.hid hbr
      have i0 : (0 : Int) ≤ (k : Int) := by omega
      have i1 : (k : Int) < (ps.length : Int) := by omega
      clear hc0 hc1 hc2 hr hlp hnum hlen hmem hpe hp hfin hL hr0 hyes hno hbr hbrw hfa
      subst hAe hRe
      obtain ⟨w5, hw5⟩ : ∃ w5, w5 = wr.alloc (.cells #[.int .u32 (p.f : Int), .int .u32 (p.t : Int), .slice Rr net.length cR] 51) := ⟨_, rfl⟩
      have hal5 : Below wr.heap.size wr w5 := by rw [hw5]; exact (Below.refl _ _).alloc (Nat.le_refl _) _
      have hz2 : w5.cell? ⟨wr.heap.size, 2, none⟩ = some (.slice Rr net.length cR) := by rw [hw5, cell_of_row _ _ 2 _ _ (0, 0) (heap_alloc_new wr _)]; rfl
      have hz0 := (hal5.cell (p := ⟨w3.heap.size, 0, none⟩) hbw3).trans hy0
      have hz1 := (hal5.cell (p := ⟨w3.heap.size, 1, none⟩) hbw3).trans hy1
      have hzR := (hal5.cell (p := ⟨bR, oR + k, none⟩) hbR).trans hcR
      have HW5 := Lib.hid hw5
      have HAL5 := Lib.hid hal5
      clear hw5 hal5
      go_wp2_with fail
      rw [← HW5.out]
      clear hk0 hk1 hk2 hy0 hy1 hcR
      go_still_tail 7, (by kernel_rfl)
      change wpList _ _ _ _ _ w5.drew
      have hd : Below wr.heap.size wr w5.drew := ⟨HAL5.out.os, HAL5.out.tape, HAL5.out.output, HAL5.out.size, HAL5.out.block⟩
      have HD := Lib.hid hd
      clear hz0 hz1 hz2 hzR hd
      generalize w5.drew = w6 at *
      go_wp2_with fail
      refine (HFA.out _ HD.out).mono ?_
      rintro e w7 ⟨rfl, hb7⟩
      have hb7r := HD.out.trans (hb7.mono HD.out.size)
      have hb7w := HBR.out.trans (hb7r.mono HBR.out.size)
      have HB7 := Lib.hid hb7w
      clear hb7 hb7r hb7w
      cases r with
      | true =>
        have hy := HYES.out rfl
        have HY := Lib.hid hy
        clear hy
        simp only [if_true]
        go_wp2_with fail
        refine ⟨⟨k + 1, by omega, by go_num, Lib.hid HY.out, HB7.out⟩, by simp [intOf]; omega⟩
      | false =>
        have hn := HNO.out rfl
        have HN := Lib.hid hn
        clear hn
        simp only [Bool.false_eq_true, if_false]
        go_wp2_with fail
        go_ret
        exact ⟨by rw [HN.out]; rfl, HB4.out.trans (HB7.out.mono HB4.out.size)⟩
    · have hyes : partsB net l ps = true := partsB_of (fun j hj => HALL.out j hj (by omega))
      rw [← HFB.out] at hyes
      have HYES := Lib.hid hyes
      clear hyes
      go_wp2_with fail
      go_ret
      exact ⟨by rw [HYES.out]; rfl, hbrw⟩
end Go.Proofs.YtpjoefekhgmlhaaGreat.Tp
