/- PLAIN: the ring of N nodes, and the chain that it becomes. Conditions: as said. · CONTRACT of slices.reverseRangeOrdered at uint32: the library's own text reverses. Conditions: bounds. · CONTRACT of slices.siftDownOrdered at uint32. Conditions: bounds. · CONTRACT of slices.heapSortOrdered at uint32. Conditions: bounds. -/
import Derived.Test.YtpjoefekhgmlhaaGreatMb34
import Derived.Test.YtpjoefekhgmlhaaGreatMb36
import Derived.Test.YtpjoefekhgmlhaaGreatMb32
import Derived.Test.YtpjoefekhgmlhaaGreatMb09
import Derived.Sort.WalkB12
import Derived.Sort.WalkB2
import Derived.Sort.WalkB3
namespace Go.Proofs.YtpjoefekhgmlhaaGreat.Tp
open Go.RowKit Mem

/-- What analyze.Net answers, of a network whose cuts are few. -/
theorem anetOf {net : List (List RuleT)} {L : List Nat} (h : NetOk net) (hpos : 0 < net.length) (hL : cutsL net = L) (hf : L.length ≤ 12) : AnetOf net (anCert (atomsTo net L)) := fun N cN w hN => by
  subst hL
  have hc := cuts_ok h
  exact anet_any N cN net (cutsL net) w hN h hpos (cutsOf_few 12 So.sorts_few h hf) (by omega) hc.2.1 (sok h hpos hc.1 hc.2.1 (by omega))
theorem shown_true (w : World) : Calls Tryz.prog 6 #[] w fun e w' => e = .returned (.bool true) ∧ Below w.heap.size w w' :=
  shown_any w (by have := anetOf netS1_ok (by decide) cutsS1 (by decide); rwa [certS1] at this) (by have := anetOf netS2_ok (by decide) cutsS2 (by decide); rwa [certS2] at this)
/-- Node i sends all to node i + 1, the last one to the first. -/
def ringR (n i : Nat) : RuleT := ⟨0, 0, 1, (i + 1) % n⟩
def ringNet (n : Nat) : List (List RuleT) := (List.range n).map fun i => [ringR n i]
/-- .. but the last one delivers. -/
def lineNet (n : Nat) : List (List RuleT) := (ringNet n).set (n - 1) [⟨0, 0, 2, 0⟩]
theorem ring_len (n : Nat) : (ringNet n).length = n := by simp [ringNet]
theorem line_len (n : Nat) : (lineNet n).length = n := by simp [lineNet, ring_len]
theorem ring_at {n i : Nat} (hi : i < (ringNet n).length) : (ringNet n)[i] = [ringR n i] := by simp [ringNet]
theorem line_at {n i : Nat} (hi : i < (lineNet n).length) : (lineNet n)[i] = if i = n - 1 then [⟨0, 0, 2, 0⟩] else [ringR n i] := by
  have hn := line_len n
  simp only [lineNet, List.getElem_set]
  by_cases e : i = n - 1
  · rw [if_pos e.symm, if_pos e]
  · rw [if_neg (fun h => e h.symm), if_neg e, ring_at]
theorem one_mem {net : List (List RuleT)} {P : List RuleT → Prop} (h : ∀ i (hi : i < net.length), P net[i]) : ∀ l ∈ net, P l := fun l hl => by
  obtain ⟨i, hi, rfl⟩ := List.getElem_of_mem hl
  exact h i hi
theorem sum_ones {net : List (List RuleT)} (h : ∀ l ∈ net, l.length = 1) : (net.map List.length).sum = net.length := by
  induction net with
  | nil => rfl
  | cons l net ih =>
    rw [List.map_cons, List.sum_cons, h l (by simp), ih (fun x hx => h x (by simp [hx])), List.length_cons]; omega
theorem ring_one (n : Nat) : ∀ l ∈ ringNet n, l.length = 1 := one_mem fun i hi => by rw [ring_at hi]; rfl
theorem line_one (n : Nat) : ∀ l ∈ lineNet n, l.length = 1 := one_mem fun i hi => by rw [line_at hi]; split <;> rfl
theorem ring_ok {n : Nat} (h0 : 0 < n) (hn : n ≤ 256) : NetOk (ringNet n) := by
  refine ⟨by rw [ring_len]; exact hn, by rw [sum_ones (ring_one n), ring_len]; omega, one_mem fun i hi => ?_⟩
  rw [ring_at hi, ring_len]
  refine table_one ⟨show (0 : Nat) < 4294967296 by omega, show (0 : Nat) ≤ 32 by omega, by simp [ringR], .inl ⟨rfl, Nat.mod_lt _ h0⟩⟩
theorem line_ok {n : Nat} (h0 : 0 < n) (hn : n ≤ 256) : NetOk (lineNet n) := by
  refine ⟨by rw [line_len]; exact hn, by rw [sum_ones (line_one n), line_len]; omega, one_mem fun i hi => ?_⟩
  rw [line_at hi, line_len]
  split
  · exact table_one ⟨show (0 : Nat) < 4294967296 by omega, show (0 : Nat) ≤ 32 by omega, by simp, .inr ⟨.inl rfl, rfl⟩⟩
  · refine table_one ⟨show (0 : Nat) < 4294967296 by omega, show (0 : Nat) ≤ 32 by omega, by simp [ringR], .inl ⟨rfl, Nat.mod_lt _ h0⟩⟩
theorem ded_zero : ∀ {l : List Nat}, (∀ x ∈ l, x = 0) → 0 < l.length → dedN l = [0]
  | [x], h, _ => by
    have := h x (by simp)
    subst this
    simp [dedN]
  | x :: y :: l, h, _ => by
    have hx := h x (by simp)
    subst hx
    have ih := ded_zero (l := y :: l) (fun z hz => h z (by simp [hz])) (by simp)
    unfold dedN
    rw [ih]
    simp
theorem pts_zero {net : List (List RuleT)} (h : ∀ l ∈ net, ∀ r ∈ l, r.a = 0 ∧ r.len = 0) : ∀ x ∈ ptsN net, x = 0 := by
  intro x hx
  rcases List.mem_cons.1 hx with rfl | h1
  · rfl
  · obtain ⟨t, ht, h2⟩ := List.mem_flatMap.1 h1
    obtain ⟨r, hr, h3⟩ := List.mem_flatMap.1 h2
    obtain ⟨ha, hl⟩ := h t ht r hr
    unfold ptsR at h3
    rw [ha, hl] at h3
    have e1 : lowN 0 0 = 0 := by decide
    have e2 : highN 0 0 = 4294967295 := by decide
    rw [e1, e2] at h3
    simpa using h3
theorem cuts_zero {net : List (List RuleT)} (h : ∀ l ∈ net, ∀ r ∈ l, r.a = 0 ∧ r.len = 0) : cutsL net = [0] :=
  cuts_is (ded_zero (pts_zero h) (by simp [ptsN])) (by decide)
theorem ring_cuts (n : Nat) : cutsL (ringNet n) = [0] := cuts_zero (one_mem fun i hi => by rw [ring_at hi]; intro r hr; simp at hr; subst hr; exact ⟨rfl, rfl⟩)
theorem line_cuts (n : Nat) : cutsL (lineNet n) = [0] := cuts_zero (one_mem fun i hi => by rw [line_at hi]; split <;> (intro r hr; simp at hr; subst hr; exact ⟨rfl, rfl⟩))
/-! ### where it goes -/
theorem find_zero {r : RuleT} {a : Nat} (hr : r.a = 0 ∧ r.len = 0) (ha : a < 4294967296) : findL [r] a = some r := by
  have hh : holdsB r.a r.len a = true := by
    rw [hr.1, hr.2]
    unfold holdsB
    rw [decide_eq_true_eq]
    have : wid 0 = 4294967296 := by decide
    rw [this, Nat.div_eq_of_lt ha]
  show pickR a none r = some r
  unfold pickR
  rw [if_pos hh]
def ringV (n : Nat) : List Int := (List.range n).map fun i => (((i + 1) % n : Nat) : Int)
def lineV (n : Nat) : List Int := (List.range n).map fun i => if i = n - 1 then -1 else ((i + 1 : Nat) : Int)
theorem ring_vec (n a : Nat) (ha : a < 4294967296) : vecL (ringNet n) a = ringV n := by
  unfold vecL ringNet ringV
  rw [List.map_map]
  refine List.map_congr_left fun i _ => ?_
  show goesI [ringR n i] a = _
  unfold goesI nextL
  rw [find_zero ⟨rfl, rfl⟩ ha]
  simp [ringR]
theorem line_vec {n : Nat} (h0 : 0 < n) (a : Nat) (ha : a < 4294967296) : vecL (lineNet n) a = lineV n := by
  refine List.ext_getElem (by simp [vecL_len, line_len, lineV]) fun i h1 h2 => ?_
  have hi : i < n := by simpa [vecL_len, line_len] using h1
  have hi2 : i < (lineNet n).length := by rw [line_len]; exact hi
  have e1 : (vecL (lineNet n) a)[i] = goesI (lineNet n)[i] a := by simp [vecL]
  rw [e1, line_at]
  have e2 : (lineV n)[i] = if i = n - 1 then -1 else ((i + 1 : Nat) : Int) := by simp [lineV]
  rw [e2]
  by_cases e : i = n - 1
  · rw [if_pos e, if_pos e]
    unfold goesI nextL
    rw [find_zero ⟨rfl, rfl⟩ ha]
    simp
  · rw [if_neg e, if_neg e]
    unfold goesI nextL
    rw [find_zero ⟨rfl, rfl⟩ ha]
    simp only [ringR, if_true]
    rw [Nat.mod_eq_of_lt (by omega)]
theorem ringV_nxt {n i : Nat} (hi : i < n) : Gr.nxt (ringV n) i = some ((i + 1) % n) := by
  unfold Gr.nxt
  have h1 : (ringV n)[i]? = some (((i + 1) % n : Nat) : Int) := by simp [ringV, hi]
  rw [h1]
  simp only
  rw [if_neg (by omega), Int.toNat_natCast]
theorem lineV_nxt {n i : Nat} (hi : i < n) : Gr.nxt (lineV n) i = if i = n - 1 then none else some (i + 1) := by
  unfold Gr.nxt
  have h1 : (lineV n)[i]? = some (if i = n - 1 then -1 else ((i + 1 : Nat) : Int)) := by simp [lineV, hi]
  rw [h1]
  simp only
  by_cases e : i = n - 1
  · rw [if_pos e, if_pos e]; rfl
  · rw [if_neg e, if_neg e, if_neg (by omega)]; simp
theorem ringV_iter {n : Nat} (h0 : 0 < n) : ∀ k, Gr.iter (ringV n) k 0 = some (k % n)
  | 0 => by simp [Gr.iter]
  | k + 1 => by
    rw [iter_last (ringV_iter h0 k), ringV_nxt (Nat.mod_lt _ h0)]
    rw [Nat.mod_add_mod]
theorem ring_step {n a i : Nat} (ha : a < 4294967296) (hi : i < n) : stepN (ringNet n) a i = some ((i + 1) % n) := by
  rw [← nxt_step (by rw [ring_len]; exact hi), ring_vec n a ha, ringV_nxt hi]
theorem line_step {n a i : Nat} (ha : a < 4294967296) (hi : i < n) : stepN (lineNet n) a i = if i = n - 1 then none else some (i + 1) := by
  rw [← nxt_step (by rw [line_len]; exact hi), line_vec (by omega) a ha, lineV_nxt hi]
theorem ring_round {n a : Nat} (h0 : 0 < n) (ha : a < 4294967296) : roundB (ringNet n) a = true := by
  refine round_true (u := 0) (k := n - 1) (by rw [ring_len]; exact h0) (by rw [ring_len]; omega) ?_
  rw [ring_vec n a ha, ringV_iter h0, show n - 1 + 1 = n by omega, Nat.mod_self]
theorem ringV_good {n : Nat} (h0 : 0 < n) : Gr.goodB (ringV n) = true := by
  rw [Gr.good_iff]
  intro x hx
  obtain ⟨i, hi, rfl⟩ := List.mem_map.1 hx
  have := Nat.mod_lt (i + 1) h0
  have hl : (ringV n).length = n := by simp [ringV]
  rw [hl]
  omega
theorem lineV_good {n : Nat} (h0 : 0 < n) : Gr.goodB (lineV n) = true := by
  rw [Gr.good_iff]
  intro x hx
  obtain ⟨i, hi, rfl⟩ := List.mem_map.1 hx
  rw [List.mem_range] at hi
  have hl : (lineV n).length = n := by simp [lineV]
  rw [hl]
  split <;> omega
theorem ring_loop {n : Nat} (h0 : 0 < n) : Gr.loopOf (ringV n) = List.range n := by
  have hl : (ringV n).length = n := by simp [ringV]
  have hg := ringV_good h0
  have hu : 0 < (ringV n).length := by omega
  have hc : Gr.Cyc (ringV n) 0 := ⟨n, h0, by rw [ringV_iter h0, Nat.mod_self]⟩
  have hp : Gr.Per (ringV n) 0 n := ⟨h0, by rw [ringV_iter h0, Nat.mod_self], fun i h1 h2 e => by
    rw [ringV_iter h0, Nat.mod_eq_of_lt h2] at e
    injection e with e; omega⟩
  rw [Gr.loopOf_some hg hu hc (fun x hx => absurd hx (by omega)), Gr.ringOf_eq hg hu hc hp (by omega)]
  refine List.ext_getElem (by simp [Gr.ringTo]) fun i h1 h2 => ?_
  have hi : i < n := by simpa using h2
  simp only [Gr.ringTo, List.getElem_map, List.getElem_range]
  unfold Gr.at_
  rw [ringV_iter h0, Nat.mod_eq_of_lt hi]; rfl
theorem line_rank {n : Nat} : ∀ (k : Nat), k < n → Gr.IsRank (lineV n) k (n - 1 - k)
  | 0, h => ⟨by simp [lineV]; omega, by rw [lineV_nxt (by omega), if_pos (by omega)]⟩
  | k + 1, h => ⟨n - 1 - k, by rw [lineV_nxt (by omega), if_neg (by omega)]; congr 1; omega, line_rank k (by omega)⟩
theorem line_free {n : Nat} (h0 : 0 < n) : hasLoop (lineV n) = false ∧ ranksN (lineV n) = (List.range n).map fun i => n - 1 - i := by
  have hl : (lineV n).length = n := by simp [lineV]
  have hg := lineV_good h0
  have hr : ∀ u, u < n → Gr.IsRank (lineV n) (n - 1 - u) u := fun u hu => by
    have := line_rank (n := n) (n - 1 - u) (by omega)
    rwa [show n - 1 - (n - 1 - u) = u by omega] at this
  refine ⟨?_, ?_⟩
  · have ha : Gr.allRanked (lineV n) = true := (Gr.allRanked_iff hg).2 fun u hu => ⟨_, hr u (by omega)⟩
    have := Gr.loopOf_none hg ((Gr.ranked_iff_no_cyc hg).1 ha)
    unfold hasLoop
    rw [this]; rfl
  · unfold ranksN
    rw [hl]
    refine List.map_congr_left fun u hu => ?_
    rw [List.mem_range] at hu
    unfold Gr.rankOf
    rw [Gr.isRank_rk (hr u hu) (by omega)]; rfl
def ringC (n : Nat) : CertT := ⟨2, [], 0, List.range n⟩
def lineC (n : Nat) : CertT := ⟨1, [⟨0, 4294967295, (List.range n).map fun i => n - 1 - i⟩], 0, []⟩
theorem ring_cert {n : Nat} (h0 : 0 < n) : anCert (atomsTo (ringNet n) [0]) = ringC n := by
  have e : atomsTo (ringNet n) [0] = ⟨[0], [0], [ringV n]⟩ := by
    simp [atomsTo, atStep, ring_vec n 0 (by omega)]
  rw [e]
  have hlo := ring_loop h0
  have hh : hasLoop (ringV n) = true := by unfold hasLoop; rw [hlo]; simpa using h0
  unfold anCert
  simp [List.findIdx?_cons, hh, hlo, ringC]
theorem line_cert {n : Nat} (h0 : 0 < n) : anCert (atomsTo (lineNet n) [0]) = lineC n := by
  have e : atomsTo (lineNet n) [0] = ⟨[0], [0], [lineV n]⟩ := by
    simp [atomsTo, atStep, line_vec h0 0 (by omega)]
  rw [e]
  obtain ⟨h1, h2⟩ := line_free h0
  unfold anCert
  simp [List.findIdx?_cons, h1, lineC, partsOf, partOf, cutHi, h2]
theorem ring_certOk {n : Nat} (h0 : 0 < n) (hn : n ≤ 256) : CertOk n (ringC n) := by
  have := cert_ok (ring_ok h0 hn) (by rw [ring_len]; exact h0) (l := [0]) (by simp) (by simp) (by simp) ⟨by simp, rfl⟩
  rwa [ring_cert h0, ring_len] at this
theorem line_certOk {n : Nat} (h0 : 0 < n) (hn : n ≤ 256) : CertOk n (lineC n) := by
  have := cert_ok (line_ok h0 hn) (by rw [line_len]; exact h0) (l := [0]) (by simp) (by simp) (by simp) ⟨by simp, rfl⟩
  rwa [line_cert h0, line_len] at this
theorem range_getD {n i : Nat} (hi : i < n) : (List.range n).getD i 0 = i := by simp [List.getD, hi]
/-- The ring's own certificate holds. -/
theorem ring_ans {n : Nat} (h0 : 0 < n) (hn : n ≤ 256) : ansT (ringNet n) [0] n (ringC n) = (2, 0) := by
  unfold ansT
  rw [if_pos (ring_len n).symm]
  unfold ansN
  rw [ring_len, if_pos (cmayE_self (ring_certOk h0 hn)), if_neg (show ¬ (ringC n).verdict = 1 by show ¬ (2 : Nat) = 1; omega), if_pos]
  refine traceB_of fun i hi => ?_
  have hi' : i < n := by simpa [ringC] using hi
  show stepN (ringNet n) 0 ((List.range n).getD i 0) = some (behind (List.range n) i)
  rw [range_getD hi', ring_step (by omega) hi']
  unfold behind
  rw [List.length_range]
  by_cases e : i + 1 < n
  · rw [if_pos e, range_getD e, Nat.mod_eq_of_lt e]
  · rw [if_neg e, range_getD h0, show i + 1 = n by omega, Nat.mod_self]
/-- It is no trace of the chain. -/
theorem line_ring_ans {n : Nat} (h0 : 0 < n) (hn : n ≤ 256) : ansN (lineNet n) [0] n (ringC n) = (0, 17) := by
  unfold ansN
  rw [line_len, if_pos (cmayE_self (ring_certOk h0 hn)), if_neg (show ¬ (ringC n).verdict = 1 by show ¬ (2 : Nat) = 1; omega), if_neg]
  intro h
  unfold traceB at h
  rw [List.all_eq_true] at h
  have := h (n - 1) (by simp [ringC]; omega)
  have e1 : (ringC n).trace.getD (n - 1) 0 = n - 1 := range_getD (by omega)
  rw [e1, show (ringC n).dest = 0 from rfl, line_step (by omega) (by omega), if_pos rfl] at this
  simp at this
/-- The chain's certificate holds. -/
theorem line_ans {n : Nat} (h0 : 0 < n) (hn : n ≤ 256) : ansN (lineNet n) [0] n (lineC n) = (1, 0) := by
  unfold ansN
  rw [line_len, if_pos (cmayE_self (line_certOk h0 hn)), if_pos (show (lineC n).verdict = 1 from rfl), if_pos]
  have hin : insideL [0] 0 4294967295 = [0] := by decide
  show partsB (lineNet n) [0] [⟨0, 4294967295, (List.range n).map fun i => n - 1 - i⟩] = true
  refine partsB_of fun i hi => ?_
  have : i = 0 := by simp at hi; omega
  subst this
  show fallB (lineNet n) (insideL [0] 0 4294967295) ((List.range n).map fun i => n - 1 - i) = true
  rw [hin]
  refine fallB_of fun i hi => ?_
  have : i = 0 := by simp at hi; omega
  subst this
  refine passA_of fun v hv => ?_
  rw [line_len] at hv
  show passV (lineNet n) _ 0 v = true
  unfold passV
  rw [line_step (by omega) hv]
  have hg : ∀ u, u < n → ((List.range n).map fun i => n - 1 - i).getD u 0 = n - 1 - u := fun u hu => by simp [List.getD, hu]
  by_cases e : v = n - 1
  · rw [if_pos e]
  · rw [if_neg e]
    simp only
    rw [hg v hv, hg (v + 1) (by omega), decide_eq_true_eq]
    omega
theorem ring_anet {n : Nat} (h0 : 0 < n) (hn : n ≤ 256) : AnetOf (ringNet n) (ringC n) := by
  have := anetOf (ring_ok h0 hn) (by rw [ring_len]; exact h0) (ring_cuts n) (by decide)
  rwa [ring_cert h0] at this
theorem line_anet {n : Nat} (h0 : 0 < n) (hn : n ≤ 256) : AnetOf (lineNet n) (lineC n) := by
  have := anetOf (line_ok h0 hn) (by rw [line_len]; exact h0) (line_cuts n) (by decide)
  rwa [line_cert h0] at this
theorem ring_cutsOf {n : Nat} (h0 : 0 < n) (hn : n ≤ 256) : CutsOf (ringNet n) [0] := by
  have := cutsOf_few 12 So.sorts_few (ring_ok h0 hn) (by rw [ring_cuts]; decide)
  rwa [ring_cuts] at this
theorem line_cutsOf {n : Nat} (h0 : 0 < n) (hn : n ≤ 256) : CutsOf (lineNet n) [0] := by
  have := cutsOf_few 12 So.sorts_few (line_ok h0 hn) (by rw [line_cuts]; decide)
  rwa [line_cuts] at this
end Go.Proofs.YtpjoefekhgmlhaaGreat.Tp

namespace Go.Proofs.YtpjoefekhgmlhaaGreat.So
open Go.RowKit Go.Sort Go.Proofs
set_option maxHeartbeats 1600000 in
set_option maxRecDepth 1000000 in
theorem reverseRange_u (blk off cap : Nat) (d : Array Int) (a b : Nat) (w : World) (hH : Holds encU w blk off d) (hab : a ≤ b) (hb : b ≤ d.size) (hsz : d.size < 4611686018427387904) :
    Calls Tryz.prog 148 #[.slice (some ⟨blk, off, none⟩) d.size cap, .int .i64 a, .int .i64 b] w fun e w' => e = .returned (.tuple #[]) ∧ ∃ n, w' = putRow encU (Go.Sort.ahead w n) blk off (reverseRange d a b) := by
  go_enter Tryz.func148, Tryz.ntmps148
  go_wp2
  go_loopg [6, 7] (b - a) (fun k s6 s7 wr => ∃ (i jn : Nat) (jz : Int) (dk : Array Int) (n : Nat), s6 = .int .i64 i ∧ s7 = .int .i64 jz ∧ ((i : Int) < jz → jz = jn ∧ jn < d.size) ∧ (¬ (i : Int) < jz → ¬ i < jn) ∧ jn - i ≤ k ∧
    dk.size = d.size ∧ wr = putRow encU (Go.Sort.ahead w n) blk off dk ∧ reverseLoop i jn dk = reverseLoop a (b - 1) d)
  case atStart => exact ⟨a, b - 1, (b : Int) - 1, d, 0, rfl, rfl, fun h => ⟨by omega, by omega⟩, fun h => by omega, by omega, rfl, (putRow_self encU w blk off d hH).symm, rfl⟩
  case round =>
    obtain ⟨i, jn, jz, dk, n, rfl, rfl, h1, h2, hk, hds, hwr, heq⟩ := hrel
    by_cases hlt : (i : Int) < jz
    · obtain ⟨rfl, hjn⟩ := h1 hlt
      have hij : i < jn := by omega
      have hHk : Holds encU wr blk off dk := by rw [hwr]; exact holds_putRow encU _ blk off d dk (holds_ahead encU w n blk off d hH) hds
      obtain ⟨ci, fi⟩ := hHk i (by omega)
      obtain ⟨cj, fj⟩ := hHk jn (by omega)
      have A : Aside (wr = putRow encU (Go.Sort.ahead w n) blk off dk) := hwr
      clear hwr hHk hH h1 h2
      go_wp2_with fail
      go_region
      go_wp2
      go_roundg (jn - 1 - (i + 1))
      case measure => omega
      case rel =>
        rw [reverseLoop, if_pos hij] at heq
        exact ⟨i + 1, jn - 1, (jn : Int) - 1, swp dk i jn, n + 1, by simp, rfl, fun h => ⟨by omega, by omega⟩, fun h => by omega, Nat.le_refl _, by rw [size_swp]; exact hds,
          swap_world encU (by omega) (by omega) A.out (by simp [encU, getElem!_pos, show jn < dk.size by omega]) rfl, heq⟩
    · have hnot := h2 hlt
      go_wp2
      go_end0
      refine ⟨rfl, n, ?_⟩
      rw [reverseLoop, if_neg hnot] at heq
      rw [reverseRange, ← heq]
end Go.Proofs.YtpjoefekhgmlhaaGreat.So

namespace Go.Proofs.YtpjoefekhgmlhaaGreat.So
open Go.RowKit Go.Sort Go.Proofs
set_option maxHeartbeats 3200000 in
set_option maxRecDepth 1000000 in
theorem siftDown_u (blk off len cap : Nat) (d : Array Int) (hlen : d.size = len) (lo hi first : Nat) (w : World) (hH : Holds encU w blk off d) (hlo : lo ≤ hi) (hb : first + hi ≤ d.size) (hsz : d.size < 4611686018427387904) :
    Calls Tryz.prog 158 #[.slice (some ⟨blk, off, none⟩) len cap, .int .i64 lo, .int .i64 hi, .int .i64 first] w fun e w' => e = .returned (.tuple #[]) ∧ ∃ n, w' = putRow encU (Go.Sort.ahead w n) blk off (siftDown ltInt hi first lo d) := by
  subst hlen
  go_enter Tryz.func158, Tryz.ntmps158
  go_wp2
  go_loopg [8] (hi - lo) (fun k s8 wr => ∃ (root : Nat) (dk : Array Int) (n : Nat), s8 = .int .i64 root ∧ root ≤ hi ∧ hi - root ≤ k ∧ dk.size = d.size ∧ wr = putRow encU (Go.Sort.ahead w n) blk off dk ∧ siftDown ltInt hi first root dk = siftDown ltInt hi first lo d)
  case atStart => exact ⟨lo, d, 0, rfl, hlo, Nat.le_refl _, rfl, (putRow_self encU w blk off d hH).symm, rfl⟩
  case round =>
    obtain ⟨root, dk, n, rfl, hr, hk, hds, hwr, heq⟩ := hrel
    have hHk : Holds encU wr blk off dk := by rw [hwr]; exact holds_putRow encU _ blk off d dk (holds_ahead encU w n blk off d hH) hds
    have hcw : ∀ t, t < d.size → wr.cell? ⟨blk, off + t, none⟩ = some (.int .u32 dk[t]!) := fun t ht => (hHk t (by omega)).1
    have hfw : ∀ t, t < d.size → wr.frozen? ⟨blk, off + t, none⟩ = false := fun t ht => (hHk t (by omega)).2
    have A : Aside (wr = putRow encU (Go.Sort.ahead w n) blk off dk) := hwr
    clear hwr hH hHk
    by_cases h0 : hi ≤ 2 * root + 1
    ·
      have h0z : (hi : Int) ≤ 2 * (root : Int) + 1 := by omega
      go_wp2
      go_end0
      refine ⟨rfl, n, ?_⟩
      rw [A.out, ← heq, sd_end ltInt dk h0]
    ·
      have h0z : ¬ ((hi : Int) ≤ 2 * (root : Int) + 1) := by omega
      by_cases h1 : 2 * root + 2 < hi
      · have h1z : 2 * (root : Int) + 1 + 1 < (hi : Int) := by omega
        go_wp2_with fail
        go_big_quiet (first | (go_at_call 150; refine Calls.quiet_of_same (less32 _ _ _)))
        go_wp2_with fail
        ·
          have hL : ltInt dk[first + 2 * root + 1]! dk[first + 2 * root + 2]! = true := by assumption
          revert nq; intro nq1
          have hcw2 : ∀ t, t < d.size → (wr.drewN nq1).cell? ⟨blk, off + t, none⟩ = some (.int .u32 dk[t]!) := hcw
          have hfw2 : ∀ t, t < d.size → (wr.drewN nq1).frozen? ⟨blk, off + t, none⟩ = false := hfw
          have A2 : Aside (wr.drewN nq1 = putRow encU (Go.Sort.ahead w (n + nq1)) blk off dk) := drewN_world encU A.out nq1
          clear hcw hfw A
          generalize wr.drewN nq1 = wr2 at hcw2 hfw2 A2 ⊢
          go_big_quiet (first | (go_at_call 150; refine Calls.quiet_of_same (less32 _ _ _)))
          go_wp2_with fail
          ·
            have hS : ltInt dk[first + root]! dk[first + 2 * root + 2]! = false := by
              have : (!ltInt dk[first + root]! dk[first + 2 * root + 2]!) = true := by assumption
              simpa using this
            (try simp only [Exit.inBlock, Exit.then]); refine bodyPost_ret (results_none rfl _ _ _) rfl ?_
            refine ⟨rfl, n + nq1 + nq, ?_⟩
            rw [drewN_world encU A2.out nq, ← heq, sd_right_stop ltInt dk h1 hL hS]
          ·
            have hG : ltInt dk[first + root]! dk[first + 2 * root + 2]! = true := by
              have : (!ltInt dk[first + root]! dk[first + 2 * root + 2]!) = false := by assumption
              simpa using this
            have hcw3 : ∀ t, t < d.size → (wr2.drewN nq).cell? ⟨blk, off + t, none⟩ = some (.int .u32 dk[t]!) := hcw2
            have hfw3 : ∀ t, t < d.size → (wr2.drewN nq).frozen? ⟨blk, off + t, none⟩ = false := hfw2
            have A3 : Aside (wr2.drewN nq = putRow encU (Go.Sort.ahead w (n + nq1 + nq)) blk off dk) := drewN_world encU A2.out nq
            clear hcw2 hfw2 A2
            generalize wr2.drewN nq = wr3 at hcw3 hfw3 A3 ⊢
            go_region
            go_wp2
            go_roundg (hi - (2 * root + 2))
            case measure => omega
            case rel =>
              refine ⟨2 * root + 2, swp dk (first + root) (first + (2 * root + 1 + 1)), n + nq1 + nq + 1, by simp <;> omega, by omega, Nat.le_refl _, by rw [size_swp]; exact hds, swap_world encU (by omega) (by omega) A3.out rfl rfl, ?_⟩
              rw [← heq, sd_right_go ltInt dk h1 hL hG]
        ·
          have hL : ltInt dk[first + 2 * root + 1]! dk[first + 2 * root + 2]! = false := by assumption
          revert nq; intro nq1
          have hcw2 : ∀ t, t < d.size → (wr.drewN nq1).cell? ⟨blk, off + t, none⟩ = some (.int .u32 dk[t]!) := hcw
          have hfw2 : ∀ t, t < d.size → (wr.drewN nq1).frozen? ⟨blk, off + t, none⟩ = false := hfw
          have A2 : Aside (wr.drewN nq1 = putRow encU (Go.Sort.ahead w (n + nq1)) blk off dk) := drewN_world encU A.out nq1
          clear hcw hfw A
          generalize wr.drewN nq1 = wr2 at hcw2 hfw2 A2 ⊢
          go_big_quiet (first | (go_at_call 150; refine Calls.quiet_of_same (less32 _ _ _)))
          go_wp2_with fail
          ·
            have hS : ltInt dk[first + root]! dk[first + 2 * root + 1]! = false := by
              have : (!ltInt dk[first + root]! dk[first + 2 * root + 1]!) = true := by assumption
              simpa using this
            (try simp only [Exit.inBlock, Exit.then]); refine bodyPost_ret (results_none rfl _ _ _) rfl ?_
            refine ⟨rfl, n + nq1 + nq, ?_⟩
            rw [drewN_world encU A2.out nq, ← heq, sd_left_stop ltInt dk (by omega) (fun _ => hL) hS]
          ·
            have hG : ltInt dk[first + root]! dk[first + 2 * root + 1]! = true := by
              have : (!ltInt dk[first + root]! dk[first + 2 * root + 1]!) = false := by assumption
              simpa using this
            have hcw3 : ∀ t, t < d.size → (wr2.drewN nq).cell? ⟨blk, off + t, none⟩ = some (.int .u32 dk[t]!) := hcw2
            have hfw3 : ∀ t, t < d.size → (wr2.drewN nq).frozen? ⟨blk, off + t, none⟩ = false := hfw2
            have A3 : Aside (wr2.drewN nq = putRow encU (Go.Sort.ahead w (n + nq1 + nq)) blk off dk) := drewN_world encU A2.out nq
            clear hcw2 hfw2 A2
            generalize wr2.drewN nq = wr3 at hcw3 hfw3 A3 ⊢
            go_region
            go_wp2
            go_roundg (hi - (2 * root + 1))
            case measure => omega
            case rel =>
              refine ⟨2 * root + 1, swp dk (first + root) (first + (2 * root + 1)), n + nq1 + nq + 1, by simp <;> omega, by omega, Nat.le_refl _, by rw [size_swp]; exact hds, swap_world encU (by omega) (by omega) A3.out rfl rfl, ?_⟩
              rw [← heq, sd_left_go ltInt dk (by omega) (fun _ => hL) hG]
      ·
        have h1z : decide (2 * (root : Int) + 1 + 1 < (hi : Int)) = false := decide_eq_false (by omega)
        go_wp2_with fail
        go_big_quiet (first | (go_at_call 150; refine Calls.quiet_of_same (less32 _ _ _)))
        go_wp2_with fail
        revert nq; intro nq1
        have hcw2 : ∀ t, t < d.size → (wr.drewN nq1).cell? ⟨blk, off + t, none⟩ = some (.int .u32 dk[t]!) := hcw
        have hfw2 : ∀ t, t < d.size → (wr.drewN nq1).frozen? ⟨blk, off + t, none⟩ = false := hfw
        have A2 : Aside (wr.drewN nq1 = putRow encU (Go.Sort.ahead w (n + nq1)) blk off dk) := drewN_world encU A.out nq1
        clear hcw hfw A
        generalize wr.drewN nq1 = wr2 at hcw2 hfw2 A2 ⊢
        go_big_quiet (first | (go_at_call 150; refine Calls.quiet_of_same (less32 _ _ _)))
        go_wp2_with fail
        ·
          have hS : ltInt dk[first + root]! dk[first + 2 * root + 1]! = false := by
            have : (!ltInt dk[first + root]! dk[first + 2 * root + 1]!) = true := by assumption
            simpa using this
          (try simp only [Exit.inBlock, Exit.then]); refine bodyPost_ret (results_none rfl _ _ _) rfl ?_
          refine ⟨rfl, n + nq1 + nq, ?_⟩
          rw [drewN_world encU A2.out nq, ← heq, sd_left_stop ltInt dk (by omega) (fun h => absurd h h1) hS]
        ·
          have hG : ltInt dk[first + root]! dk[first + 2 * root + 1]! = true := by
            have : (!ltInt dk[first + root]! dk[first + 2 * root + 1]!) = false := by assumption
            simpa using this
          have hcw3 : ∀ t, t < d.size → (wr2.drewN nq).cell? ⟨blk, off + t, none⟩ = some (.int .u32 dk[t]!) := hcw2
          have hfw3 : ∀ t, t < d.size → (wr2.drewN nq).frozen? ⟨blk, off + t, none⟩ = false := hfw2
          have A3 : Aside (wr2.drewN nq = putRow encU (Go.Sort.ahead w (n + nq1 + nq)) blk off dk) := drewN_world encU A2.out nq
          clear hcw2 hfw2 A2
          generalize wr2.drewN nq = wr3 at hcw3 hfw3 A3 ⊢
          go_region
          go_wp2
          go_roundg (hi - (2 * root + 1))
          case measure => omega
          case rel =>
            refine ⟨2 * root + 1, swp dk (first + root) (first + (2 * root + 1)), n + nq1 + nq + 1, by simp <;> omega, by omega, Nat.le_refl _, by rw [size_swp]; exact hds, swap_world encU (by omega) (by omega) A3.out rfl rfl, ?_⟩
            rw [← heq, sd_left_go ltInt dk (by omega) (fun h => absurd h h1) hG]
end Go.Proofs.YtpjoefekhgmlhaaGreat.So

namespace Go.Proofs.YtpjoefekhgmlhaaGreat.So
open Go.RowKit Go.Sort Go.Proofs
set_option maxHeartbeats 3200000 in
set_option maxRecDepth 1000000 in
theorem heapSort_u (blk off len cap : Nat) (d : Array Int) (hlen : d.size = len) (a b : Nat) (w : World) (hH : Holds encU w blk off d) (hab : a ≤ b) (hb : b ≤ d.size) (hsz : d.size < 4611686018427387904) :
    Calls Tryz.prog 145 #[.slice (some ⟨blk, off, none⟩) len cap, .int .i64 a, .int .i64 b] w fun e w' => e = .returned (.tuple #[]) ∧ ∃ n, w' = putRow encU (Go.Sort.ahead w n) blk off (heapSort ltInt d a b) := by
  subst hlen
  have ecast : ((b - a : Nat) : Int) = (b : Int) - (a : Int) := by omega
  go_enter Tryz.func145, Tryz.ntmps145
  go_wp2
  go_loopg [9] ((b - a - 1) / 2 + 1) (fun k s9 wr => s9 = .int .i64 ((k : Int) - 1) ∧ k ≤ (b - a - 1) / 2 + 1 ∧ ∃ (dk : Array Int) (n : Nat), dk.size = d.size ∧ wr = putRow encU (Go.Sort.ahead w n) blk off dk ∧
    heapBuild ltInt (b - a) a k dk = heapBuild ltInt (b - a) a ((b - a - 1) / 2 + 1) d)
  case atStart => exact ⟨by rw [half_start hab], Nat.le_refl _, d, 0, rfl, (putRow_self encU w blk off d hH).symm, rfl⟩
  case round =>
    obtain ⟨rfl, hkk, dk, n, hds, hwr, heq⟩ := hrel
    have hHk : Holds encU wr blk off dk := by rw [hwr]; exact holds_putRow encU _ blk off d dk (holds_ahead encU w n blk off d hH) hds
    have A : Aside (wr = putRow encU (Go.Sort.ahead w n) blk off dk) := hwr
    clear hwr
    cases gk with
    | zero =>
      have hB : dk = heapBuild ltInt (b - a) a ((b - a - 1) / 2 + 1) d := heq
      clear heq hHk hkk
      go_wp2
      go_loopg [10] (b - a) (fun k s10 wr2 => s10 = .int .i64 ((k : Int) - 1) ∧ k ≤ b - a ∧ ∃ (dj : Array Int) (n2 : Nat), dj.size = d.size ∧ wr2 = putRow encU (Go.Sort.ahead w n2) blk off dj ∧ heapPop ltInt a k dj = heapPop ltInt a (b - a) dk)
      case atStart => exact ⟨by rw [ecast], Nat.le_refl _, dk, n, hds, A.out, rfl⟩
      case round =>
        obtain ⟨rfl, hkk, dj, n2, hdj, hwr2, heq2⟩ := hrel
        cases gk with
        | zero =>
          go_wp2
          go_end0
          refine ⟨rfl, n2, ?_⟩
          have e : dj = heapSort ltInt d a b := by rw [heapSort, ← hB, ← heq2]; rfl
          rw [← e]
        | succ k =>
          have hHj : Holds encU wr blk off dj := by rw [hwr2]; exact holds_putRow encU _ blk off d dj (holds_ahead encU w n2 blk off d hH) hdj
          have hcw : ∀ t, t < d.size → wr.cell? ⟨blk, off + t, none⟩ = some (.int .u32 dj[t]!) := fun t ht => (hHj t (by omega)).1
          have hfw : ∀ t, t < d.size → wr.frozen? ⟨blk, off + t, none⟩ = false := fun t ht => (hHj t (by omega)).2
          have A2 : Aside (wr = putRow encU (Go.Sort.ahead w n2) blk off dj) := hwr2
          clear hwr2 hHj
          rcases Nat.eq_zero_or_pos k with hk0 | hkp
          · subst hk0
            go_wp2_with fail
            go_region
            go_wp2_with fail
            rw [swap_world encU (i := a) (j := a) (by omega) (by omega) A2.out rfl rfl]
            refine (siftDown_u blk off d.size cap (swp dj a (a)) (by rw [size_swp]; exact hdj) 0 0 a _ (holds_putRow encU _ blk off d _ (holds_ahead encU w (n2 + 1) blk off d hH) (by rw [size_swp]; exact hdj)) (Nat.zero_le _) (by rw [size_swp]; omega) (by rw [size_swp]; omega)).mono ?_
            rintro e w1 ⟨rfl, m, hw1⟩
            go_wp2
            go_roundg 0
            case measure => omega
            case rel =>
              refine ⟨by simp, by omega, siftDown ltInt 0 a 0 (swp dj a (a)), n2 + 1 + m, by rw [size_siftDown ltInt _ _ _ _ _ (Nat.le_refl _), size_swp]; exact hdj, ?_, heq2⟩
              first
                | rw [hw1, putRow_ahead_putRow encU w (n2 + 1) m blk off _ _ (size_siftDown ltInt _ _ _ _ _ (Nat.le_refl _))]
                | rw [putRow_ahead_putRow encU w (n2 + 1) m blk off _ _ (size_siftDown ltInt _ _ _ _ _ (Nat.le_refl _))]
          · skip
            go_wp2_with fail
            go_region
            go_wp2_with fail
            rw [swap_world encU (i := a) (j := a + k) (by omega) (by omega) A2.out rfl rfl]
            refine (siftDown_u blk off d.size cap (swp dj a (a + k)) (by rw [size_swp]; exact hdj) 0 k a _ (holds_putRow encU _ blk off d _ (holds_ahead encU w (n2 + 1) blk off d hH) (by rw [size_swp]; exact hdj)) (Nat.zero_le _) (by rw [size_swp]; omega) (by rw [size_swp]; omega)).mono ?_
            rintro e w1 ⟨rfl, m, hw1⟩
            go_wp2
            go_roundg k
            case measure => omega
            case rel =>
              refine ⟨by simp, by omega, siftDown ltInt k a 0 (swp dj a (a + k)), n2 + 1 + m, by rw [size_siftDown ltInt _ _ _ _ _ (Nat.le_refl _), size_swp]; exact hdj, ?_, heq2⟩
              first
                | rw [hw1, putRow_ahead_putRow encU w (n2 + 1) m blk off _ _ (size_siftDown ltInt _ _ _ _ _ (Nat.le_refl _))]
                | rw [putRow_ahead_putRow encU w (n2 + 1) m blk off _ _ (size_siftDown ltInt _ _ _ _ _ (Nat.le_refl _))]
    | succ k =>
      have hcall := siftDown_u blk off d.size cap dk hds k (b - a) a wr hHk (by omega) (by omega) (by omega)
      rw [ecast] at hcall
      go_wp2_with (go_at_call 158; refine hcall.mono ?_; rintro e w1 ⟨rfl, m, hw1⟩)
      go_roundg k
      case measure => omega
      case rel =>
        refine ⟨by simp, by omega, siftDown ltInt (b - a) a k dk, n + m, by rw [size_siftDown ltInt _ _ _ _ _ (Nat.le_refl _)]; exact hds, ?_, heq⟩
        rw [A.out, putRow_ahead_putRow encU w n m blk off dk _ (size_siftDown ltInt _ _ _ _ _ (Nat.le_refl _))]
end Go.Proofs.YtpjoefekhgmlhaaGreat.So
