/- PLAIN: what check.Net accepts is so: of a network that may be, a loop that is told is one, and where no loop is told no address goes round. No program in sight. · CONTRACTS of tool.Analyze, tool.Check on the bytes of a network and of a certificate that may be. Conditions: what cuts.Of, analyze.Net answer. · PLAIN: the networks of theseustop.shown, their certificates. No conditions. -/
import Derived.Test.YtpjoefekhgmlhaaGreatMb28
import Derived.Test.YtpjoefekhgmlhaaGreatMb31
import Derived.Test.YtpjoefekhgmlhaaGreatMb32
import Derived.Test.YtpjoefekhgmlhaaGreatMb25
import Derived.Test.YtpjoefekhgmlhaaGreatMb20
import Derived.Test.YtpjoefekhgmlhaaGreatMb18
import Derived.Test.YtpjoefekhgmlhaaGreatMb16
namespace Go.Proofs.YtpjoefekhgmlhaaGreat.Tp
open Go.RowKit Mem

theorem mem_cuts {net : List (List RuleT)} {c : Nat} : c ∈ cutsL net ↔ c ∈ ptsN net := by
  unfold cutsL
  rw [(List.mergeSort_perm _ _).mem_iff, mem_dedN]
theorem ded_len (l : List Nat) : (dedN l).length ≤ l.length := by
  induction l with
  | nil => simp [dedN]
  | cons x l ih =>
    unfold dedN
    split
    · simp; omega
    · simp; omega
theorem ptsT_len (l : List RuleT) : (ptsT l).length ≤ 2 * l.length := by
  unfold ptsT
  induction l with
  | nil => simp
  | cons r l ih =>
    rw [List.flatMap_cons, List.length_append, List.length_cons]
    have : (ptsR r).length ≤ 2 := by unfold ptsR; split <;> simp
    omega
theorem cuts_len {net : List (List RuleT)} {k : Nat} (h : (net.map List.length).sum ≤ k) : (cutsL net).length ≤ 1 + 2 * k := by
  have h1 : ∀ ls : List (List RuleT), (ls.flatMap ptsT).length ≤ 2 * (ls.map List.length).sum := fun ls => by
    induction ls with
    | nil => simp
    | cons x ls ih =>
      rw [List.flatMap_cons, List.length_append, List.map_cons, List.sum_cons]
      have := ptsT_len x
      omega
  unfold cutsL
  rw [List.length_mergeSort]
  have h2 := ded_len (ptsN net)
  have h3 := h1 net
  have h4 : (ptsN net).length = (net.flatMap ptsT).length + 1 := by simp [ptsN]
  omega
theorem holds_same {r : RuleT} {x a : Nat} (hx : x ≤ a) (ha : a < 4294967296) (hno : ∀ c ∈ ptsR r, ¬ (x < c ∧ c ≤ a)) : holdsB r.a r.len x = holdsB r.a r.len a := by
  have h1 := hno (lowN r.a r.len) (by simp [ptsR])
  have h2 : highN r.a r.len ≠ 4294967295 → ¬ (x < highN r.a r.len + 1 ∧ highN r.a r.len + 1 ≤ a) := fun e => hno _ (by unfold ptsR; rw [if_neg e]; simp)
  rw [Bool.eq_iff_iff, holds_iff, holds_iff]
  by_cases e : highN r.a r.len = 4294967295
  · constructor <;> intro h <;> constructor <;> omega
  · have h3 := h2 e
    constructor <;> intro h <;> constructor <;> omega
theorem find_same {l : List RuleT} {x a : Nat} (h : ∀ r ∈ l, holdsB r.a r.len x = holdsB r.a r.len a) : findL l x = findL l a := by
  have hg : ∀ (l : List RuleT) (o : Option RuleT), (∀ r ∈ l, holdsB r.a r.len x = holdsB r.a r.len a) → l.foldl (pickR x) o = l.foldl (pickR a) o := by
    intro l
    induction l with
    | nil => intro o _; rfl
    | cons r l ih =>
      intro o h
      rw [List.foldl_cons, List.foldl_cons]
      have : pickR x o r = pickR a o r := by unfold pickR; rw [h r List.mem_cons_self]
      rw [this]
      exact ih _ fun r hr => h r (List.mem_cons_of_mem _ hr)
  exact hg l none h
/-- Where no cut lies between two addresses all nodes send them alike. -/
theorem step_same {net : List (List RuleT)} {x a : Nat} (hx : x ≤ a) (ha : a < 4294967296) (hno : ∀ c ∈ cutsL net, ¬ (x < c ∧ c ≤ a)) (v : Nat) : stepN net x v = stepN net a v := by
  unfold stepN
  cases e : net[v]? with
  | none => rfl
  | some l =>
    simp only
    unfold nextL
    rw [find_same fun r hr => holds_same hx ha fun c hc => hno c (mem_cuts.2 (List.mem_cons_of_mem _ (List.mem_flatMap.2 ⟨l, List.mem_of_getElem? e, List.mem_flatMap.2 ⟨r, hr, hc⟩⟩)))]
/-- The greatest of those that are no greater than a. -/
theorem greatest {L : List Nat} {a : Nat} (h : ∃ x ∈ L, x ≤ a) : ∃ x ∈ L, x ≤ a ∧ ∀ y ∈ L, y ≤ a → y ≤ x := by
  induction L with
  | nil => obtain ⟨x, hx, _⟩ := h; cases hx
  | cons z L ih =>
    by_cases h1 : ∃ x ∈ L, x ≤ a
    · obtain ⟨x, hx, hxa, hm⟩ := ih h1
      by_cases h2 : z ≤ a ∧ x < z
      · refine ⟨z, List.mem_cons_self, h2.1, fun y hy hya => ?_⟩
        rcases List.mem_cons.1 hy with rfl | hy
        · exact Nat.le_refl _
        · have := hm y hy hya; omega
      · refine ⟨x, List.mem_cons_of_mem _ hx, hxa, fun y hy hya => ?_⟩
        rcases List.mem_cons.1 hy with rfl | hy
        · omega
        · exact hm y hy hya
    · obtain ⟨x, hx, hxa⟩ := h
      rcases List.mem_cons.1 hx with rfl | hx
      · refine ⟨x, List.mem_cons_self, hxa, fun y hy hya => ?_⟩
        rcases List.mem_cons.1 hy with rfl | hy
        · exact Nat.le_refl _
        · exact absurd ⟨y, hy, hya⟩ h1
      · exact absurd ⟨x, hx, hxa⟩ h1
/-- Each address is in a part. -/
theorem part_of {ps : List PartT} (h : Meets ps) (h0 : 0 < ps.length) {a : Nat} (ha : a < 4294967296) : ∃ i, ∃ hi : i < ps.length, ps[i].f ≤ a ∧ a ≤ ps[i].t := by
  have key : ∀ k, k < ps.length → (∀ i (hi : i < ps.length), i ≤ k → ¬ (ps[i].f ≤ a ∧ a ≤ ps[i].t)) → ∃ hk : k < ps.length, ps[k].t < a := by
    intro k
    induction k with
    | zero =>
      intro hk hno
      have h1 := hno 0 hk (Nat.le_refl _)
      have h2 := h.first hk
      exact ⟨hk, by omega⟩
    | succ k ih =>
      intro hk hno
      obtain ⟨hk', h1⟩ := ih (by omega) (fun i hi hik => hno i hi (by omega))
      have h2 := hno (k + 1) hk (Nat.le_refl _)
      have h3 := h.next k hk
      exact ⟨hk, by omega⟩
  by_cases hex : ∃ i, ∃ hi : i < ps.length, ps[i].f ≤ a ∧ a ≤ ps[i].t
  · exact hex
  · obtain ⟨hk, h1⟩ := key (ps.length - 1) (by omega) fun i hi _ hc => hex ⟨i, hi, hc⟩
    have h2 := h.last hk
    omega
theorem pass_iff {net : List (List RuleT)} {rl : List Nat} {a v w : Nat} (h : passV net rl a v = true) (hs : stepN net a v = some w) : rl.getD w 0 < rl.getD v 0 := by
  unfold passV at h
  rw [hs] at h
  simpa using h
theorem iter_fall {net : List (List RuleT)} (hok : NetOk net) {rl : List Nat} {a : Nat} (h : ∀ v, v < net.length → passV net rl a v = true) {u : Nat} (hu : u < net.length) : ∀ (k y : Nat), Gr.iter (vecL net a) (k + 1) u = some y → y < net.length ∧ rl.getD y 0 < rl.getD u 0 := by
  intro k
  induction k with
  | zero =>
    intro y hy
    rw [iter_last (k := 0) (u := u) (y := u) rfl, nxt_step hu] at hy
    exact ⟨step_in hok hy, pass_iff (h u hu) hy⟩
  | succ k ih =>
    intro y hy
    cases e : Gr.iter (vecL net a) (k + 1) u with
    | none => rw [iter_dead e (k + 1) (by omega)] at hy; cases hy
    | some z =>
      obtain ⟨hz, h1⟩ := ih z e
      rw [iter_last e, nxt_step hz] at hy
      have h2 := pass_iff (h z hz) hy
      exact ⟨step_in hok hy, by omega⟩
/-- Where ranks fall at all points no address goes round. -/
theorem free_sound {net : List (List RuleT)} (h : NetOk net) {ps : List PartT} (hm : Meets ps) (h0 : 0 < ps.length) (hp : partsB net (cutsL net) ps = true) {a : Nat} (ha : a < 4294967296) : roundB net a = false := by
  obtain ⟨i, hi, h1, h2⟩ := part_of hm h0 ha
  obtain ⟨x, hx, hxa, hmax⟩ := greatest (L := insideL (cutsL net) ps[i].f ps[i].t) (a := a) ⟨ps[i].f, by simp [insideL], h1⟩
  have hfx : ps[i].f ≤ x := hmax _ (by simp [insideL]) h1
  have hno : ∀ c ∈ cutsL net, ¬ (x < c ∧ c ≤ a) := fun c hc ⟨h3, h4⟩ => by
    have := hmax c (by
      unfold insideL
      refine List.mem_cons_of_mem _ (List.mem_filter.2 ⟨hc, ?_⟩)
      simp only [decide_eq_true_eq]
      omega) h4
    omega
  have hall : ∀ v, v < net.length → passV net ps[i].ranks x v = true := fun v hv => by
    unfold partsB at hp
    have h3 := List.all_eq_true.1 hp _ (List.getElem_mem hi)
    unfold fallB at h3
    have h4 := List.all_eq_true.1 h3 _ hx
    unfold passA at h4
    exact List.all_eq_true.1 h4 v (List.mem_range.2 hv)
  have hall' : ∀ v, v < net.length → passV net ps[i].ranks a v = true := fun v hv => by
    have := hall v hv
    unfold passV at this ⊢
    rwa [step_same hxa ha hno v] at this
  refine round_false fun u hu => cyc_false fun k _ e => ?_
  have := (iter_fall h hall' hu k u e).2
  omega
/-- A trace that closes is a way round. -/
theorem loop_sound {net : List (List RuleT)} {dest : Nat} {l : List Nat} (ht : traceB net dest l = true) (h0 : 0 < l.length) (hn : l.length ≤ net.length) (hl : ∀ x ∈ l, x < net.length) : roundB net dest = true := by
  have hs : ∀ i, i < l.length → stepN net dest (l.getD i 0) = some (behind l i) := fun i hi => by
    unfold traceB at ht
    have := List.all_eq_true.1 ht i (List.mem_range.2 hi)
    simpa using this
  have hd : ∀ i (hi : i < l.length), l.getD i 0 = l[i] := fun i hi => by simp [List.getD, List.getElem?_eq_getElem hi]
  have hit : ∀ i, i < l.length → Gr.iter (vecL net dest) i (l.getD 0 0) = some (l.getD i 0) := by
    intro i
    induction i with
    | zero => intro _; rfl
    | succ i ih =>
      intro hi
      rw [iter_last (ih (by omega)), nxt_step (by rw [hd i (by omega)]; exact hl _ (List.getElem_mem _)), hs i (by omega)]
      unfold behind
      rw [if_pos hi]
  have hlast := hit (l.length - 1) (by omega)
  have h1 : Gr.iter (vecL net dest) (l.length - 1 + 1) (l.getD 0 0) = some (l.getD 0 0) := by
    rw [iter_last hlast, nxt_step (by rw [hd _ (by omega)]; exact hl _ (List.getElem_mem _)), hs _ (by omega)]
    unfold behind
    rw [if_neg (by omega)]
  exact round_true (by rw [hd 0 h0]; exact hl _ (List.getElem_mem _)) (by omega) h1
/-- What is answered of a certificate that may be, of another network, is so. -/
theorem ans_sound {net : List (List RuleT)} (h : NetOk net) {n0 : Nat} {c : CertT} (hc : CertOk n0 c) :
    (∃ e : Int, ansN net (cutsL net) n0 c = (0, e) ∧ e ≠ 0) ∨ (ansN net (cutsL net) n0 c = (2, 0) ∧ roundB net c.dest = true) ∨ (ansN net (cutsL net) n0 c = (1, 0) ∧ ∀ a, a < 4294967296 → roundB net a = false) := by
  unfold ansN
  by_cases he : cmayE n0 net.length c = 0
  · rw [if_pos he]
    by_cases hv : c.verdict = 1
    · rw [if_pos hv]
      by_cases hp : partsB net (cutsL net) c.parts = true
      · rw [if_pos hp]
        right; right
        refine ⟨rfl, fun a ha => ?_⟩
        rcases hc with ⟨_, h1, _, _⟩ | ⟨h1, _⟩
        · exact free_sound h h1.meets h1.meets.some_ hp ha
        · omega
      · rw [if_neg hp]
        exact .inl ⟨16, rfl, by omega⟩
    · rw [if_neg hv]
      by_cases ht : traceB net c.dest c.trace = true
      · rw [if_pos ht]
        right; left
        refine ⟨rfl, ?_⟩
        rcases hc with ⟨h1, _⟩ | ⟨_, _, _, h1, _, _⟩
        · exact absurd h1 hv
        · unfold cmayE at he
          rw [if_neg hv] at he
          obtain ⟨h2, h3⟩ := loopsE_zero he
          exact loop_sound ht h1.some_ (by omega) (outB_false h3)
      · rw [if_neg ht]
        exact .inl ⟨17, rfl, by omega⟩
  · rw [if_neg he]
    exact .inl ⟨_, rfl, he⟩
end Go.Proofs.YtpjoefekhgmlhaaGreat.Tp

namespace Go.Proofs.YtpjoefekhgmlhaaGreat.Tp
open Go.RowKit Mem

set_option maxRecDepth 100000 in
set_option maxHeartbeats 2000000 in
theorem tanalyze_any (A : Option Addr) (c n : Nat) (net : List (List RuleT)) (ce : CertT) (w : World) (h : NetOk net) (hs : ∀ l ∈ net, l.length ≤ 2000) (ha : AnetOf net ce) (hok : CertOk net.length ce) (hM : (certIn net.length ce).length ≤ 1000000) (hn : (netB net).length = n) (hA : Lies w A (bytes (netB net))) (hc : n ≤ c) (hc2 : c ≤ 9223372036854775807) :
    Calls Tryz.prog 13 #[.slice A n c] w (VPost w (bytes (certB net.length ce)) 0) := by
  have hnn := h.nodes
  have hnt := ntake_any A n c net w h hs hn hA hc hc2
  have HNT := Lib.hid hnt
  have HAN := Lib.hid ha
  have HOK := Lib.hid hok
  have HM := Lib.hid hM
  clear hnt ha hok hM hA hs h hn
  go_enter Tryz.func13, Tryz.ntmps13
  go_wp2_with fail
  refine (HNT.out).mono ?_
  rintro e w2 ⟨R, m, rfl, hN2, hb2, hm1, hm2⟩
  obtain ⟨w3, hw3⟩ : ∃ w3, w3 = w2.alloc (.cells #[.slice R net.length m] 24) := ⟨_, rfl⟩
  have b3 : Below w2.heap.size w2 w3 := by rw [hw3]; exact bal _ _
  have hr3 : VRow w3 w2.heap.size [.slice R net.length m] := by rw [hw3]; exact VRow.new w2 #[.slice R net.length m] _
  have hx3 := (hr3.get (i := 0) rfl).1
  rw [hw3] at hx3
  have han := HAN.out R m w3 (hN2.below b3)
  have hbw := hb2.trans (b3.mono hb2.size)
  have HW3 := Lib.hid hw3
  have HR3 := Lib.hid hr3
  have HA3 := Lib.hid han
  have HBW := Lib.hid hbw
  clear hN2 hb2 hw3 b3 hr3 han hbw HNT HAN
  go_wp2_with fail
  rw [← HW3.out]
  clear hx3
  refine (HA3.out).mono ?_
  rintro e w4 ⟨PA, TB, cA, cB, rfl, hPA, hTB, -, hb4⟩
  obtain ⟨w5, hw5⟩ : ∃ w5, w5 = w4.alloc (.cells #[.int .i64 (ce.verdict : Int), .slice PA ce.parts.length cA, .int .u32 (ce.dest : Int), .slice TB ce.trace.length cB] 31) := ⟨_, rfl⟩
  have b5 : Below w4.heap.size w4 w5 := by rw [hw5]; exact bal _ _
  have hr5 := (HR3.out.below hb4 HR3.out.lt).below b5 (Nat.lt_of_lt_of_le HR3.out.lt hb4.size)
  have hx5 := (hr5.get (i := 0) rfl).1
  rw [hw5] at hx5
  have hcv : CertAt w5 (.agg #[.int .i64 (ce.verdict : Int), .slice PA ce.parts.length cA, .int .u32 (ce.dest : Int), .slice TB ce.trace.length cB]) ce := ⟨PA, TB, cA, cB, rfl, hPA.below b5, hTB.below b5⟩
  have hcp := cput_any net.length _ ce w5 hcv HOK.out (by omega) HM.out
  have hbw5 := HBW.out.trans ((hb4.trans (b5.mono hb4.size)).mono HBW.out.size)
  obtain ⟨M, hMe⟩ : ∃ M, M = (bytes (certB net.length ce)).length := ⟨_, rfl⟩
  have HME := Lib.hid hMe
  have HW5 := Lib.hid hw5
  have HCP := Lib.hid hcp
  have HB5 := Lib.hid hbw5
  clear hPA hTB hb4 hw5 b5 hr5 hcv hcp hbw5 HA3 HR3 HW3 HBW hMe
  go_wp2_with fail
  rw [← HW5.out]
  refine (HCP.out).mono ?_
  rintro e w6 ⟨R6, m6, rfl, hL6, hb6, hm61, hm62⟩
  rw [← HME.out] at hm61 ⊢
  have HB6 := Lib.hid (HB5.out.trans (hb6.mono HB5.out.size))
  have HL6 := Lib.hid hL6
  clear hb6 hL6 HCP
  go_wp2_with fail
  go_ret2
  exact ⟨R6, m6, by rw [← HME.out]; rfl, HL6.out, HB6.out, by rw [← HME.out]; exact hm61, hm62⟩
/-- What tool.Check answers of a network's bytes and a certificate's. -/
def ansT (net : List (List RuleT)) (l : List Nat) (n0 : Nat) (c : CertT) : Nat × Int := if n0 = net.length then ansN net l n0 c else (0, 1)
set_option maxRecDepth 100000 in
set_option maxHeartbeats 2000000 in
theorem tcheck_any (A B : Option Addr) (cA cB n m n0 : Nat) (net : List (List RuleT)) (l : List Nat) (c : CertT) (w : World) (h : NetOk net) (hs : ∀ l ∈ net, l.length ≤ 2000) (hC : CutsOf net l) (hl : l.length ≤ 900000) (hb : ∀ a ∈ l, a < 4294967296) (hok : CertOk n0 c) (hn0 : n0 ≤ 256) (hM : (certIn n0 c).length ≤ 1000000)
    (hn : (netB net).length = n) (hA : Lies w A (bytes (netB net))) (hcA : n ≤ cA) (hcA2 : cA ≤ 9223372036854775807) (hm : (certB n0 c).length = m) (hB : Lies w B (bytes (certB n0 c))) (hcB : m ≤ cB) (hcB2 : cB ≤ 9223372036854775807) :
    Calls Tryz.prog 14 #[.slice A n cA, .slice B m cB] w (NetPost w (ansT net l n0 c)) := by
  have hnn := h.nodes
  obtain ⟨w1, hw1⟩ : ∃ w1, w1 = w.alloc (.cells #[.int .i64 0, .int .i64 0] 36) := ⟨_, rfl⟩
  have b1 : Below w.heap.size w w1 := by rw [hw1]; exact bal _ _
  have hy1 : VRow w1 w.heap.size [.int .i64 0, .int .i64 0] := by rw [hw1]; exact VRow.new w #[.int .i64 0, .int .i64 0] _
  have hnt := ntake_any A n cA net w1 h hs hn (hA.below b1) hcA hcA2
  have HNT := Lib.hid hnt
  have HW1 := Lib.hid hw1
  have HY1 := Lib.hid hy1
  have HB1 := Lib.hid b1
  have HBB := Lib.hid hB
  have HOK := Lib.hid hok
  have HM := Lib.hid hM
  have HC := Lib.hid hC
  have H := Lib.hid h
  have HL32 := Lib.hid hb
  have HMM := Lib.hid hm
  clear hnt hw1 hy1 b1 hB hok hM hC h hA hs hn hb hm
  go_enter Tryz.func14, Tryz.ntmps14
  go_wp2_with fail
  rw [← HW1.out]
  refine (HNT.out).mono ?_
  rintro e w2 ⟨R, mR, rfl, hN2, hb2, hm1, hm2⟩
  obtain ⟨w3, hw3⟩ : ∃ w3, w3 = w2.alloc (.cells #[.slice R net.length mR] 24) := ⟨_, rfl⟩
  have b3 : Below w2.heap.size w2 w3 := by rw [hw3]; exact bal _ _
  have hr3 : VRow w3 w2.heap.size [.slice R net.length mR] := by rw [hw3]; exact VRow.new w2 #[.slice R net.length mR] _
  have hbw := HB1.out.trans ((hb2.trans (b3.mono hb2.size)).mono HB1.out.size)
  have hy3 := (HY1.out.below hb2 HY1.out.lt).below b3 (Nat.lt_of_lt_of_le HY1.out.lt hb2.size)
  have hct := ctake_any B m cB n0 c w3 HOK.out hn0 HM.out HMM.out (HBB.out.below hbw) hcB hcB2
  have HW3 := Lib.hid hw3
  have HR3 := Lib.hid hr3
  have HN3 := Lib.hid (hN2.below b3)
  have HBW := Lib.hid hbw
  have HY3 := Lib.hid hy3
  have HCT := Lib.hid hct
  clear hN2 hb2 hw3 b3 hr3 hbw hy3 hct HNT HW1 HY1 HBB
  go_wp2_with fail
  rw [← HW3.out]
  refine (HCT.out).mono ?_
  rintro e w4 ⟨v, rfl, ⟨PA, TB, dA, dB, rfl, hPA, hTB⟩, hb4⟩
  obtain ⟨w5, hw5⟩ : ∃ w5, w5 = w4.alloc (.cells #[.int .i64 (c.verdict : Int), .slice PA c.parts.length dA, .int .u32 (c.dest : Int), .slice TB c.trace.length dB] 31) := ⟨_, rfl⟩
  have b5 : Below w4.heap.size w4 w5 := by rw [hw5]; exact bal _ _
  have b35 := hb4.trans (b5.mono hb4.size)
  have hr5 := HR3.out.below b35 HR3.out.lt
  have hy5 := HY3.out.below b35 HY3.out.lt
  have hk5 : VRow w5 w4.heap.size [.int .i64 (c.verdict : Int), .slice PA c.parts.length dA, .int .u32 (c.dest : Int), .slice TB c.trace.length dB] := by rw [hw5]; exact VRow.new w4 #[.int .i64 (c.verdict : Int), .slice PA c.parts.length dA, .int .u32 (c.dest : Int), .slice TB c.trace.length dB] _
  have hcv : CertAt w5 (.agg #[.int .i64 (c.verdict : Int), .slice PA c.parts.length dA, .int .u32 (c.dest : Int), .slice TB c.trace.length dB]) c := ⟨PA, TB, dA, dB, rfl, hPA.below b5, hTB.below b5⟩
  have hcn := cnet_any R mR n0 net l _ c w5 HC.out (HN3.out.below b35) H.out hcv hl HL32.out HOK.out hn0
  have hx5 := (hr5.get (i := 0) rfl).1
  have hb5w := HBW.out.trans (b35.mono HBW.out.size)
  obtain ⟨k0, -⟩ := hk5.get (i := 0) rfl
  obtain ⟨k1, -⟩ := hk5.get (i := 1) rfl
  obtain ⟨k2, -⟩ := hk5.get (i := 2) rfl
  obtain ⟨k3, -⟩ := hk5.get (i := 3) rfl
  obtain ⟨p0, f0⟩ := hy5.get (i := 0) rfl
  have HY5 := Lib.hid hy5
  have HB5 := Lib.hid hb5w
  have HCN := Lib.hid hcn
  rw [hw5] at k0 k1 k2 k3 hx5
  have HW5 := Lib.hid hw5
  clear hPA hTB hb4 b5 b35 hr5 hy5 hk5 hcv hcn hb5w hw5 p0 f0 HW3 HR3 HN3 HBW HY3 HCT
  by_cases hne : n0 = net.length
  · have t1 : ((n0 : Int) != (net.length : Int)) = false := by simp [hne]
    have hans : ansT net l n0 c = ansN net l n0 c := by unfold ansT; rw [if_pos hne]
    obtain ⟨a, hae⟩ : ∃ a, a = ansN net l n0 c := ⟨_, rfl⟩
    rw [← hae] at HCN hans
    have HANS := Lib.hid hans
    clear hne hans hae
    go_wp2_with fail
    rw [← HW5.out]
    refine (HCN.out).mono ?_
    rintro e w6 ⟨rfl, hb6⟩
    have hy6 := HY5.out.below hb6 HY5.out.lt
    have hy7 := hy6.set_ 0 (.int .i64 (a.1 : Int))
    have hy8 := hy7.set_ 1 (.int .i64 a.2)
    obtain ⟨p0, f0⟩ := hy6.get (i := 0) rfl
    obtain ⟨p1, f1⟩ := hy7.get (i := 1) rfl
    have hz := And.intro (hy8.get (i := 0) rfl).1 (hy8.get (i := 1) rfl).1
    have hbe := ((HB5.out.trans (hb6.mono HB5.out.size)).setCell (p := ⟨w.heap.size, 0, none⟩) (Nat.le_refl _) (.int .i64 (a.1 : Int))).setCell (p := ⟨w.heap.size, 1, none⟩) (Nat.le_refl _) (.int .i64 a.2)
    have HZ := Lib.hid hz
    have HBE := Lib.hid hbe
    clear hy6 hy7 hy8 hz hbe hb6 hx5 k0 k1 k2 k3 HY5 HB5 HCN HW5
    go_wp2_with fail
    obtain ⟨z0, z1⟩ := HZ.out
    exact bodyPost_ret (v := .agg #[.int .i64 (a.1 : Int), .int .i64 a.2]) (by simp [results, Tryz.results14, go_sem, z0, z1]) rfl ⟨by rw [HANS.out], HBE.out⟩
  · have t1 : ((n0 : Int) != (net.length : Int)) = true := by simp; omega
    have hans : ansT net l n0 c = (0, 1) := by unfold ansT; rw [if_neg hne]
    have HANS := Lib.hid hans
    have hy6 := HY5.out
    have hy7 := hy6.set_ 0 (.int .i64 0)
    have hy8 := hy7.set_ 1 (.int .i64 1)
    obtain ⟨p0, f0⟩ := hy6.get (i := 0) rfl
    obtain ⟨p1, f1⟩ := hy7.get (i := 1) rfl
    have hz := And.intro (hy8.get (i := 0) rfl).1 (hy8.get (i := 1) rfl).1
    have hbe := (HB5.out.setCell (p := ⟨w.heap.size, 0, none⟩) (Nat.le_refl _) (.int .i64 0)).setCell (p := ⟨w.heap.size, 1, none⟩) (Nat.le_refl _) (.int .i64 1)
    have HZ := Lib.hid hz
    have HBE := Lib.hid hbe
    rw [HW5.out] at p0 f0 p1 f1
    clear hy6 hy7 hy8 hz hbe hne hans k0 k1 k2 k3 HY5 HB5 HCN
    go_wp2_with fail
    rw [← HW5.out]
    obtain ⟨z0, z1⟩ := HZ.out
    exact bodyPost_ret (v := .agg #[.int .i64 0, .int .i64 1]) (by simp [results, Tryz.results14, go_sem, z0, z1]) rfl ⟨by rw [HANS.out]; rfl, HBE.out⟩
end Go.Proofs.YtpjoefekhgmlhaaGreat.Tp

namespace Go.Proofs.YtpjoefekhgmlhaaGreat.Tp
open Go.RowKit Mem

def netS1 : List (List RuleT) := [[⟨0, 0, 1, 1⟩], [⟨0, 0, 1, 2⟩], [⟨0, 0, 2, 0⟩, ⟨2147483648, 1, 1, 0⟩]]
def netS2 : List (List RuleT) := [[⟨0, 0, 1, 1⟩], [⟨0, 0, 1, 2⟩], [⟨0, 0, 2, 0⟩]]
def ceS1 : CertT := ⟨2, [], 2147483648, [0, 1, 2]⟩
def ceS2 : CertT := ⟨1, [⟨0, 4294967295, [2, 1, 0]⟩], 0, []⟩
theorem table_one {n : Nat} {r : RuleT} (h : RuleOk n r) : TableOk n [r] := ⟨fun x hx => by simp at hx; rw [hx]; exact h, fun i hi => absurd hi (by simp)⟩
theorem table_two {n : Nat} {r s : RuleT} (h : RuleOk n r) (h2 : RuleOk n s) (hp : pcmp s.a s.len r.a r.len = 1) : TableOk n [r, s] := by
  refine ⟨fun x hx => ?_, fun i hi => ?_⟩
  · simp at hx; rcases hx with rfl | rfl <;> assumption
  · have : i = 0 := by simp at hi; omega
    subst this
    exact hp
theorem netS1_ok : NetOk netS1 := by
  refine ⟨by decide, by decide, fun l hl => ?_⟩
  simp only [netS1, List.mem_cons, List.not_mem_nil, or_false] at hl
  rcases hl with rfl | rfl | rfl
  · exact table_one ⟨by decide, by decide, by decide, by decide⟩
  · exact table_one ⟨by decide, by decide, by decide, by decide⟩
  · exact table_two ⟨by decide, by decide, by decide, by decide⟩ ⟨by decide, by decide, by decide, by decide⟩ (by decide)
theorem netS2_ok : NetOk netS2 := by
  refine ⟨by decide, by decide, fun l hl => ?_⟩
  simp only [netS2, List.mem_cons, List.not_mem_nil, or_false] at hl
  rcases hl with rfl | rfl | rfl
  · exact table_one ⟨by decide, by decide, by decide, by decide⟩
  · exact table_one ⟨by decide, by decide, by decide, by decide⟩
  · exact table_one ⟨by decide, by decide, by decide, by decide⟩
theorem cuts_is {net : List (List RuleT)} {l : List Nat} (h : dedN (ptsN net) = l) (hs : l.Pairwise fun x y => decide (x ≤ y) = true) : cutsL net = l := by
  unfold cutsL; rw [h]; exact List.mergeSort_of_pairwise hs
theorem cutsS1 : cutsL netS1 = [0, 2147483648] := cuts_is (by kernel_rfl) (by decide)
theorem cutsS2 : cutsL netS2 = [0] := cuts_is (by kernel_rfl) (by decide)
theorem certS1 : anCert (atomsTo netS1 [0, 2147483648]) = ceS1 := by kernel_rfl
theorem certS2 : anCert (atomsTo netS2 [0]) = ceS2 := by kernel_rfl
theorem ans11 : ansT netS1 [0, 2147483648] 3 ceS1 = (2, 0) := by kernel_rfl
theorem ans22 : ansT netS2 [0] 3 ceS2 = (1, 0) := by kernel_rfl
theorem ans12 : (ansT netS1 [0, 2147483648] 3 ceS2).1 = 0 := by kernel_rfl
end Go.Proofs.YtpjoefekhgmlhaaGreat.Tp
