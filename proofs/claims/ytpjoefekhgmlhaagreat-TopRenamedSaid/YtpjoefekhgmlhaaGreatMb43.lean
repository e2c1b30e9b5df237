/- PLAIN: a network whose nodes are counted from the other end has the same cuts, the vectors of the same nodes, the same verdict, and its ranks are those of the same nodes. No program in sight. · WORDS for the memory of TopRenamed's first loop: so many nodes are laid from the other end. · WORDS for the memory of TopRenamed's second loop: so many parts are laid back. · WORDS for the memory of TopRenamed's inner loop: so many ranks of a part are laid back. -/
import Derived.Test.YtpjoefekhgmlhaaGreatMb42
namespace Go.Proofs.YtpjoefekhgmlhaaGreat.Tp
open Go.RowKit Mem

def renR (n : Nat) (r : RuleT) : RuleT := if r.act = 1 then ⟨r.a, r.len, r.act, n - 1 - r.next⟩ else r
def renT (n : Nat) (l : List RuleT) : List RuleT := l.map (renR n)
def renN (net : List (List RuleT)) : List (List RuleT) := (net.map (renT net.length)).reverse
theorem ren_a (n : Nat) (r : RuleT) : (renR n r).a = r.a := by unfold renR; split <;> rfl
theorem ren_len_ (n : Nat) (r : RuleT) : (renR n r).len = r.len := by unfold renR; split <;> rfl
theorem ren_act (n : Nat) (r : RuleT) : (renR n r).act = r.act := by unfold renR; split <;> rfl
theorem renN_len (net : List (List RuleT)) : (renN net).length = net.length := by simp [renN]
theorem ren_small {net : List (List RuleT)} (h : Small net) : Small (renN net) := by
  have hl := renN_len net
  have hs : ((renN net).map List.length).sum = (net.map List.length).sum := by
    unfold renN
    rw [List.map_reverse, List.sum_reverse, List.map_map]
    congr 1
    refine List.map_congr_left fun l _ => ?_
    simp [renT]
  refine ⟨⟨by have := h.few; omega, by have := h.rules; omega, fun l hm => ?_⟩, by have := h.some_; omega, by have := h.few; omega, by have := h.rules; omega⟩
  rw [hl]
  obtain ⟨l0, hm0, rfl⟩ := List.mem_map.1 (List.mem_reverse.1 hm)
  have ht := h.ok.table l0 hm0
  refine ⟨fun r hr => ?_, fun i hi => ?_⟩
  · obtain ⟨r0, hr0, rfl⟩ := List.mem_map.1 hr
    have hok := ht.rule r0 hr0
    refine ⟨by rw [ren_a]; exact hok.a, by rw [ren_len_]; exact hok.len, by rw [ren_a, ren_len_]; exact hok.host, ?_⟩
    rw [ren_act]
    unfold renR
    rcases hok.act with ⟨h1, h2⟩ | ⟨h1, h2⟩
    · left; rw [if_pos h1]; exact ⟨h1, by show net.length - 1 - r0.next < net.length; omega⟩
    · right; rw [if_neg (by omega)]; exact ⟨h1, h2⟩
  · have hi' : i + 1 < l0.length := by simpa [renT] using hi
    have := ht.asc i hi'
    simpa [renT, ren_a, ren_len_] using this
/-! ### vectors -/
theorem pick_ren (n a : Nat) (o : Option RuleT) (r : RuleT) : pickR a (o.map (renR n)) (renR n r) = (pickR a o r).map (renR n) := by
  unfold pickR
  rw [ren_a, ren_len_]
  split
  · cases o with
    | none => rfl
    | some b =>
      simp only [Option.map_some, ren_len_]
      split <;> rfl
  · rfl
theorem find_ren (n a : Nat) (l : List RuleT) : findL (renT n l) a = (findL l a).map (renR n) := by
  have hg : ∀ (l : List RuleT) (o : Option RuleT), (l.map (renR n)).foldl (pickR a) (o.map (renR n)) = (l.foldl (pickR a) o).map (renR n) := by
    intro l
    induction l with
    | nil => intro o; rfl
    | cons r l ih => intro o; rw [List.map_cons, List.foldl_cons, List.foldl_cons, pick_ren, ih]
  exact hg l none
theorem goes_ren {n a : Nat} {l : List RuleT} (h : ∀ r ∈ l, r.act = 1 → r.next < n) : goesI (renT n l) a = Gr.revAt n (goesI l a) := by
  unfold goesI nextL
  rw [find_ren]
  cases e : findL l a with
  | none => rfl
  | some r =>
    have hr := h r (find_mem e)
    simp only [Option.map_some, ren_act]
    by_cases h1 : r.act = 1
    · have h2 := hr h1
      simp only [h1, if_true]
      unfold renR Gr.revAt
      rw [if_pos h1, if_neg (by omega)]
      show ((n - 1 - r.next : Nat) : Int) = _
      omega
    · simp only [h1, if_false]
      unfold Gr.revAt
      simp
theorem vec_ren {net : List (List RuleT)} (h : NetOk net) (a : Nat) : vecL (renN net) a = Gr.revV (vecL net a) := by
  unfold vecL renN Gr.revV
  rw [List.map_reverse, List.map_map, List.length_map, ← List.map_reverse, ← List.map_reverse, List.map_map]
  refine List.map_congr_left fun l hl => ?_
  exact goes_ren fun r hr h1 => by
    have := ((h.table l (List.mem_reverse.1 hl)).rule r hr).act
    omega
/-! ### cuts -/
theorem asc_ext : ∀ {l l' : List Nat}, l.Pairwise (· < ·) → l'.Pairwise (· < ·) → (∀ x, x ∈ l ↔ x ∈ l') → l = l'
  | [], [], _, _, _ => rfl
  | [], y :: l', _, _, h => by have := (h y).2 List.mem_cons_self; cases this
  | x :: l, [], _, _, h => by have := (h x).1 List.mem_cons_self; cases this
  | x :: l, y :: l', h1, h2, h => by
    obtain ⟨h1a, h1b⟩ := List.pairwise_cons.1 h1
    obtain ⟨h2a, h2b⟩ := List.pairwise_cons.1 h2
    have e : x = y := by
      rcases List.mem_cons.1 ((h x).1 List.mem_cons_self) with e | e
      · exact e
      · rcases List.mem_cons.1 ((h y).2 List.mem_cons_self) with e2 | e2
        · exact e2.symm
        · have h3 := h1a y e2
          have h4 := h2a x e
          omega
    subst e
    rw [asc_ext h1b h2b fun z => ?_]
    constructor
    · intro hz
      rcases List.mem_cons.1 ((h z).1 (List.mem_cons_of_mem _ hz)) with e | e
      · subst e; have := h1a z hz; omega
      · exact e
    · intro hz
      rcases List.mem_cons.1 ((h z).2 (List.mem_cons_of_mem _ hz)) with e | e
      · subst e; have := h2a z hz; omega
      · exact e
theorem pts_ren (n : Nat) (r : RuleT) : ptsR (renR n r) = ptsR r := by unfold ptsR; rw [ren_a, ren_len_]
theorem cuts_ren {net : List (List RuleT)} (h : Small net) : cutsL (renN net) = cutsL net := by
  refine asc_ext (cuts_ok (ren_small h).ok).1 (cuts_ok h.ok).1 fun x => ?_
  rw [mem_cuts, mem_cuts]
  unfold ptsN
  have ht : ∀ l : List RuleT, ptsT (renT net.length l) = ptsT l := fun l => by
    unfold ptsT renT
    rw [List.flatMap_map]
    congr 1
    funext r
    exact pts_ren _ r
  rw [List.mem_cons, List.mem_cons, List.mem_flatMap, List.mem_flatMap]
  constructor
  · rintro (e | ⟨l, hl, hx⟩)
    · exact .inl e
    · obtain ⟨l0, hl0, rfl⟩ := List.mem_map.1 (List.mem_reverse.1 hl)
      exact .inr ⟨l0, hl0, by rwa [ht] at hx⟩
  · rintro (e | ⟨l, hl, hx⟩)
    · exact .inl e
    · exact .inr ⟨renT net.length l, List.mem_reverse.2 (List.mem_map_of_mem hl), by rwa [ht]⟩
/-! ### atoms -/
theorem rev_rev {v : List Int} (h : Gr.goodB v = true) : Gr.revV (Gr.revV v) = v := by
  rw [Gr.good_iff] at h
  unfold Gr.revV
  rw [List.length_map, List.length_reverse, ← List.map_reverse, List.reverse_reverse, List.map_map]
  refine (List.map_congr_left fun x hx => ?_).trans (List.map_id _)
  have := h x hx
  show Gr.revAt v.length (Gr.revAt v.length x) = id x
  unfold Gr.revAt
  simp only [id]
  split
  · split <;> omega
  · split <;> omega
theorem rev_inj {v u : List Int} (hv : Gr.goodB v = true) (hu : Gr.goodB u = true) (h : Gr.revV v = Gr.revV u) : v = u := by rw [← rev_rev hv, h, rev_rev hu]
theorem mem_rev {V : List (List Int)} (hV : ∀ v ∈ V, Gr.goodB v = true) {v : List Int} (hv : Gr.goodB v = true) : Gr.revV v ∈ V.map Gr.revV ↔ v ∈ V := by
  constructor
  · intro h
    obtain ⟨u, hu, e⟩ := List.mem_map.1 h
    rw [← rev_inj (hV u hu) hv e]; exact hu
  · exact fun h => List.mem_map_of_mem h
theorem idx_rev : ∀ {V : List (List Int)}, (∀ v ∈ V, Gr.goodB v = true) → ∀ {v : List Int}, Gr.goodB v = true → (V.map Gr.revV).idxOf (Gr.revV v) = V.idxOf v
  | [], _, _, _ => rfl
  | u :: V, hV, v, hv => by
    rw [List.map_cons, List.idxOf_cons, List.idxOf_cons]
    by_cases e : u = v
    · subst e; simp
    · have e2 : ¬ Gr.revV u = Gr.revV v := fun h => e (rev_inj (hV u List.mem_cons_self) hv h)
      have h1 : (Gr.revV u == Gr.revV v) = false := by simpa using e2
      have h2 : (u == v) = false := by simpa using e
      rw [h1, h2]
      simp only [cond_false]
      rw [idx_rev (fun w hw => hV w (List.mem_cons_of_mem _ hw)) hv]
theorem atStep_ren {net : List (List RuleT)} (h : NetOk net) {s : AtS} (hV : ∀ v ∈ s.V, Gr.goodB v = true) (a : Nat) : atStep (renN net) ⟨s.F, s.H, s.V.map Gr.revV⟩ a = ⟨(atStep net s a).F, (atStep net s a).H, (atStep net s a).V.map Gr.revV⟩ := by
  have hg := (Gr.errno_zero (vecL_good h a)).2
  unfold atStep
  simp only [vec_ren h, idx_rev hV hg, mem_rev hV hg]
  split
  · split <;> rfl
  · simp
theorem atoms_ren {net : List (List RuleT)} (h : NetOk net) (l : List Nat) : atomsTo (renN net) l = ⟨(atomsTo net l).F, (atomsTo net l).H, (atomsTo net l).V.map Gr.revV⟩ := by
  have : ∀ k, k ≤ l.length → atomsTo (renN net) (l.take k) = ⟨(atomsTo net (l.take k)).F, (atomsTo net (l.take k)).H, (atomsTo net (l.take k)).V.map Gr.revV⟩ := fun k => by
    induction k with
    | zero => intro _; rfl
    | succ k ih =>
      intro hk
      rw [atomsTo_next (by omega), atomsTo_next (by omega), ih (by omega)]
      exact atStep_ren h (fun v hv => by obtain ⟨a, rfl⟩ := (sinv net (l.take k)).vec v hv; exact (Gr.errno_zero (vecL_good h a)).2) _
  have h := this l.length (Nat.le_refl _)
  rwa [List.take_of_length_le (Nat.le_refl _)] at h
/-! ### verdicts -/
theorem loop_iff {v : List Int} (he : Gr.errno v = 0) : hasLoop v = !Gr.allRanked v := by
  obtain ⟨_, hg⟩ := Gr.errno_zero he
  cases h : Gr.allRanked v with
  | true =>
    have := Gr.loop_empty hg h
    have hl : (Gr.loopOf v).length = 0 := by
      have h2 := congrArg List.length this
      simpa [Gr.loopL] using h2
    unfold hasLoop
    simp [hl]
  | false =>
    have := Gr.loop_full hg h
    have hl : 0 < (Gr.loopOf v).length := by simpa [Gr.loopL] using this
    unfold hasLoop
    simp [hl]
theorem errno_rev {v : List Int} (he : Gr.errno v = 0) : Gr.errno (Gr.revV v) = 0 := by
  obtain ⟨hl, hg⟩ := Gr.errno_zero he
  unfold Gr.errno
  rw [Gr.rev_len, if_neg (by omega), if_pos (Gr.rev_good hg)]
theorem loop_rev {v : List Int} (he : Gr.errno v = 0) : hasLoop (Gr.revV v) = hasLoop v := by
  rw [loop_iff he, loop_iff (errno_rev he), Gr.rev_all (Gr.errno_zero he).2]
theorem find_rev : ∀ {V : List (List Int)}, (∀ v ∈ V, Gr.errno v = 0) → (V.map Gr.revV).findIdx? hasLoop = V.findIdx? hasLoop
  | [], _ => rfl
  | u :: V, hV => by
    rw [List.map_cons, List.findIdx?_cons, List.findIdx?_cons, loop_rev (hV u List.mem_cons_self), find_rev fun w hw => hV w (List.mem_cons_of_mem _ hw)]
theorem loopy_ren {net : List (List RuleT)} (h : Small net) : loopy (renN net) = loopy net := by
  unfold loopy
  rw [cuts_ren h, atoms_ren h.ok]
  exact find_rev fun v hv => by obtain ⟨a, rfl⟩ := (sinv net (cutsL net)).vec v hv; exact vecL_good h.ok a
theorem ranks_rev {v : List Int} (he : Gr.errno v = 0) (h : hasLoop v = false) : (ranksN (Gr.revV v)).reverse = ranksN v := by
  obtain ⟨_, hg⟩ := Gr.errno_zero he
  have ha := ranked_of he h
  have hl : (ranksN (Gr.revV v)).length = v.length := by simp [ranksN, Gr.rev_len]
  apply List.ext_getElem
  · rw [List.length_reverse, hl]; simp [ranksN]
  · intro i h1 h2
    have hi : i < v.length := by simpa [ranksN] using h2
    obtain ⟨k, hk⟩ := (Gr.allRanked_iff hg).1 ha i hi
    rw [List.getElem_reverse]
    simp only [ranksN, List.getElem_map, List.getElem_range, List.length_map, List.length_range]
    rw [Gr.rankOf_eq hg hk, Gr.rev_len, Gr.rankOf_eq (Gr.rev_good hg) (Gr.rev_rank hg hk)]
/-- A part, its ranks counted from the other end. -/
def backP (p : PartT) : PartT := ⟨p.f, p.t, p.ranks.reverse⟩
theorem cert_ren {net : List (List RuleT)} (h : Small net) : (certOf (renN net)).verdict = (certOf net).verdict ∧ (certOf (renN net)).dest = (certOf net).dest ∧ (certOf (renN net)).parts.map backP = (certOf net).parts := by
  have hr := loopy_ren h
  cases e : loopy net with
  | some i =>
    rw [e] at hr
    rw [cert_loop e, cert_loop hr, cuts_ren h, atoms_ren h.ok]
    exact ⟨rfl, rfl, rfl⟩
  | none =>
    have e2 := e
    rw [e] at hr
    rw [cert_free e, cert_free hr, cuts_ren h, atoms_ren h.ok]
    refine ⟨rfl, rfl, ?_⟩
    obtain ⟨hl, hb, _⟩ := cuts_ok h.ok
    have hs := sok h.ok h.some_ hl hb (by have := h.cuts; omega)
    unfold loopy at e2
    have hnl := List.findIdx?_eq_none_iff.1 e2
    show ((List.range _).map (partOf _)).map backP = (List.range _).map (partOf _)
    rw [List.map_map]
    refine List.map_congr_left fun j hj => ?_
    have hjF := List.mem_range.1 hj
    have hjH : j < (atomsTo net (cutsL net)).H.length := by rw [← hs.len]; exact hjF
    have hk := hs.lt _ (List.getElem_mem hjH)
    have hv := List.getElem_mem hk
    have e3 : ((atomsTo net (cutsL net)).V.map Gr.revV).getD ((atomsTo net (cutsL net)).H.getD j 0) [] = Gr.revV ((atomsTo net (cutsL net)).V[(atomsTo net (cutsL net)).H[j]]) := by
      rw [getD_lt hjH, getD_lt (by simpa using hk)]
      simp
    have e4 : (atomsTo net (cutsL net)).V.getD ((atomsTo net (cutsL net)).H.getD j 0) [] = (atomsTo net (cutsL net)).V[(atomsTo net (cutsL net)).H[j]] := by
      rw [getD_lt hjH, getD_lt hk]
    show (⟨_, _, (ranksN (((atomsTo net (cutsL net)).V.map Gr.revV).getD ((atomsTo net (cutsL net)).H.getD j 0) [])).reverse⟩ : PartT) = ⟨_, _, ranksN ((atomsTo net (cutsL net)).V.getD ((atomsTo net (cutsL net)).H.getD j 0) [])⟩
    rw [e3, e4, ranks_rev (hs.vec _ hv) (by simpa using hnl _ hv)]
    rfl
/-! ### going round -/
theorem iter_rev {v : List Int} (hg : Gr.goodB v = true) : ∀ (k : Nat) {u : Nat}, u < v.length → Gr.iter (Gr.revV v) k (v.length - 1 - u) = (Gr.iter v k u).map fun y => v.length - 1 - y := by
  intro k
  induction k with
  | zero => intro u _; rfl
  | succ k ih =>
    intro u hu
    cases e : Gr.iter v k u with
    | none =>
      have h1 := ih hu
      rw [e] at h1
      have h2 : Gr.iter v (k + 1) u = none := by rw [Gr.iter_add k 1 u, e]; rfl
      have h3 : Gr.iter (Gr.revV v) (k + 1) (v.length - 1 - u) = none := by rw [Gr.iter_add k 1, h1]; rfl
      rw [h2, h3]; rfl
    | some y =>
      have h1 := ih hu
      rw [e] at h1
      have hy := Gr.iter_lt hg hu e
      rw [iter_last e, iter_last (show Gr.iter (Gr.revV v) k (v.length - 1 - u) = some (v.length - 1 - y) from h1)]
      cases hn : Gr.nxt v y with
      | none => rw [Gr.rev_none hy hn]; rfl
      | some z => rw [Gr.rev_some hg hn]; rfl
theorem cyc_rev {v : List Int} (hg : Gr.goodB v = true) {u : Nat} (hu : u < v.length) : Gr.cycB (Gr.revV v) (v.length - 1 - u) = Gr.cycB v u := by
  unfold Gr.cycB
  rw [Gr.rev_len]
  congr 1
  funext k
  rw [iter_rev hg (k + 1) hu]
  cases e : Gr.iter v (k + 1) u with
  | none => rfl
  | some y =>
    have hy := Gr.iter_lt hg hu e
    show (some (v.length - 1 - y) == some (v.length - 1 - u)) = (some y == some u)
    rw [Bool.eq_iff_iff]
    simp only [beq_iff_eq, Option.some.injEq]
    omega
theorem round_ren {net : List (List RuleT)} (h : Small net) (a : Nat) : roundB (renN net) a = roundB net a := by
  have hg := (Gr.errno_zero (vecL_good h.ok a)).2
  have hl := vecL_len net a
  unfold roundB
  rw [renN_len, vec_ren h.ok, Bool.eq_iff_iff, List.any_eq_true, List.any_eq_true]
  constructor
  · rintro ⟨u, hu, hc⟩
    have hu := List.mem_range.1 hu
    refine ⟨net.length - 1 - u, List.mem_range.2 (by omega), ?_⟩
    have := cyc_rev hg (u := net.length - 1 - u) (by omega)
    rw [← this, hl, show net.length - 1 - (net.length - 1 - u) = u by omega]
    exact hc
  · rintro ⟨u, hu, hc⟩
    have hu := List.mem_range.1 hu
    refine ⟨net.length - 1 - u, List.mem_range.2 (by omega), ?_⟩
    have := cyc_rev hg (u := u) (by omega)
    rw [hl] at this
    rw [this]
    exact hc
end Go.Proofs.YtpjoefekhgmlhaaGreat.Tp

namespace Go.Proofs.YtpjoefekhgmlhaaGreat.Tp
open Go.RowKit Mem

/-- v nodes are laid; w0: the world in which the loop begins, g: the row's block. -/
structure OutSt (b0 : Nat) (w0 W : World) (g n : Nat) (net : List (List RuleT)) (v : Nat) (vs : List Value) : Prop where
  len : vs.length = n
  row : VRow W g vs
  done : ∀ u, u < v → ∃ B c, vs[n - 1 - u]? = some (.slice B (net.getD u []).length c) ∧ RulesAt W B (renT n (net.getD u [])) ∧ (∀ a, B = some a → w0.heap.size ≤ a.block) ∧ (net.getD u []).length ≤ c ∧ c ≤ 9223372036854775807
  todo : ∀ u, v ≤ u → u < n → vs[n - 1 - u]? = some (.slice none 0 0)
  far : ∀ b, b < w0.heap.size → b ≠ g → W.heap[b]? = w0.heap[b]?
  bel : Below b0 w0 W
  glt : g < w0.heap.size
  bg : b0 ≤ g
/-- .. and i rules of the next one. -/
structure RenSt (b0 : Nat) (w0 W : World) (g n : Nat) (net : List (List RuleT)) (v i : Nat) (S : Option Addr) (cS : Nat) (vs : List Value) : Prop where
  len : vs.length = n
  row : VRow W g vs
  cur : vs[n - 1 - v]? = some (.slice S i cS)
  own : W.ownsRow w0.heap.size 43 4 (.slice S i cS) i (rcs ((renT n (net.getD v [])).take i))
  done : ∀ u, u < v → ∃ B c, vs[n - 1 - u]? = some (.slice B (net.getD u []).length c) ∧ RulesAt W B (renT n (net.getD u [])) ∧ (∀ a, B = some a → w0.heap.size ≤ a.block ∧ (0 < (net.getD u []).length → ob S ≠ some a.block)) ∧ (net.getD u []).length ≤ c ∧ c ≤ 9223372036854775807
  todo : ∀ u, v < u → u < n → vs[n - 1 - u]? = some (.slice none 0 0)
  far : ∀ b, b < w0.heap.size → b ≠ g → W.heap[b]? = w0.heap[b]?
  bel : Below b0 w0 W
  glt : g < w0.heap.size
  bg : b0 ≤ g
theorem OutSt.begin {b0 : Nat} {w0 W : World} {g n : Nat} {net : List (List RuleT)} {v : Nat} {vs : List Value} (h : OutSt b0 w0 W g n net v vs) (hv : v < n) : RenSt b0 w0 W g n net v 0 none 0 vs :=
  ⟨h.len, h.row, h.todo v (Nat.le_refl _) hv, by simpa [rcs] using World.ownsRow_nil W w0.heap.size 43 4,
    fun u hu => by obtain ⟨B, c, e, hl, hb, hc⟩ := h.done u hu; exact ⟨B, c, e, hl, fun a ha => ⟨hb a ha, fun _ e2 => by cases e2⟩, hc⟩,
    fun u h1 h2 => h.todo u (by omega) h2, h.far, h.bel, h.glt, h.bg⟩
theorem RenSt.finish {b0 : Nat} {w0 W : World} {g n : Nat} {net : List (List RuleT)} {v i : Nat} {S : Option Addr} {cS : Nat} {vs : List Value} (h : RenSt b0 w0 W g n net v i S cS vs) (hi : i = (net.getD v []).length) : OutSt b0 w0 W g n net (v + 1) vs := by
  refine ⟨h.len, h.row, fun u hu => ?_, fun u h1 h2 => h.todo u (by omega) h2, h.far, h.bel, h.glt, h.bg⟩
  by_cases e : u = v
  · subst e
    obtain ⟨A, cp, he, hc1, hc2⟩ := own_form h.own
    injection he with e1 e2 e3
    subst e3
    refine ⟨S, cS, by rw [← hi]; exact h.cur, ?_, fun a ha => ?_, by rw [← hi]; exact hc1, hc2⟩
    · have hl := Lies.of_own h.own
      rw [List.take_of_length_le (by simp [renT, hi])] at hl
      exact hl
    · exact (h.own.lt a.block (by rw [ob_eq, ha]; rfl)).1
  · obtain ⟨B, c, e, hl, hb, hc⟩ := h.done u (by omega)
    exact ⟨B, c, e, hl, fun a ha => (hb a ha).1, hc⟩
theorem RenSt.below {b0 : Nat} {w0 W W' : World} {g n : Nat} {net : List (List RuleT)} {v i : Nat} {S : Option Addr} {cS : Nat} {vs : List Value} (h : RenSt b0 w0 W g n net v i S cS vs) (hb : Below W.heap.size W W') : RenSt b0 w0 W' g n net v i S cS vs := by
  have hsz : w0.heap.size ≤ W.heap.size := h.bel.size
  refine ⟨h.len, h.row.below hb h.row.lt, h.cur, own_below h.own hb, fun u hu => ?_, h.todo, fun b h1 h2 => (hb.block b (by omega)).trans (h.far b h1 h2), h.bel.trans (hb.mono (Nat.le_trans (Nat.le_trans h.bg (Nat.le_of_lt h.glt)) hsz)), h.glt, h.bg⟩
  obtain ⟨B, c, e, hl, hh⟩ := h.done u hu
  exact ⟨B, c, e, Lies.below hl hb, hh⟩
theorem RenSt.step {b0 : Nat} {w0 w5 w6 : World} {g n : Nat} {net : List (List RuleT)} {v i : Nat} {S S6 : Option Addr} {cS c6 : Nat} {vs : List Value} (h : RenSt b0 w0 w5 g n net v i S cS vs) (hv : v < n) (hi : i < (net.getD v []).length)
    (hO : w6.ownsRow w0.heap.size 43 4 (.slice S6 (i + 1) c6) (i + 1) (rcs ((renT n (net.getD v [])).take i) ++ rcs [renR n ((net.getD v [])[i])])) (hg : w5.grownBy w6 (ob S)) (hat : ob S6 = ob S ∨ ob S6 = some w5.heap.size) :
    RenSt b0 w0 (w6.setCell ⟨g, n - 1 - v, none⟩ (.slice S6 (i + 1) c6)) g n net v (i + 1) S6 c6 (vs.set (n - 1 - v) (.slice S6 (i + 1) c6)) := by
  have hsz : w0.heap.size ≤ w5.heap.size := h.bel.size
  have ho : ∀ b, ob S = some b → w0.heap.size ≤ b := fun b e => (h.own.lt b (by rw [ob_eq]; exact e)).1
  have ho6 : ∀ b, ob S6 = some b → w0.heap.size ≤ b := fun b e => (hO.lt b (by rw [ob_eq]; exact e)).1
  have hgl := h.glt
  have hrow6 : VRow w6 g vs := h.row.keep hg.size (hg.block g h.row.lt fun e => by have := ho g e.symm; omega)
  have hk : ∀ b, b < w5.heap.size → b ≠ g → ob S ≠ some b → (w6.setCell ⟨g, n - 1 - v, none⟩ (.slice S6 (i + 1) c6)).heap[b]? = w5.heap[b]? := fun b h1 h2 h3 =>
    (Below.heap_setCell w6 ⟨g, n - 1 - v, none⟩ _ b h2).trans (hg.block b h1 (Ne.symm h3))
  have hs7 : w5.heap.size ≤ (w6.setCell ⟨g, n - 1 - v, none⟩ (.slice S6 (i + 1) c6)).heap.size := by have := hg.size; simpa using this
  have hne : ∀ u, u < n → u ≠ v → n - 1 - u ≠ n - 1 - v := fun u h1 h2 => by omega
  refine ⟨by simp [h.len], hrow6.set_ _ _, ?_, ?_, fun u hu => ?_, fun u h1 h2 => ?_, fun b h1 h2 => ?_, ?_, h.glt, h.bg⟩
  · exact List.getElem?_set_self (by rw [h.len]; omega)
  · have hx : (renT n (net.getD v [])).take (i + 1) = (renT n (net.getD v [])).take i ++ [renR n ((net.getD v [])[i])] := by
      rw [List.take_succ_eq_append_getElem (by simpa [renT] using hi)]
      simp [renT]
    rw [hx, rcs_append]
    exact ownsRow_setCell_other hO (by rw [ob_eq]; intro e; have h9 : w0.heap.size ≤ g := ho6 _ e; omega) _
  · obtain ⟨B, c, e, hl, hb, hc⟩ := h.done u hu
    have hle : (renT n (net.getD u [])).length = (net.getD u []).length := by simp [renT]
    refine ⟨B, c, by rw [List.getElem?_set_ne (Ne.symm (hne u (by omega) (by omega)))]; exact e, ?_, fun a ha => ⟨(hb a ha).1, fun hp e2 => ?_⟩, hc⟩
    · refine lies_stay hl hs7 fun hp a ha => ?_
      have hp' : 0 < (net.getD u []).length := by rw [rcs_len, hle] at hp; omega
      exact hk _ (lies_block hl hp a ha) (by have := (hb a ha).1; omega) ((hb a ha).2 hp')
    · have h3 := (hb a ha).2 hp
      have h4 := lies_block hl (by rw [rcs_len, hle]; omega) a ha
      rcases hat with h5 | h5
      · rw [h5] at e2; exact h3 e2
      · rw [h5] at e2; injection e2 with e2; omega
  · rw [List.getElem?_set_ne (Ne.symm (hne u h2 (by omega)))]
    exact h.todo u h1 h2
  · exact (hk b (by omega) h2 (fun e => by have := ho b e; omega)).trans (h.far b h1 h2)
  · exact (h.bel.grown hg (Nat.le_trans (Nat.le_trans h.bg (Nat.le_of_lt h.glt)) hsz) (fun b e => by have := ho b e; have := h.bg; omega)).setCell (p := ⟨g, n - 1 - v, none⟩) h.bg _
theorem OutSt.net {b0 : Nat} {w0 W : World} {g n : Nat} {net : List (List RuleT)} {vs : List Value} (h : OutSt b0 w0 W g n net n vs) (hn : n = net.length) : NetAt W (some ⟨g, 0, none⟩) (renN net) := by
  subst hn
  refine ⟨vs, by rw [h.len, renN_len], h.row.lies, fun i hi => ?_⟩
  rw [renN_len] at hi
  obtain ⟨B, c, e, hl, -, h1, h2⟩ := h.done (net.length - 1 - i) (by omega)
  rw [show net.length - 1 - (net.length - 1 - i) = i by omega] at e
  have hx : (renN net)[i]'(by rw [renN_len]; exact hi) = renT net.length (net.getD (net.length - 1 - i) []) := by
    rw [getD_lt (show net.length - 1 - i < net.length by omega)]
    simp [renN]
  rw [hx]
  have hlen : (renT net.length (net.getD (net.length - 1 - i) [])).length = (net.getD (net.length - 1 - i) []).length := by simp [renT]
  exact ⟨B, c, by rw [hlen]; exact e, hl, by rw [hlen]; exact h1, h2⟩
end Go.Proofs.YtpjoefekhgmlhaaGreat.Tp

namespace Go.Proofs.YtpjoefekhgmlhaaGreat.Tp
open Go.RowKit Mem

/-- So many parts are made. -/
structure BSt (w6 : World) (x cv : Nat) (ps : List PartT) (j : Nat) (S : Option Addr) (cp : Nat) (vs : List Value) (wr : World) : Prop where
  row : VRow wr x [.int .i64 (cv : Int), .slice S j cp, .int .u32 0, .slice none 0 0]
  own : wr.ownsRow w6.heap.size 51 3 (.slice S j cp) j vs
  parts : RowsP w6 wr (ob S) vs (ps.take j)
  far : Far w6 wr x x
  lt : x < w6.heap.size
theorem BSt.below {w6 : World} {x cv : Nat} {ps : List PartT} {j : Nat} {S : Option Addr} {cp : Nat} {vs : List Value} {wr w : World} (h : BSt w6 x cv ps j S cp vs wr) (hb : Below wr.heap.size wr w) : BSt w6 x cv ps j S cp vs w :=
  ⟨h.row.below hb h.row.lt, own_below h.own hb, h.parts.below hb, h.far.on hb, h.lt⟩
theorem BSt.step {w6 : World} {x cv : Nat} {ps : List PartT} {j : Nat} {S S10 : Option Addr} {cp : Nat} {vs : List Value} {w8 w9 w10 : World} {lo hi nl mc c10 : Nat} {rn : List Nat} {Rc : Option Addr} (h : BSt w6 x cv ps j S cp vs w8)
    (hpt : ps.take (j + 1) = ps.take j ++ [⟨lo, hi, rn⟩]) (hnl : rn.length = nl)
    (hb9 : Below w8.heap.size w8 w9) (hLc : Lies w9 Rc (nums rn)) (hnc : Gr.New w8 Rc) (hmc1 : nl ≤ mc) (hmc2 : mc ≤ 9223372036854775807)
    (hO10 : w10.ownsRow w6.heap.size 51 3 (.slice S10 (j + 1) c10) (j + 1) (vs ++ [.int .u32 (lo : Int), .int .u32 (hi : Int), .slice Rc nl mc]))
    (hg10 : (w9.alloc (.cells #[.int .u32 (lo : Int), .int .u32 (hi : Int), .slice Rc nl mc] 51)).grownBy w10 (ob S))
    (hat10 : ob S10 = ob S ∨ ob S10 = some (w9.alloc (.cells #[.int .u32 (lo : Int), .int .u32 (hi : Int), .slice Rc nl mc] 51)).heap.size) :
    BSt w6 x cv ps (j + 1) S10 c10 (vs ++ [.int .u32 (lo : Int), .int .u32 (hi : Int), .slice Rc nl mc]) (w10.setCell ⟨x, 1, none⟩ (.slice S10 (j + 1) c10)) := by
  have hal := bal w9 (.cells #[.int .u32 (lo : Int), .int .u32 (hi : Int), .slice Rc nl mc] 51)
  have hS9 := (h.below hb9).below hal
  have hlt : ∀ g, ob S = some g → w6.heap.size ≤ g ∧ g < w8.heap.size := fun g hg => h.own.lt g (by rw [ob_eq]; exact hg)
  have hheld : Held w9 (ob S) Rc (nums rn) := Held.fresh (w0 := w8) hLc (fun a ha => hnc a ha) (fun g' hg' => (hlt g' hg').2)
  have hP10 := (((h.parts.below hb9).snoc (p := ⟨lo, hi, rn⟩) hheld (by show rn.length ≤ mc; omega) hmc2 (fun a ha => Nat.le_trans h.far.size (hnc a ha))).below hal).step hg10 hat10
  have hln : (⟨lo, hi, rn⟩ : PartT).ranks.length = nl := hnl
  rw [hln, ← hpt] at hP10
  have hne : ob S ≠ some x := fun e => by have := (hlt x e).1; have := h.lt; omega
  have hX10 := hS9.row.keep hg10.size (hg10.block x hS9.row.lt (fun e => hne e.symm))
  refine ⟨hX10.set_ 1 _, own_near hO10 (Near.set_ none x 1 w10 _) (fun e => by have h1 := (hO10.lt _ e).1; have := h.lt; omega), hP10.near (Near.set_ none x 1 w10 _) h.lt, hS9.far.two hg10 (fun g' e => (hlt g' e).1) 1 _, h.lt⟩
theorem int_info : (Tryz.prog.info? 3).map (fun i => (i.zero, i.size, i.bytes)) = some (some (.int .i64 0), 1, 8) := by kernel_rfl
end Go.Proofs.YtpjoefekhgmlhaaGreat.Tp

namespace Go.Proofs.YtpjoefekhgmlhaaGreat.Tp
open Go.RowKit Mem

/-- So many ranks of a part are laid back. -/
structure ISt (wx : World) (y pf pt : Nat) (rs : List Nat) (v : Nat) (Q : Option Addr) (cQ : Nat) (W : World) : Prop where
  row : VRow W y [.int .u32 (pf : Int), .int .u32 (pt : Int), .slice Q v cQ]
  own : W.ownsRow wx.heap.size 3 1 (.slice Q v cQ) v (nums (rs.take v))
  far : Far wx W y y
  lt : y < wx.heap.size
theorem ISt.below {wx W w : World} {y pf pt : Nat} {rs : List Nat} {v : Nat} {Q : Option Addr} {cQ : Nat} (h : ISt wx y pf pt rs v Q cQ W) (hb : Below W.heap.size W w) : ISt wx y pf pt rs v Q cQ w :=
  ⟨h.row.below hb h.row.lt, own_below h.own hb, h.far.on hb, h.lt⟩
theorem ISt.step {wx w5 w6 : World} {y pf pt : Nat} {rs : List Nat} {v : Nat} {Q S6 : Option Addr} {cQ c6 rk : Nat} (h : ISt wx y pf pt rs v Q cQ w5) (htk : rs.take (v + 1) = rs.take v ++ [rk])
    (hO : w6.ownsRow wx.heap.size 3 1 (.slice S6 (v + 1) c6) (v + 1) (nums (rs.take v) ++ [.int .i64 (rk : Int)])) (hg : w5.grownBy w6 (ob Q)) :
    ISt wx y pf pt rs (v + 1) S6 c6 (w6.setCell ⟨y, 2, none⟩ (.slice S6 (v + 1) c6)) := by
  have hlt : ∀ g, ob Q = some g → wx.heap.size ≤ g := fun g hg => (h.own.lt g (by rw [ob_eq]; exact hg)).1
  have hne : ob Q ≠ some y := fun e => by have := hlt y e; have := h.lt; omega
  have hX := h.row.keep hg.size (hg.block y h.row.lt (fun e => hne e.symm))
  refine ⟨hX.set_ 2 _, ?_, h.far.two hg hlt 2 _, h.lt⟩
  have hO' : w6.ownsRow wx.heap.size 3 1 (.slice S6 (v + 1) c6) (v + 1) (nums (rs.take (v + 1))) := by rw [htk]; simpa [nums] using hO
  exact own_near hO' (Near.set_ none y 2 w6 _) (fun e => by have h1 := (hO.lt _ e).1; have := h.lt; omega)
theorem num_one (x : Nat) : ∀ u ∈ [Value.int .i64 (x : Int)], u.oneCell' = true := by intro u hu; simp at hu; subst hu; rfl
theorem back_take {ps : List PartT} {j : Nat} (h : j < ps.length) : (ps.map backP).take (j + 1) = (ps.map backP).take j ++ [backP ps[j]] := by
  rw [List.take_succ_eq_append_getElem (by rw [List.length_map]; exact h), List.getElem_map]
theorem rev_take {rn : List Nat} {n v p : Nat} (hn : rn.length = n) (hv : v < n) (hp : p = n - 1 - v) : rn.reverse.take (v + 1) = rn.reverse.take v ++ [rn.getD p 0] := by
  rw [List.take_succ_eq_append_getElem (by rw [List.length_reverse]; omega), List.getElem_reverse, getD_lt (by omega)]
  subst hp hn
  rfl
end Go.Proofs.YtpjoefekhgmlhaaGreat.Tp
namespace Go.Proofs.YtpjoefekhgmlhaaGreat.Odr
/-- A take whose slot is named. -/
theorem wpAnyL_takeD {P : Program} {ops : Array Oper} {Q : Exit → Act → World → Prop} {md : Region.Mode} {S : World → Prop} {f i : Nat} {oi : Oper} {v : Value} {fuel : Nat} {listed : Array Bool} {a : Act} {w : World} (d : Tmp) (hi : ops[i]? = some oi) (hd : oi.dst = some d)
    (hs : Region.noSelect ops = true) (hf : Region.free md ops listed i = true) (hr : (Region.ready md ops listed).contains i = true) (hif : i ≠ f) (hw : waits md ops f i = true)
    (hQ : ∀ c a w, Q (.panic c) (a.put (some d) v) w → Q (.panic c) a w) (hy : YieldsIf P ops S oi v a) (hS : S w)
    (h : wpAnyL P md ops Q S f fuel (listed.setIfInBounds i true) (a.put (some d) v) w) : wpAnyL P md ops Q S f (fuel + 1) listed a w :=
  wpAnyL_take hi hs hf hr hif hw (by rw [hd]; exact hQ) hy hS (by rw [hd]; exact h)
end Go.Proofs.YtpjoefekhgmlhaaGreat.Odr
