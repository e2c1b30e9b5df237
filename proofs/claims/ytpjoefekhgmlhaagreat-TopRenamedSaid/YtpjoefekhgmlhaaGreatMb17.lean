/- CONTRACTS of check: steps, its function, fall. Conditions: the network may be; one rank of each node. · CONTRACTS of cert: what is outside; slices.ContainsFunc with it; Meet. · CONTRACT of cert.Meet of parts that meet. · CONTRACT of cert.loops of traces that begin with their least node, each node once. -/
import Derived.Test.YtpjoefekhgmlhaaGreatMb14
import Derived.Laws.EntriesVeiled
import Derived.Maps.OwnOps
import Derived.Maps.Views
namespace Go.Proofs.YtpjoefekhgmlhaaGreat.Tp
open Go.RowKit Mem

theorem find_mem {l : List RuleT} {a : Nat} {r : RuleT} (h : findL l a = some r) : r ∈ l := by
  have key : ∀ (l : List RuleT) (o : Option RuleT), (∀ b, o = some b → b = r → True) → ∀ s, l.foldl (pickR a) o = some s → s ∈ l ∨ o = some s := by
    intro l
    induction l with
    | nil => intro o _ s hs; exact .inr hs
    | cons x l ih =>
      intro o _ s hs
      rcases ih (pickR a o x) (fun _ _ _ => trivial) s hs with h1 | h1
      · exact .inl (List.mem_cons_of_mem _ h1)
      · unfold pickR at h1
        split at h1
        · split at h1
          · injection h1 with h1; exact .inl (by rw [← h1]; simp)
          · split at h1
            · exact .inr h1
            · injection h1 with h1; exact .inl (by rw [← h1]; simp)
        · exact .inr h1
  rcases key l none (fun _ _ _ => trivial) r h with h1 | h1
  · exact h1
  · cases h1
theorem step_lt {net : List (List RuleT)} (h : NetOk net) {a v w : Nat} (hs : stepN net a v = some w) : w < net.length := by
  unfold stepN at hs
  split at hs
  · cases hs
  · rename_i l hl
    unfold nextL at hs
    split at hs
    · cases hs
    · rename_i r hr
      split at hs
      · rename_i hact
        injection hs with hs
        have hlm : l ∈ net := List.mem_of_getElem? hl
        have hok := ((h.table l hlm).rule r (find_mem hr)).act
        rcases hok with ⟨_, h2⟩ | ⟨h2, _⟩
        · omega
        · omega
      · cases hs

/-! ### the function that steps -/
/-- A function value that steps on a network. -/
def StepFn (w : World) (f : Value) (net : List (List RuleT)) : Prop :=
  ∃ g A c, f = .func (.func 101) #[] #[.pointer (some ⟨g, 0, none⟩)] ∧ g < w.heap.size ∧ w.cell? ⟨g, 0, none⟩ = some (.slice A net.length c) ∧ NetAt w A net
theorem StepFn.below {w w' : World} {f : Value} {net : List (List RuleT)} (h : StepFn w f net) (hb : Below w.heap.size w w') : StepFn w' f net := by
  obtain ⟨g, A, c, e, hg, hc, hN⟩ := h
  exact ⟨g, A, c, e, Nat.lt_of_lt_of_le hg hb.size, (hb.cell (p := ⟨g, 0, none⟩) hg).trans hc, hN.below hb⟩
set_option maxHeartbeats 400000 in
theorem stepf_any (A : Option Addr) (c g : Nat) (net : List (List RuleT)) (a v : Nat) (w : World) (hc : w.cell? ⟨g, 0, none⟩ = some (.slice A net.length c)) (hN : NetAt w A net) (h : NetOk net) (hv : v < net.length) (ha : a < 4294967296) :
    Calls Tryz.prog 101 #[.int .u32 (a : Int), .int .i64 (v : Int), .pointer (some ⟨g, 0, none⟩)] w fun e w' => e = .returned (.tuple #[optInt (stepN net a v), .bool (stepN net a v).isSome]) ∧ Below w.heap.size w w' := by
  have hs := step_any A c net a v w hN h hv ha
  have HS := Lib.hid hs
  generalize stepN net a v = o at *
  clear hs h hN
  go_enter Tryz.func101, Tryz.ntmps101
  go_wp2_with fail
  refine (HS.out).mono ?_
  rintro e w2 ⟨rfl, hb2⟩
  go_wp2_with fail
  go_ret2
  exact ⟨rfl, hb2⟩
def StepsPost (w : World) (net : List (List RuleT)) (e : Ending) (w' : World) : Prop := ∃ f, e = .returned (.agg #[.int .i64 (net.length : Int), f]) ∧ StepFn w' f net ∧ Below w.heap.size w w'
set_option maxHeartbeats 400000 in
theorem steps_any (A : Option Addr) (c : Nat) (net : List (List RuleT)) (w : World) (hN : NetAt w A net) :
    Calls Tryz.prog 61 #[.agg #[.slice A net.length c]] w (StepsPost w net) := by
  have HN := Lib.hid hN
  clear hN
  go_enter Tryz.func61, Tryz.ntmps61
  go_wp2_with fail
  have hb1 : Below w.heap.size w (w.alloc (.cells #[.slice A net.length c] 24)) := (Below.refl _ _).alloc (Nat.le_refl _) _
  have hc1 : (w.alloc (.cells #[.slice A net.length c] 24)).cell? ⟨w.heap.size, 0, none⟩ = some (.slice A net.length c) := by
    rw [cell_of_row _ _ 0 _ _ (0, 0) (heap_alloc_new w _)]; rfl
  have hs : StepFn (w.alloc (.cells #[.slice A net.length c] 24)) (.func (.func 101) #[] #[.pointer (some ⟨w.heap.size, 0, none⟩)]) net :=
    ⟨w.heap.size, A, c, rfl, by simp, hc1, HN.out.below hb1⟩
  refine bodyPost_ret (v := .agg #[.int .i64 (net.length : Int), .func (.func 101) #[] #[.pointer (some ⟨w.heap.size, 0, none⟩)]]) (by simp [results, Tryz.results61, go_sem]) rfl ⟨_, rfl, hs.below ((Below.refl _ _).alloc (Nat.le_refl _) _), hb1.alloc hb1.size _⟩

/-! ### ranks fall -/
abbrev u32s (l : List Nat) : List Value := l.map fun x : Nat => Value.int .u32 (x : Int)
abbrev nums (l : List Nat) : List Value := l.map fun x : Nat => Value.int .i64 (x : Int)
def passV (net : List (List RuleT)) (rl : List Nat) (a v : Nat) : Bool := match stepN net a v with
  | none => true
  | some w => decide (rl.getD w 0 < rl.getD v 0)
def passA (net : List (List RuleT)) (rl : List Nat) (a : Nat) : Bool := (List.range net.length).all (passV net rl a)
def fallB (net : List (List RuleT)) (pts rl : List Nat) : Bool := pts.all (passA net rl)
theorem passA_of {net : List (List RuleT)} {rl : List Nat} {a : Nat} (h : ∀ v, v < net.length → passV net rl a v = true) : passA net rl a = true := by
  unfold passA; rw [List.all_eq_true]; exact fun v hv => h v (List.mem_range.1 hv)
theorem fallB_of {net : List (List RuleT)} {pts rl : List Nat} (h : ∀ i (hi : i < pts.length), passA net rl pts[i] = true) : fallB net pts rl = true := by
  unfold fallB; rw [List.all_eq_true]
  intro a ha
  obtain ⟨i, hi, rfl⟩ := List.mem_iff_getElem.1 ha
  exact h i hi
theorem fallB_no {net : List (List RuleT)} {pts rl : List Nat} {i v : Nat} (hi : i < pts.length) (hv : v < net.length) (h : passV net rl pts[i] v = false) : fallB net pts rl = false := by
  cases hf : fallB net pts rl with
  | false => rfl
  | true =>
    unfold fallB at hf
    rw [List.all_eq_true] at hf
    have := hf _ (List.getElem_mem hi)
    unfold passA at this
    rw [List.all_eq_true] at this
    rw [this v (List.mem_range.2 hv)] at h
    cases h
def FallPost (b : Bool) (w : World) (e : Ending) (w' : World) : Prop := e = .returned (.int .i64 (if b then 0 else 16)) ∧ Below w.heap.size w w'

set_option maxRecDepth 100000 in
set_option maxHeartbeats 2000000 in
theorem fall_any (f : Value) (A B : Option Addr) (c d : Nat) (net : List (List RuleT)) (pts rl : List Nat) (w : World) (hf : StepFn w f net) (h : NetOk net) (hA : Lies w A (u32s pts)) (hB : Lies w B (nums rl)) (hrl : rl.length = net.length) (hp : ∀ a ∈ pts, a < 4294967296) (hpl : pts.length ≤ 1000000) :
    Calls Tryz.prog 62 #[.agg #[.int .i64 (net.length : Int), f], .slice A pts.length c, .slice B rl.length d] w (FallPost (fallB net pts rl) w) := by
  obtain ⟨g, N, cN, rfl, hg, hgc, hN⟩ := hf
  have hln := h.nodes
  have H := Lib.hid h
  have HP := Lib.hid hp
  obtain ⟨fb, hfb⟩ : ∃ fb, fb = fallB net pts rl := ⟨_, rfl⟩
  rw [← hfb]
  have HFB := Lib.hid hfb
  have HRL := Lib.hid hrl
  have hrln : rl.length ≤ 256 := by omega
  clear h hp hfb
  go_enter Tryz.func62, Tryz.ntmps62
  clear hrl
  go_wp2_with fail
  have hb1 : Below w.heap.size w (w.alloc (.cells #[.int .i64 (net.length : Int), .func (.func 101) #[] #[.pointer (some ⟨g, 0, none⟩)]] 123)) := (Below.refl _ _).alloc (Nat.le_refl _) _
  have hx0 : (w.alloc (.cells #[.int .i64 (net.length : Int), .func (.func 101) #[] #[.pointer (some ⟨g, 0, none⟩)]] 123)).cell? ⟨w.heap.size, 0, none⟩ = some (.int .i64 (net.length : Int)) := by rw [cell_of_row _ _ 0 _ _ (0, 0) (heap_alloc_new w _)]; rfl
  have hx1 : (w.alloc (.cells #[.int .i64 (net.length : Int), .func (.func 101) #[] #[.pointer (some ⟨g, 0, none⟩)]] 123)).cell? ⟨w.heap.size, 1, none⟩ = some (.func (.func 101) #[] #[.pointer (some ⟨g, 0, none⟩)]) := by rw [cell_of_row _ _ 1 _ _ (0, 0) (heap_alloc_new w _)]; rfl
  have hgx : w.heap.size < (w.alloc (.cells #[.int .i64 (net.length : Int), .func (.func 101) #[] #[.pointer (some ⟨g, 0, none⟩)]] 123)).heap.size := by simp
  generalize w.alloc (.cells #[.int .i64 (net.length : Int), .func (.func 101) #[] #[.pointer (some ⟨g, 0, none⟩)]] 123) = w1 at *
  have hA1 := hA.below hb1
  have hB1 := hB.below hb1
  have hN1 := hN.below hb1
  have hgc1 := (hb1.cell (p := ⟨g, 0, none⟩) hg).trans hgc
  have hg1 : g < w1.heap.size := Nat.lt_of_lt_of_le hg hb1.size
  clear hA hB hN hgc hg
  go_step3
  go_wp2_with fail
  go_step3
  go_wp2_with fail
  go_loopg [7, 15] pts.length (fun gn e i wr => ∃ k : Nat, k + gn = pts.length ∧ i = .int .i64 k ∧ e = .int .i64 0 ∧ Hid (∀ j (hj : j < pts.length), j < k → passA net rl pts[j] = true) ∧ Below w1.heap.size w1 wr)
  case atStart => exact ⟨0, by omega, rfl, rfl, Lib.hid (fun j hj h => absurd h (by omega)), Below.refl _ _⟩
  case round =>
    obtain ⟨k, hk, rfl, rfl, HALL, hbr⟩ := hrel
    have hkl : k ≤ pts.length := by omega
    by_cases hlt : k < pts.length
    · obtain ⟨bA, oA, hAe, hbA, hcA0⟩ := Lies.at_map hA1 hlt
      have hcA := (hbr.cell (p := ⟨bA, oA + k, none⟩) hbA).trans hcA0
      obtain ⟨a, hae⟩ : ∃ a, a = pts[k] := ⟨_, rfl⟩
      have ha : a < 4294967296 := by rw [hae]; exact HP.out _ (List.getElem_mem hlt)
      rw [← hae] at hcA
      have hxr0 := (hbr.cell (p := ⟨w.heap.size, 0, none⟩) hgx).trans hx0
      have HAE := Lib.hid hae
      have HA1 := Lib.hid hA1
      obtain ⟨wo, rfl⟩ : ∃ wo : World, wo = wr := ⟨_, rfl⟩
      clear hcA0 hae hA1
      subst hAe
      go_wp2_with fail
      go_loopg [7, 21] net.length (fun gi e i wr => ∃ v : Nat, v + gi = net.length ∧ i = .int .i64 v ∧ e = .int .i64 0 ∧ Hid (∀ u, u < v → passV net rl a u = true) ∧ Below w1.heap.size w1 wr)
      case atStart => exact ⟨0, by omega, rfl, rfl, Lib.hid (fun u h => absurd h (by omega)), hbr⟩
      case round =>
        clear hbr hcA hxr0
        obtain ⟨v, hv, rfl, rfl, HV, hbi⟩ := hrel
        have hvl : v ≤ net.length := by omega
        by_cases hltv : v < net.length
        · have hxi0 := (hbi.cell (p := ⟨w.heap.size, 0, none⟩) hgx).trans hx0
          have hxi1 := (hbi.cell (p := ⟨w.heap.size, 1, none⟩) hgx).trans hx1
          have hst := stepf_any N cN g net a v wr ((hbi.cell (p := ⟨g, 0, none⟩) hg1).trans hgc1) (hN1.below hbi) H.out hltv ha
          have hfin : (∀ u, u < net.length → passV net rl a u = true) → ∀ j (hj : j < pts.length), j < k + 1 → passA net rl pts[j] = true := fun hu j hj hjk => by
            by_cases e : j = k
            · subst e; rw [← HAE.out]; exact passA_of hu
            · exact HALL.out j hj (by omega)
          cases ho : stepN net a v with
          | none =>
            rw [ho] at hst
            have hpv : passV net rl a v = true := by unfold passV; rw [ho]
            have HST := Lib.hid hst
            have HPV := Lib.hid hpv
            clear hst ho hpv hfin
            go_wp2_with fail
            refine (HST.out).mono ?_
            rintro e w2 ⟨rfl, hb2⟩
            simp only [Option.isSome_none]
            go_wp2_with fail
            go_roundg (net.length - (v + 1))
            case measure => omega
            case rel => exact ⟨v + 1, by omega, by go_num, rfl, Lib.hid (fun u hu => by
              by_cases e : u = v
              · subst e; exact HPV.out
              · exact HV.out u (by omega)), hbi.trans (hb2.mono hbi.size)⟩
          | some z =>
            rw [ho] at hst
            have hzl := step_lt H.out ho
            have hrlv : v < rl.length := by rw [HRL.out]; exact hltv
            have hrlz : z < rl.length := by rw [HRL.out]; exact hzl
            obtain ⟨bB, oB, hBe, hbB, hcv⟩ := Lies.at_map hB1 hrlv
            obtain ⟨bB', oB', hBe', hbB', hcz⟩ := Lies.at_map hB1 hrlz
            rw [hBe] at hBe'
            injection hBe' with hBe'
            injection hBe' with e1 e2 _
            subst e1 e2
            have hpv : passV net rl a v = decide (rl[z] < rl[v]) := by unfold passV; rw [ho]; simp [List.getD, hrlz, hrlv]
            obtain ⟨q, hq⟩ : ∃ q, q = rl[v] := ⟨_, rfl⟩
            obtain ⟨p, hp⟩ : ∃ p, p = rl[z] := ⟨_, rfl⟩
            rw [← hq] at hcv hpv
            rw [← hp] at hcz hpv
            have HST := Lib.hid hst
            have HPV := Lib.hid hpv
            have HB1 := Lib.hid hB1
            clear hst ho hpv hfin hq hp hB1
            subst hBe
            obtain ⟨qi, hqi⟩ : ∃ qi : Int, qi = (q : Int) := ⟨_, rfl⟩
            obtain ⟨pi, hpi⟩ : ∃ pi : Int, pi = (p : Int) := ⟨_, rfl⟩
            rw [← hqi] at hcv
            rw [← hpi] at hcz
            by_cases hpq : p < q
            · have c3 : decide (qi ≤ pi) = false := by rw [decide_eq_false_iff_not]; omega
              have hpv := HPV.out
              rw [decide_eq_true hpq] at hpv
              have HPT := Lib.hid hpv
              clear hpq hqi hpi hpv HPV
              go_wp2_with fail
              refine (HST.out).mono ?_
              rintro e w2 ⟨rfl, hb2⟩
              simp only [optInt, Option.isSome_some, Option.getD_some]
              have hb2w := hbi.trans (hb2.mono hbi.size)
              have hy0 := (hb2w.cell (p := ⟨w.heap.size, 0, none⟩) hgx).trans hx0
              have hyv := (hb2w.cell (p := ⟨bB, oB + v, none⟩) hbB).trans hcv
              have hyz := (hb2w.cell (p := ⟨bB, oB + z, none⟩) hbB).trans hcz
              obtain ⟨zi, hzi⟩ : ∃ zi : Int, zi = (z : Int) := ⟨_, rfl⟩
              obtain ⟨vi, hvi⟩ : ∃ vi : Int, vi = (v : Int) := ⟨_, rfl⟩
              have tz : z = zi.toNat := by omega
              have tv : v = vi.toNat := by omega
              rw [tz] at hyz
              rw [tv] at hyv
              rw [← hzi, ← hvi]
              have HVI := Lib.hid hvi
              have c1 : decide (zi < 0) = false := by rw [decide_eq_false_iff_not]; omega
              have c2 : decide ((net.length : Int) ≤ zi) = false := by rw [decide_eq_false_iff_not]; omega
              have i0 : 0 ≤ zi := by omega
              have i1 : zi < (rl.length : Int) := by omega
              have i2 : 0 ≤ vi := by omega
              have i3 : vi < (rl.length : Int) := by omega
              have HB2 := Lib.hid hb2w
              clear hb2 hzi hvi tz tv hcv hcz hb2w hxi0 hxi1
              go_wp2_with fail
              go_big_quiet (fail)
              go_wp2_with fail
              go_roundg (net.length - (v + 1))
              case measure => omega
              case rel => exact ⟨v + 1, by omega, by rw [HVI.out]; go_num, rfl, Lib.hid (fun u hu => by
                by_cases e : u = v
                · subst e; exact HPT.out
                · exact HV.out u (by omega)), by first | exact HB2.out | exact below_drawn HB2.out _⟩
            · have c3 : decide (qi ≤ pi) = true := by rw [decide_eq_true_eq]; omega
              have hpv := HPV.out
              rw [decide_eq_false hpq, HAE.out] at hpv
              have hno := fallB_no hlt hltv hpv
              rw [← HFB.out] at hno
              have HNO := Lib.hid hno
              clear hpq hqi hpi hpv HPV hno
              go_wp2_with fail
              refine (HST.out).mono ?_
              rintro e w2 ⟨rfl, hb2⟩
              simp only [optInt, Option.isSome_some, Option.getD_some]
              have hb2w := hbi.trans (hb2.mono hbi.size)
              have hy0 := (hb2w.cell (p := ⟨w.heap.size, 0, none⟩) hgx).trans hx0
              have hyv := (hb2w.cell (p := ⟨bB, oB + v, none⟩) hbB).trans hcv
              have hyz := (hb2w.cell (p := ⟨bB, oB + z, none⟩) hbB).trans hcz
              obtain ⟨zi, hzi⟩ : ∃ zi : Int, zi = (z : Int) := ⟨_, rfl⟩
              obtain ⟨vi, hvi⟩ : ∃ vi : Int, vi = (v : Int) := ⟨_, rfl⟩
              have tz : z = zi.toNat := by omega
              have tv : v = vi.toNat := by omega
              rw [tz] at hyz
              rw [tv] at hyv
              rw [← hzi, ← hvi]
              have HVI := Lib.hid hvi
              have c1 : decide (zi < 0) = false := by rw [decide_eq_false_iff_not]; omega
              have c2 : decide ((net.length : Int) ≤ zi) = false := by rw [decide_eq_false_iff_not]; omega
              have i0 : 0 ≤ zi := by omega
              have i1 : zi < (rl.length : Int) := by omega
              have i2 : 0 ≤ vi := by omega
              have i3 : vi < (rl.length : Int) := by omega
              have HB2 := Lib.hid hb2w
              clear hb2 hzi hvi tz tv hcv hcz hb2w hxi0 hxi1
              go_wp2_with fail
              go_big_quiet (fail)
              go_wp2_with fail
              rw [Exit.noGoto_ret]
              go_ret
              refine ⟨by rw [HNO.out]; rfl, ?_⟩
              first
                | exact hb1.trans (HB2.out.mono hb1.size)
                | exact hb1.trans ((below_drawn HB2.out _).mono hb1.size)
        · have ev : v = net.length := by omega
          have HEV := Lib.hid ev
          clear ev
          go_wp2_with fail
          go_roundg (pts.length - (k + 1))
          case measure => omega
          case rel => exact ⟨k + 1, by omega, by go_num, rfl, Lib.hid (fun j hj hjk => by
            by_cases e : j = k
            · subst e; rw [← HAE.out]; exact passA_of (fun u hu => HV.out u (by rw [HEV.out]; exact hu))
            · exact HALL.out j hj (by omega)), hbi⟩
    · have hyes : fallB net pts rl = true := fallB_of (fun j hj => HALL.out j hj (by omega))
      rw [← HFB.out] at hyes
      have HYES := Lib.hid hyes
      clear hyes
      go_wp2_with fail
      rw [Exit.noGoto_ret]
      go_ret
      exact ⟨by rw [HYES.out]; rfl, hb1.trans (hbr.mono hb1.size)⟩
end Go.Proofs.YtpjoefekhgmlhaaGreat.Tp

namespace Go.Proofs.YtpjoefekhgmlhaaGreat.Tp
open Go.RowKit Mem

/-- The function that tells what is no node. -/
def OutFn (w : World) (f : Value) (nodes : Nat) : Prop := ∃ g, f = .func (.func 57) #[] #[.pointer (some ⟨g, 0, none⟩)] ∧ g < w.heap.size ∧ w.cell? ⟨g, 0, none⟩ = some (.int .i64 (nodes : Int))
theorem OutFn.below {w w' : World} {f : Value} {nodes : Nat} (h : OutFn w f nodes) (hb : Below w.heap.size w w') : OutFn w' f nodes := by
  obtain ⟨g, e, hg, hc⟩ := h
  exact ⟨g, e, Nat.lt_of_lt_of_le hg hb.size, (hb.cell (p := ⟨g, 0, none⟩) hg).trans hc⟩
theorem outside_any (g nodes x : Nat) (w : World) (hc : w.cell? ⟨g, 0, none⟩ = some (.int .i64 (nodes : Int))) :
    Calls Tryz.prog 57 #[.int .i64 (x : Int), .pointer (some ⟨g, 0, none⟩)] w fun e w' => e = .returned (.bool (decide (nodes ≤ x))) ∧ w = w' := by
  by_cases h : nodes ≤ x
  · have e : decide (nodes ≤ x) = true := by simp [h]
    rw [e]
    have t1 : decide ((x : Int) < 0) = false := by rw [decide_eq_false_iff_not]; omega
    have t2 : decide ((nodes : Int) ≤ (x : Int)) = true := by rw [decide_eq_true_eq]; omega
    clear e
    go_enter Tryz.func57, Tryz.ntmps57
    go_wp2_with fail
    go_ret
    exact ⟨rfl, rfl⟩
  · have e : decide (nodes ≤ x) = false := by simp; omega
    rw [e]
    have t1 : decide ((x : Int) < 0) = false := by rw [decide_eq_false_iff_not]; omega
    have t2 : decide ((nodes : Int) ≤ (x : Int)) = false := by rw [decide_eq_false_iff_not]; omega
    clear e
    go_enter Tryz.func57, Tryz.ntmps57
    go_wp2_with fail
    go_ret
    exact ⟨rfl, rfl⟩
def outB (nodes : Nat) (l : List Nat) : Bool := l.any fun x => decide (nodes ≤ x)
theorem outB_of {nodes : Nat} {l : List Nat} (h : ∀ i (hi : i < l.length), l[i] < nodes) : outB nodes l = false := by
  unfold outB
  rw [List.any_eq_false]
  intro x hx
  obtain ⟨i, hi, rfl⟩ := List.mem_iff_getElem.1 hx
  have := h i hi
  simp; omega
theorem outB_yes {nodes : Nat} {l : List Nat} {i : Nat} (hi : i < l.length) (h : nodes ≤ l[i]) : outB nodes l = true := by
  unfold outB
  rw [List.any_eq_true]
  exact ⟨l[i], List.getElem_mem hi, by simp [h]⟩
def IxPost (b : Bool) (w : World) (e : Ending) (w' : World) : Prop := ∃ r : Int, e = .returned (.int .i64 r) ∧ decide (0 ≤ r) = b ∧ w = w'
set_option maxHeartbeats 1000000 in
theorem ixfunc_any (f : Value) (A : Option Addr) (c nodes : Nat) (l : List Nat) (w : World) (hf : OutFn w f nodes) (hA : Lies w A (nums l)) (hl : l.length ≤ 1000000) :
    Calls Tryz.prog 121 #[.slice A l.length c, f] w (IxPost (outB nodes l) w) := by
  obtain ⟨g, rfl, hg, hgc⟩ := hf
  obtain ⟨fb, hfb⟩ : ∃ fb, fb = outB nodes l := ⟨_, rfl⟩
  rw [← hfb]
  have HFB := Lib.hid hfb
  have hou := fun x => outside_any g nodes x w hgc
  have HO := Lib.hid hou
  clear hfb hou
  go_enter Tryz.func121, Tryz.ntmps121
  go_wp2_with fail
  go_loopw [8] (fun i wr => ∃ k : Nat, k ≤ l.length ∧ i = .int .i64 k ∧ Hid (∀ j (hj : j < l.length), j < k → l[j] < nodes) ∧ w = wr) (fun i _ => l.length - (intOf i).toNat)
  case atStart => exact ⟨0, by omega, rfl, Lib.hid (fun j hj h => absurd h (by omega)), rfl⟩
  case round =>
    obtain ⟨k, hk, rfl, HALL, rfl⟩ := hrel
    by_cases hlt : k < l.length
    · obtain ⟨b, off, rfl, hb, hc⟩ := Lies.at_map hA hlt
      obtain ⟨x, hx⟩ : ∃ x, x = l[k] := ⟨_, rfl⟩
      rw [← hx] at hc
      have hox := HO.out x
      by_cases hge : nodes ≤ x
      · rw [decide_eq_true hge] at hox
        have hyes := outB_yes (nodes := nodes) hlt (by rw [← hx]; exact hge)
        rw [← HFB.out] at hyes
        have HYES := Lib.hid hyes
        have HOX := Lib.hid hox
        clear hox hyes hge hx
        go_wp2_with fail
        refine (HOX.out).mono ?_
        rintro e w2 ⟨rfl, rfl⟩
        go_wp2_with fail
        go_ret
        exact ⟨(k : Int), rfl, by rw [HYES.out]; simp, rfl⟩
      · rw [decide_eq_false hge] at hox
        have hxk : l[k] < nodes := by rw [← hx]; omega
        have HXK := Lib.hid hxk
        have HOX := Lib.hid hox
        clear hox hxk hge hx
        go_wp2_with fail
        refine (HOX.out).mono ?_
        rintro e w2 ⟨rfl, rfl⟩
        go_wp2_with fail
        refine ⟨⟨k + 1, by omega, by go_num, Lib.hid (fun j hj hjk => by
          by_cases e : j = k
          · subst e; exact HXK.out
          · exact HALL.out j hj (by omega)), by trivial⟩, by simp [intOf]; omega⟩
    · have hno := outB_of (nodes := nodes) (fun i hi => HALL.out i hi (by omega))
      rw [← HFB.out] at hno
      have HNO := Lib.hid hno
      clear hno
      go_wp2_with fail
      go_ret
      exact ⟨-1, rfl, by rw [HNO.out]; decide, rfl⟩
theorem contains_any (f : Value) (A : Option Addr) (c nodes : Nat) (l : List Nat) (w : World) (hf : OutFn w f nodes) (hA : Lies w A (nums l)) (hl : l.length ≤ 1000000) :
    Calls Tryz.prog 99 #[.slice A l.length c, f] w fun e w' => e = .returned (.bool (outB nodes l)) ∧ w = w' := by
  have hix := ixfunc_any f A c nodes l w hf hA hl
  have HIX := Lib.hid hix
  generalize outB nodes l = b at *
  clear hix hf hA
  go_enter Tryz.func99, Tryz.ntmps99
  go_wp2_with fail
  refine (HIX.out).mono ?_
  rintro e w2 ⟨r, rfl, hr, rfl⟩
  have HR := Lib.hid hr
  clear hr
  go_wp2_with fail
  go_ret
  exact ⟨ret_bool HR.out, rfl⟩
end Go.Proofs.YtpjoefekhgmlhaaGreat.Tp

namespace Go.Proofs.YtpjoefekhgmlhaaGreat.Tp
open Go.RowKit Mem

/-- A part, as numbers. -/
structure PartT where
  f : Nat
  t : Nat
  ranks : List Nat
/-- A slice that reads as parts. -/
def PartsAt (w : World) (A : Option Addr) (ps : List PartT) : Prop :=
  ∃ vs : List Value, vs.length = ps.length * 3 ∧ Lies w A vs ∧ ∀ i (hi : i < ps.length), ∃ R c, vs[i * 3]? = some (.int .u32 (ps[i].f : Int)) ∧ vs[i * 3 + 1]? = some (.int .u32 (ps[i].t : Int)) ∧ vs[i * 3 + 2]? = some (.slice R ps[i].ranks.length c) ∧
    Lies w R (nums ps[i].ranks) ∧ ps[i].ranks.length ≤ c ∧ c ≤ 9223372036854775807
theorem PartsAt.below {w w' : World} {A : Option Addr} {ps : List PartT} (h : PartsAt w A ps) (hb : Below w.heap.size w w') : PartsAt w' A ps := by
  obtain ⟨vs, h1, h2, h3⟩ := h
  exact ⟨vs, h1, h2.below hb, fun i hi => by
    obtain ⟨R, c, e1, e2, e3, hr, hc⟩ := h3 i hi
    exact ⟨R, c, e1, e2, e3, hr.below hb, hc⟩⟩
theorem PartsAt.at_ {w : World} {A : Option Addr} {ps : List PartT} (h : PartsAt w A ps) {i : Nat} (hi : i < ps.length) :
    ∃ b off R c, A = some ⟨b, off, none⟩ ∧ b < w.heap.size ∧ w.cell? ⟨b, off + i * 3, none⟩ = some (.int .u32 (ps[i].f : Int)) ∧ w.cell? ⟨b, off + i * 3 + 1, none⟩ = some (.int .u32 (ps[i].t : Int)) ∧
      w.cell? ⟨b, off + i * 3 + 2, none⟩ = some (.slice R ps[i].ranks.length c) ∧ Lies w R (nums ps[i].ranks) ∧ ps[i].ranks.length ≤ c ∧ c ≤ 9223372036854775807 := by
  obtain ⟨vs, h1, h2, h3⟩ := h
  obtain ⟨R, c, e1, e2, e3, hr, hc⟩ := h3 i hi
  obtain ⟨b, off, eA, hb, hcell⟩ := h2 (by omega)
  exact ⟨b, off, R, c, eA, hb, hcell _ _ e1, by rw [Nat.add_assoc]; exact hcell _ _ e2, by rw [Nat.add_assoc]; exact hcell _ _ e3, hr, hc⟩
/-- Parts that are all addresses. -/
structure Meets (ps : List PartT) : Prop where
  some_ : 0 < ps.length
  few : ps.length ≤ 8193
  num : ∀ p ∈ ps, p.f < 4294967296 ∧ p.t < 4294967296
  first : ∀ h : 0 < ps.length, ps[0].f = 0
  last : ∀ h : ps.length - 1 < ps.length, ps[ps.length - 1].t = 4294967295
  le : ∀ i (hi : i < ps.length), ps[i].f ≤ ps[i].t
  next : ∀ i (hi : i + 1 < ps.length), ps[i].t ≠ 4294967295 ∧ ps[i + 1].f = ps[i].t + 1

set_option maxRecDepth 100000 in
set_option maxHeartbeats 1000000 in
theorem meet_any (A : Option Addr) (c : Nat) (ps : List PartT) (w : World) (hA : PartsAt w A ps) (h : Meets ps) :
    Calls Tryz.prog 98 #[.slice A ps.length c] w fun e w' => e = .returned (.int .i64 0) ∧ Below w.heap.size w w' := by
  have h0 := h.some_
  have hfew := h.few
  obtain ⟨b, off, R0, c0, hAe, hb, hc0, -, -, -⟩ := hA.at_ h0
  rw [h.first h0, Nat.zero_mul, Nat.add_zero] at hc0
  obtain ⟨b', off', R1, c1, hAe', hb', -, hcl, -, -⟩ := hA.at_ (show ps.length - 1 < ps.length by omega)
  rw [hAe] at hAe'
  injection hAe' with hAe'
  injection hAe' with e1 e2 _
  subst e1 e2
  rw [h.last (by omega)] at hcl
  obtain ⟨j, hj⟩ : ∃ j, j = ps.length - 1 := ⟨_, rfl⟩
  rw [← hj] at hcl
  have f1 : (ps.length : Int) - 1 = (j : Int) := by omega
  have t0 : ((ps.length : Int) == 0) = false := by rw [beq_eq_false_iff_ne]; omega
  have i0 : (0 : Int) ≤ (j : Int) := by omega
  have i1 : (j : Int) < (ps.length : Int) := by omega
  have H := Lib.hid h
  have HA := Lib.hid hA
  have HAE := Lib.hid hAe
  have HJ := Lib.hid hj
  clear h hA hj
  subst hAe
  go_enter Tryz.func98, Tryz.ntmps98
  go_wp2_with fail
  clear f1 t0
  go_loopw [27] (fun i wr => ∃ k : Nat, k ≤ ps.length ∧ i = .int .i64 k ∧ Below w.heap.size w wr) (fun i _ => ps.length - (intOf i).toNat)
  case atStart => exact ⟨0, by omega, rfl, Below.refl _ _⟩
  case round =>
    obtain ⟨k, hk, rfl, hbr⟩ := hrel
    by_cases hlt : k < ps.length
    · obtain ⟨b', off', R, cR, hAe', hb', hd0, hd1, hd2, -⟩ := HA.out.at_ hlt
      injection hAe' with hAe'
      injection hAe' with e1 e2 _
      subst e1 e2
      have hk0 := (hbr.cell (p := ⟨b, off + k * 3, none⟩) hb).trans hd0
      have hk1 := (hbr.cell (p := ⟨b, off + k * 3 + 1, none⟩) hb).trans hd1
      have hk2 := (hbr.cell (p := ⟨b, off + k * 3 + 2, none⟩) hb).trans hd2
      have hle := H.out.le k hlt
      have hnum := H.out.num _ (List.getElem_mem hlt)
      obtain ⟨p, hp⟩ : ∃ p, p = ps[k] := ⟨_, rfl⟩
      rw [← hp] at hk0 hk1 hk2 hle hnum
      obtain ⟨hn1, hn2⟩ := hnum
      have HP := Lib.hid hp
      clear hd0 hd1 hd2 hp
      have hbb : Below w.heap.size w (wr.alloc (.cells #[.int .u32 (p.f : Int), .int .u32 (p.t : Int), .slice R p.ranks.length cR] 51)) := hbr.alloc hbr.size _
      have HBB := Lib.hid hbb
      have hbw : b < wr.heap.size := Nat.lt_of_lt_of_le hb hbr.size
      by_cases h1 : 0 < k
      · obtain ⟨i, rfl⟩ : ∃ i, k = i + 1 := ⟨k - 1, by omega⟩
        obtain ⟨b', off', R', cR', hAe', hb', -, hd1, -, -⟩ := HA.out.at_ (show i < ps.length by omega)
        injection hAe' with hAe'
        injection hAe' with e1 e2 _
        subst e1 e2
        have hp1 := (hbr.cell (p := ⟨b, off + i * 3 + 1, none⟩) hb).trans hd1
        obtain ⟨hx1, hx2⟩ := H.out.next i hlt
        rw [← HP.out] at hx2
        obtain ⟨t, ht⟩ : ∃ t, t = ps[i].t := ⟨_, rfl⟩
        rw [← ht] at hp1 hx1 hx2
        have q1 : decide ((0 : Int) < (i : Int) + 1) = true := by rw [decide_eq_true_eq]; omega
        have q2 : ((t : Int) == 4294967295) = false := by rw [beq_eq_false_iff_ne]; omega
        have hxf : p.f < 4294967296 := hn1
        have q3 : IntKind.u32.wrap ((t : Int) + 1) = (p.f : Int) := by rw [IntKind.wrap_u32', hx2]; omega
        have q4 : ((p.f : Int) != (p.f : Int)) = false := by simp
        have i2 : (0 : Int) ≤ (i : Int) := by omega
        have i3 : (i : Int) < (ps.length : Int) := by omega
        have q5 : IntKind.i64.wrap (i : Int) = (i : Int) := IntWalk.i64_in _ (by omega)
        clear ht hx1 hx2 hd1 hbb hbr
        go_wp2_with fail
        go_big_quiet (fail)
        clear q5
        go_wp2_with fail
        refine ⟨⟨i + 1 + 1, by omega, by go_num, ?_⟩, by simp [intOf]; omega⟩
        first
          | exact HBB.out
          | exact below_drawn HBB.out _
      · obtain rfl : k = 0 := by omega
        rw [Nat.zero_mul, Nat.add_zero] at hk0 hk1 hk2
        clear hbb hbr
        go_wp2_with fail
        go_big_quiet (fail)
        go_wp2_with fail
        refine ⟨⟨1, by omega, rfl, ?_⟩, by simp [intOf]; omega⟩
        first
          | exact HBB.out
          | exact below_drawn HBB.out _
    · go_wp2_with fail
      go_ret
      exact ⟨rfl, hbr⟩
end Go.Proofs.YtpjoefekhgmlhaaGreat.Tp

namespace Go.Proofs.YtpjoefekhgmlhaaGreat.Tp
open Go.RowKit Mem
open Go.Maps (Keyed IsMap atKey_put_same atKey_put_other)

theorem plainElem_bool_inv {P : Program} {e : TypeId} (he : P.underlying e = some .bool) {v : Value} {z : DataW Unit × List MemPlace} (h : plainElem P e v = some z) : ∃ x, v = .bool x ∧ z = (.lit (.bool x), []) := by
  unfold plainElem at h
  rw [he] at h
  cases v <;> simp at h
  exact ⟨_, rfl, h.symm⟩
theorem lookup_bool {P : Program} {k e t : TypeId} {w : World} {b n : Nat} {D : DataW Unit} (h : w.ownsMap P k (plainElem P e) b n D) (K : Keyed P k) (ht : P.underlying t = some (.map k e)) (he : P.underlying e = some .bool)
    (hz : (zeroValue e).run P w = .ok (.bool false) w) {key : Value} {kl : Lit} (hkey : keyOf P k key = some kl) {c : Bool} (hc : D.atKey kl (.lit (.bool false)) = .lit (.bool c)) :
    (Instr.lookup t (.map (some b)) key false).run P w = .ok (.bool c) w := by
  obtain ⟨v, ps, hrun, hv⟩ := h.lookup K ht hz (plainElem_bool he false) hkey
  obtain ⟨x, rfl, hx⟩ := plainElem_bool_inv he hv
  rw [hc] at hx
  simp only [Prod.mk.injEq, DataW.lit.injEq, Lit.bool.injEq] at hx
  rw [hrun, hx.1]
/-- The map holds just these, as true. -/
structure SetAt (D : DataW Unit) (l : List Nat) : Prop where
  map : IsMap D
  at_ : ∀ x : Nat, D.atKey (.int .i64 (x : Int)) (.lit (.bool false)) = .lit (.bool (decide (x ∈ l)))
theorem SetAt.put {D : DataW Unit} {l : List Nat} (h : SetAt D l) (x : Nat) : SetAt (D.put (.int .i64 (x : Int)) (.lit (.bool true))) (l ++ [x]) := by
  refine ⟨h.map.put _ _, fun y => ?_⟩
  by_cases e : y = x
  · subst e
    rw [atKey_put_same h.map (by trivial)]
    simp
  · rw [atKey_put_other (by intro e2; injection e2 with _ e2; exact e (by omega)), h.at_ y]
    simp [e]
theorem mapty : Tryz.prog.underlying 174 = some (.map 3 4) := by kernel_rfl
theorem boolzero (w : World) : (zeroValue 4).run Tryz.prog w = .ok (.bool false) w := by kernel_rfl

/-- A trace that may be: some nodes, each once, the least one first. -/
structure TraceOk (l : List Nat) : Prop where
  some_ : 0 < l.length
  few : l.length ≤ 256
  num : ∀ x ∈ l, x ≤ 4294967296
  once : ∀ i (hi : i < l.length), l[i] ∉ l.take i
  least : ∀ i (hi : i < l.length) (h0 : 0 < l.length), l[0] ≤ l[i]
/-- What cert.loops tells of such a trace. -/
def loopsE (nodes : Nat) (l : List Nat) : Int := if nodes < l.length then 12 else if outB nodes l then 10 else 0
set_option maxRecDepth 100000 in
set_option maxHeartbeats 2000000 in
theorem loops_any (f : Value) (A B : Option Addr) (cA cB d nodes : Nat) (l : List Nat) (w : World) (hf : OutFn w f nodes) (hB : Lies w B (nums l)) (h : TraceOk l) :
    Calls Tryz.prog 59 #[.agg #[.int .i64 2, .slice A 0 cA, .int .u32 (d : Int), .slice B l.length cB], .int .i64 (nodes : Int), f] w fun e w' => e = .returned (.int .i64 (loopsE nodes l)) ∧ Below w.heap.size w w' := by
  have h0 := h.some_
  have hfew := h.few
  have t0 : ((l.length : Int) == 0) = false := by rw [beq_eq_false_iff_ne]; omega
  obtain ⟨bx, hbx⟩ : ∃ bx, bx = Obj.cells #[.int .i64 2, .slice A 0 cA, .int .u32 (d : Int), .slice B l.length cB] 31 := ⟨_, rfl⟩
  have hb0 : Below w.heap.size w (w.alloc bx) := (Below.refl _ _).alloc (Nat.le_refl _) _
  have hco := fun W (hb : Below w.heap.size w W) => contains_any f B cB nodes l W (hf.below hb) (hB.below hb) (by omega)
  by_cases hn : nodes < l.length
  · have e : loopsE nodes l = 12 := if_pos hn
    rw [e]
    have t1 : decide ((nodes : Int) < (l.length : Int)) = true := by rw [decide_eq_true_eq]; omega
    rw [hbx] at hb0
    have HB0 := Lib.hid hb0
    clear hco hbx e hf hB h hb0
    go_enter Tryz.func59, Tryz.ntmps59
    go_wp2_with fail
    go_ret
    exact ⟨rfl, HB0.out⟩
  · have t1 : decide ((nodes : Int) < (l.length : Int)) = false := by rw [decide_eq_false_iff_not]; omega
    cases ho : outB nodes l with
    | true =>
      have e : loopsE nodes l = 10 := by unfold loopsE; rw [if_neg hn, ho]; rfl
      rw [e]
      rw [ho] at hco
      rw [hbx] at hb0
      have HB0 := Lib.hid hb0
      have HCO := Lib.hid hco
      clear hco hbx e hf hB h hb0 ho
      go_enter Tryz.func59, Tryz.ntmps59
      go_wp2_with fail
      refine (HCO.out _ HB0.out).mono ?_
      rintro e w2 ⟨rfl, rfl⟩
      go_wp2_with fail
      go_ret
      exact ⟨rfl, HB0.out⟩
    | false =>
      have e : loopsE nodes l = 0 := by unfold loopsE; rw [if_neg hn, ho]; rfl
      rw [e]
      rw [ho] at hco
      obtain ⟨b, off, hBe, hb, hc0⟩ := Lies.at_map hB h0
      have hbxc : ∀ i u, #[Value.int .i64 2, .slice A 0 cA, .int .u32 (d : Int), .slice B l.length cB][i]? = some u → (w.alloc bx).cell? ⟨w.heap.size, i, none⟩ = some u := fun i u hu => by
        rw [hbx, cell_of_row _ _ i _ _ (0, 0) (heap_alloc_new w _)]; exact hu
      have hx3 := hbxc 3 _ rfl
      have hown0 := World.ownsMap_made (w.alloc bx) Tryz.prog 3 (plainElem (H := Unit) Tryz.prog 4)
      have hset0 : SetAt (.map [] : DataW Unit) [] := ⟨⟨[], rfl⟩, fun x => rfl⟩
      have hb1 : Below w.heap.size w ((w.alloc bx).alloc (.map #[] 0)) := hb0.alloc hb0.size _
      have hx31 : ((w.alloc bx).alloc (.map #[] 0)).cell? ⟨w.heap.size, 3, none⟩ = some (.slice B l.length cB) :=
        (((Below.refl _ (w.alloc bx)).alloc (Nat.le_refl _) _).cell (p := ⟨w.heap.size, 3, none⟩) (by simp)).trans hx3
      have hsz1 : (w.alloc bx).heap.size = w.heap.size + 1 := by simp
      rw [hsz1] at hown0
      have hmm := @run_makeMap Tryz.prog
      obtain ⟨w1, hw1⟩ : ∃ w1, w1 = (w.alloc bx).alloc (.map #[] 0) := ⟨_, rfl⟩
      have hgx : w.heap.size < w1.heap.size := by rw [hw1]; simp; omega
      rw [hbx] at hb0 hw1
      rw [hbx] at hown0 hb1 hx31
      rw [← hw1] at hown0 hb1 hx31
      have HB0 := Lib.hid hb0
      have HCO := Lib.hid hco
      have H := Lib.hid h
      have HW1 := Lib.hid hw1
      have HOWN := Lib.hid hown0
      have HSET := Lib.hid hset0
      have HB1 := Lib.hid hb1
      have HX := Lib.hid hx31
      have HBL := Lib.hid hB
      clear hco hbx e hf hB h hb0 ho hw1 hown0 hset0 hbxc hx3 hb1 hx31 hsz1
      subst hBe
      go_enter Tryz.func59, Tryz.ntmps59
      go_wp2_with fail
      refine (HCO.out _ HB0.out).mono ?_
      rintro e w2 ⟨rfl, rfl⟩
      clear HCO HB0
      go_wp2_with fail
      clear hmm
      rw [← HW1.out]
      go_loopw [33] (fun i wr => ∃ (k : Nat) (D : DataW Unit), k ≤ l.length ∧ i = .int .i64 k ∧ wr.ownsMap Tryz.prog 3 (plainElem Tryz.prog 4) (w.heap.size + 1) k D ∧ Hid (SetAt D (l.take k)) ∧ Below w.heap.size w wr ∧ Hid (wr.cell? ⟨w.heap.size, 3, none⟩ = some (.slice (some ⟨b, off, none⟩) l.length cB)) ∧ w.heap.size < wr.heap.size) (fun i _ => l.length - (intOf i).toNat)
      case atStart => exact ⟨0, _, by omega, rfl, HOWN.out, by simpa using HSET, HB1.out, HX, hgx⟩
      case round =>
        clear HW1 HOWN HSET HB1 HX
        obtain ⟨k, D, hk, rfl, hown, HS, hbr, HXR, hgr⟩ := hrel
        by_cases hlt : k < l.length
        · obtain ⟨b', off', hBe', hb', hck0⟩ := Lies.at_map HBL.out hlt
          injection hBe' with hBe'
          injection hBe' with e1 e2 _
          subst e1 e2
          have hck := (hbr.cell (p := ⟨b, off + k, none⟩) hb).trans hck0
          have hcz := (hbr.cell (p := ⟨b, off + 0, none⟩) hb).trans hc0
          rw [Nat.add_zero] at hcz
          have hxr := HXR.out
          have hnum := H.out.num _ (List.getElem_mem hlt)
          have honce := H.out.once k hlt
          have hleast := H.out.least k hlt h0
          have hat := HS.out.at_ l[k]
          have hput := HS.out.put l[k]
          rw [decide_eq_false honce] at hat
          have htk : l.take (k + 1) = l.take k ++ [l[k]] := List.take_succ_eq_append_getElem hlt
          rw [← htk] at hput
          obtain ⟨x, hx⟩ : ∃ x, x = l[k] := ⟨_, rfl⟩
          obtain ⟨z, hz⟩ : ∃ z, z = l[0] := ⟨_, rfl⟩
          rw [← hx] at hck hnum hleast hat hput
          rw [← hz] at hcz hleast
          have hkey : keyOf Tryz.prog 3 (.int .i64 (x : Int)) = some (.int .i64 (x : Int)) := Go.Maps.keyOf_int_mk Tryz.underlying3 (by simp [Lit.wf, IntKind.min, IntKind.max, IntKind.bits, IntKind.signed]; omega)
          have hlook := lookup_bool hown (Go.Maps.int_keyed Tryz.underlying3) mapty Tryz.underlying4 (boolzero wr) hkey hat
          have HKEY := Lib.hid hkey
          have HPUT := Lib.hid hput
          have HBR := Lib.hid hbr
          have t3 : decide ((x : Int) < (z : Int)) = false := by rw [decide_eq_false_iff_not]; omega
          clear honce hat hput htk hx hz hck0 hkey hbr
          go_wp2_with (at_mapUpdate; refine wpList_mapUpdate_own _ rfl _ _ _ 174 rfl 3 4 (Go.Maps.int_keyed Tryz.underlying3) mapty (plainElem Tryz.prog 4) (w.heap.size + 1) k D rfl hown (by unfold maxLen; omega) _ _ _ rfl rfl HKEY.out _ [] (plainElem_bool Tryz.underlying4 true) ?_; intro w3 hown3 hg3)
          have hb3 := HBR.out.grown hg3 HBR.out.size (fun g e => by injection e with e; omega)
          have hx3 : w3.cell? ⟨w.heap.size, 3, none⟩ = some (.slice (some ⟨b, off, none⟩) l.length cB) := by
            rw [← HXR.out]
            exact World.cell?_of_block (w := wr) (hg3.block _ hgr (by intro e; injection e with e; have e' : w.heap.size = w.heap.size + 1 := e; omega))
          refine ⟨⟨k + 1, _, by omega, by go_num, hown3, HPUT, hb3, Lib.hid hx3, Nat.lt_of_lt_of_le hgr hg3.size⟩, by simp [intOf]; omega⟩
        · go_wp2_with fail
          go_ret
          exact ⟨rfl, hbr⟩
end Go.Proofs.YtpjoefekhgmlhaaGreat.Tp
