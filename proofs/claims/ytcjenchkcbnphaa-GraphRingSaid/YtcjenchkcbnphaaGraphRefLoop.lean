/- CONTRACT of the reference's Loop. Condition: the slice reads as a row of numbers. -/
import Derived.Test.YtcjenchkcbnphaaGraphRefs
import Derived.Test.YtcjenchkcbnphaaGraphRenamedPlain
namespace Go.Proofs.Ytcjenchkcbnphaa.Gr
open Go.RowKit Mem

/-- So far: j nodes have been told from u on, none of them u again but the first; what comes next is x. -/
structure Lp (v : List Int) (u j : Nat) (x : Int) : Prop where
  pos : 0 < j
  all : ∀ m, m < j → iter v m u ≠ none
  new : ∀ m, 0 < m → m < j → iter v m u ≠ some u
  next : (x < 0 ∧ iter v j u = none) ∨ ∃ y : Nat, x = (y : Int) ∧ y < v.length ∧ iter v j u = some y
theorem next_of {v : List Int} (hg : goodB v = true) {k u y : Nat} (h : iter v k u = some y) (hy : y < v.length) {x : Int} (e : x = v[y]) : (x < 0 ∧ iter v (k + 1) u = none) ∨ ∃ z : Nat, x = (z : Int) ∧ z < v.length ∧ iter v (k + 1) u = some z := by
  have hb := good_at hg hy
  rw [← e] at hb
  by_cases hn : x < 0
  · exact .inl ⟨hn, by rw [iter_succ h]; exact nxt_of_neg hy (by rw [← e]; exact hn)⟩
  · exact .inr ⟨x.toNat, by omega, by omega, by rw [iter_succ h, nxt_of_nonneg hy (by rw [← e]; omega), ← e]⟩
theorem Lp.start {v : List Int} (hg : goodB v = true) {u : Nat} (hu : u < v.length) {x : Int} (e : x = v[u]) : Lp v u 1 x :=
  ⟨by omega, fun m hm => by rw [show m = 0 by omega]; simp [iter], fun m h1 h2 => absurd h2 (by omega), next_of (k := 0) hg rfl hu e⟩
theorem Lp.step {v : List Int} (hg : goodB v = true) {u j y : Nat} (h : Lp v u j (y : Int)) (hne : y ≠ u) (hy : y < v.length) {x : Int} (e : x = v[y]) : Lp v u (j + 1) x := by
  have hi : iter v j u = some y := by
    rcases h.next with ⟨h1, _⟩ | ⟨z, hz, _, h2⟩
    · omega
    · rw [h2, show z = y by omega]
  refine ⟨by omega, fun m hm => ?_, fun m h1 h2 => ?_, next_of hg hi hy e⟩
  · by_cases em : m = j
    · subst em; rw [hi]; simp
    · exact h.all m (by omega)
  · by_cases em : m = j
    · subst em; rw [hi]; intro e2; injection e2 with e2; exact hne e2
    · exact h.new m h1 (by omega)
theorem Lp.at_ {v : List Int} {u j y : Nat} (h : Lp v u j (y : Int)) : at_ v u j = y := by
  rcases h.next with ⟨h1, _⟩ | ⟨z, hz, _, h2⟩
  · omega
  · unfold Gr.at_; rw [h2, show z = y by omega]; rfl
theorem Lp.hit {v : List Int} {u j : Nat} (h : Lp v u j (u : Int)) : Per v u j := by
  refine ⟨h.pos, ?_, fun i h1 h2 => h.new i h1 h2⟩
  rcases h.next with ⟨h1, _⟩ | ⟨z, hz, _, h2⟩
  · omega
  · rw [h2, show z = u by omega]
theorem Lp.few {v : List Int} (hg : goodB v = true) {u j : Nat} (hu : u < v.length) (h : Lp v u j (u : Int)) : j ≤ v.length := by
  have hp := h.hit
  obtain ⟨p, hp2, hpl⟩ := Cyc.per hg hu ⟨j, hp.1, hp.2.1⟩
  rcases Nat.lt_trichotomy j p with h1 | h1 | h1
  · omega
  · omega
  · exact absurd hp2.2.1 (hp.2.2 p hp2.1 h1)
theorem Lp.found {v : List Int} (hg : goodB v = true) {u j : Nat} (hu : u < v.length) (h : Lp v u j (u : Int)) (hl : ∀ x, x < u → ¬ Cyc v x) : loopL v = (ringTo v u j).map fun x : Nat => (x : Int) := by
  have hp := h.hit
  have hc : Cyc v u := ⟨j, hp.1, hp.2.1⟩
  unfold loopL
  rw [loopOf_some hg hu hc hl, ringOf_eq hg hu hc hp (h.few hg hu)]
/-- The walk has ended, not at u: u is on no loop. -/
theorem Lp.miss {v : List Int} (hg : goodB v = true) {u j : Nat} {x : Int} (hu : u < v.length) (h : Lp v u j x) (hne : x ≠ (u : Int)) (he : x < 0 ∨ v.length ≤ j) : ¬ Cyc v u := by
  intro hc
  obtain ⟨p, hp, hpl⟩ := hc.per hg hu
  have hall := (hc.all hg hu j).1
  rcases h.next with ⟨h1, h2⟩ | ⟨y, hy, hyl, h2⟩
  · rw [h2] at hall; cases hall
  · have hj : v.length ≤ j := by
      rcases he with he | he
      · omega
      · exact he
    rcases Nat.lt_trichotomy j p with h3 | h3 | h3
    · omega
    · subst h3
      have := hp.2.1
      rw [h2] at this
      injection this with this
      omega
    · exact h.new p hp.1 h3 hp.2.1

theorem rloop_no (A : Option Addr) (c : Nat) (v : List Int) (w : World) (hA : Lies w A (ints v)) (hl : v.length ≤ 9223372036854775807) (he : errno v ≠ 0) :
    Calls Try.prog 15 #[.slice A v.length c] w (PairPost w [] (errno v)) := by
  have hc := Lib.hid (rmay_any A c v w hA hl)
  have t : (errno v != 0) = true := by simpa using he
  generalize errno v = en at *
  clear he
  go_enter Try.func15, Try.ntmps15
  go_wp2_with (go_at_call 25; refine (hc.out).mono ?_; rintro e w' ⟨rfl, rfl⟩)
  go_ret2
  exact ⟨_, _, rfl, Lies.nil _ _, Below.refl _ w⟩

theorem ring_ints (v : List Int) (u : Nat) : ints ((ringTo v u 1).map fun x : Nat => (x : Int)) = [.int .i64 (u : Int)] := by simp [ringTo, at_, iter, ints]
theorem ring_snoc (v : List Int) (u j : Nat) : ints ((ringTo v u (j + 1)).map fun x : Nat => (x : Int)) = ints ((ringTo v u j).map fun x : Nat => (x : Int)) ++ [.int .i64 ((at_ v u j : Nat) : Int)] := by
  rw [ringTo_next, List.map_append]; simp [ints]
theorem own_one (w : World) (B : Nat) (hB : B ≤ w.heap.size) (x : Value) (_hx : x.oneCell' = true) : (w.alloc (.cells #[x] 3)).ownsRow B 3 1 (.slice (some ⟨w.heap.size, 0, none⟩) 1 1) 1 [x] :=
  ⟨rfl, .inr ⟨w.heap.size, 1, #[x], rfl, hB, heap_alloc_new w _, by omega, by simp [maxLen], rfl, rfl⟩⟩

set_option maxRecDepth 100000 in
set_option maxHeartbeats 2000000 in
theorem rloop_yes (A : Option Addr) (c : Nat) (v : List Int) (w : World) (hA : Lies w A (ints v)) (he : errno v = 0) :
    Calls Try.prog 15 #[.slice A v.length c] w (PairPost w (loopL v) 0) := by
  obtain ⟨hl, hg⟩ := errno_zero he
  have hc := (rmay_any A c v w hA (by omega))
  rw [he] at hc
  have HC := Lib.hid hc
  have HG := Lib.hid hg
  obtain ⟨i0, hi, hz0, hz1, hz2⟩ := info_parts int_info
  clear hc he hg
  go_enter Try.func15, Try.ntmps15
  go_wp2_with (go_at_call 25; refine (HC.out).mono ?_; rintro e w' ⟨rfl, rfl⟩)
  go_loopg [5] v.length (fun gn i wr => ∃ k : Nat, k + gn = v.length ∧ i = .int .i64 k ∧ (∀ u, u < k → ¬ Cyc v u) ∧ Below w.heap.size w wr)
  case atStart => exact ⟨0, by omega, rfl, fun u h => absurd h (by omega), Below.refl _ w⟩
  case round =>
    obtain ⟨k, hk, rfl, hall, hbr⟩ := hrel
    have HALL := Lib.hid hall
    have hkl : k ≤ v.length := by omega
    clear hall
    by_cases hlt : k < v.length
    · obtain ⟨wo, rfl⟩ : ∃ wo : World, wo = wr := ⟨_, rfl⟩
      obtain ⟨b, off, hAe, hb, hcell0⟩ := hA.at_map hlt
      have hcell := (hbr.cell (p := ⟨b, off + k, none⟩) hb).trans hcell0
      obtain ⟨x, hx⟩ : ∃ x, x = v[k] := ⟨_, rfl⟩
      have hst := Lp.start HG.out hlt hx
      rw [← hx] at hcell
      have HST := Lib.hid hst
      have hown0 := own_one wo w.heap.size hbr.size (.int .i64 (k : Int)) rfl
      have hb0 : Below w.heap.size w (wo.alloc (.cells #[.int .i64 (k : Int)] 3)) := hbr.alloc hbr.size _
      have hcell1 := (hb0.cell (p := ⟨b, off + k, none⟩) hb).trans hcell0
      rw [← hx] at hcell1
      clear hst hx hcell0
      subst hAe
      have HA := Lib.hid hA
      clear hA
      go_wp2_with fail
      go_loopg [6, 7, 8] v.length (fun gi s x n wr => ∃ (j : Nat) (xi : Int), j + gi = v.length + 1 ∧ n = .int .i64 (j : Int) ∧ x = .int .i64 xi ∧ Hid (Lp v k j xi) ∧ 1 ≤ j ∧ wr.ownsRow w.heap.size 3 1 s j (ints ((ringTo v k j).map fun x : Nat => (x : Int))) ∧ Below w.heap.size w wr)
      case atStart => exact ⟨1, x, by omega, rfl, rfl, HST, by omega, by rw [ring_ints]; exact hown0, hb0⟩
      case round =>
        clear hown0 hb0 hcell hcell1 HST
        obtain ⟨j, xi, hjg, rfl, rfl, HP, hj1, hown, hbi⟩ := hrel
        obtain ⟨A5, m5, rfl, hm1, hm2⟩ := own_form hown
        by_cases hit : xi = (k : Int)
        · subst hit
          have hfew := HP.out.few HG.out hlt
          have hfound := HP.out.found HG.out hlt HALL.out
          have HF := Lib.hid hfound
          have t1 : ((k : Int) == (k : Int)) = true := by simp
          have t2 : ((k : Int) != (k : Int)) = false := by simp
          clear hfound
          by_cases hjl : j < v.length
          all_goals
            go_wp2_with fail
            go_ret2
            rw [HF.out]
            exact ⟨A5, m5, by simp [ringTo_len], .of_own hown, hbi⟩
        · have t1 : (xi == (k : Int)) = false := by simp [hit]
          have t2 : (xi != (k : Int)) = true := by simp [hit]
          have HIT := Lib.hid hit
          by_cases hend : xi < 0 ∨ v.length ≤ j
          · have hmiss := HP.out.miss HG.out hlt hit hend
            have HM := Lib.hid hmiss
            have hrel2 : ∀ u, u < k + 1 → ¬ Cyc v u := fun u hu => by
              by_cases e : u = k
              · subst e; exact HM.out
              · exact HALL.out u (by omega)
            have HR2 := Lib.hid hrel2
            clear hmiss hit hrel2
            by_cases hjl : j < v.length
            · have hx0 : xi < 0 := by omega
              have c1 : decide (0 ≤ xi) = false := by rw [decide_eq_false_iff_not]; omega
              clear hend
              go_wp2_with fail
              go_roundg (v.length - (k + 1))
              case measure => omega
              case rel => exact ⟨k + 1, by omega, by go_num, HR2.out, hbi⟩
            · clear hend
              go_wp2_with fail
              go_roundg (v.length - (k + 1))
              case measure => omega
              case rel => exact ⟨k + 1, by omega, by go_num, HR2.out, hbi⟩
          · have hx0 : 0 ≤ xi := by omega
            have hjl : j < v.length := by omega
            obtain ⟨y, rfl⟩ := Int.eq_ofNat_of_zero_le hx0
            have hy : y < v.length := by
              rcases HP.out.next with ⟨h1, _⟩ | ⟨z, hz, hzl, _⟩
              · omega
              · omega
            obtain ⟨b2, off2, e2, hb2, hcell0⟩ := HA.out.at_map hy
            injection e2 with e2
            injection e2 with e2 e3 _
            subst e2 e3
            obtain ⟨z, hz⟩ : ∃ z, z = v[y] := ⟨_, rfl⟩
            have hstep := HP.out.step HG.out (by intro e; exact HIT.out (by rw [e])) hy hz
            have hat := HP.out.at_
            have hsn := ring_snoc v k j
            rw [hat] at hsn
            rw [← hz] at hcell0
            have HSN := Lib.hid hsn
            have HSTEP := Lib.hid hstep
            have hown1 := hown.alloc (.cells #[.int .i64 (y : Int)] 3)
            have hlie := Lies.new wr #[.int .i64 (y : Int)] 3
            have hsz := hbi.size
            have c1 : decide (0 ≤ (y : Int)) = true := by rw [decide_eq_true_eq]; omega
            clear hend hit hz hstep hat hsn
            go_wp2_with (at_builtin; refine wpList_append_lies _ rfl (.tmp 41) (.tmp 43) _ rfl w.heap.size 3 i0 _ 1 8 Try.underlying22 hi hz0 hz1 hz2 rfl (by omega) (.slice A5 j m5) j _ rfl hown1 (some ⟨wr.heap.size, 0, none⟩) 1 1 [.int .i64 (y : Int)] rfl rfl hlie (by intro u hu; simp at hu; subst hu; rfl) (by simp only [maxLen]; omega) (by omega) (by simp; omega) ?_; intro v2 w2 hown2 hg2 hat2; have hrow : ∀ g, (Value.slice A5 j m5).ownBlock = some g → w.heap.size ≤ g := (fun g h => (hown.lt g h).1); have hb3 : Below w.heap.size w w2 := (hbi.alloc hsz _).grown hg2 (by simp; omega) hrow; have hcell3 := (hb3.cell (p := ⟨b, off + y, none⟩) hb).trans hcell0)
            go_roundg (v.length - j)
            case measure => omega
            case rel => exact ⟨j + 1, z, by omega, by go_num, rfl, HSTEP, by omega, by rw [HSN.out]; exact hown2, hb3⟩
    · have ek : k = v.length := by omega
      have hno := loopOf_none HG.out (fun u hu => HALL.out u (by omega))
      have HNO := Lib.hid hno
      clear hno
      go_wp2_with fail
      go_ret2
      have e : loopL v = [] := by unfold loopL; rw [HNO.out]; rfl
      rw [e]
      exact ⟨none, 0, rfl, Lies.nil _ _, hbr⟩
end Go.Proofs.Ytcjenchkcbnphaa.Gr
