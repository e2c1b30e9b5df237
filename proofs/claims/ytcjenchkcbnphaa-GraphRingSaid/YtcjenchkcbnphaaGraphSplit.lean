/- WALK of the law of two vectors put behind each other. Condition: the arguments read as rows of numbers. -/
import Derived.Test.YtcjenchkcbnphaaGraphSplitPlain
import Derived.Test.YtcjenchkcbnphaaGraphAll
namespace Go.Proofs.Ytcjenchkcbnphaa.Gr
open Go.RowKit Mem

/-- As PairPost, the length named apart. -/
def PairPostL (w : World) (n : Nat) (l : List Int) (en : Int) (e : Ending) (w' : World) : Prop := ∃ R m, e = .returned (.tuple #[.slice R n m, .int .i64 en]) ∧ Lies w' R (ints l) ∧ Below w.heap.size w w'
theorem pairL {w : World} {n : Nat} {l : List Int} {en : Int} {e : Ending} {w' : World} (hn : l.length = n) (h : PairPost w l en e w') : PairPostL w n l en e w' := by
  subst hn; exact h
theorem none_pair {w : World} {en : Int} {e : Ending} {w' : World} (h : e = .returned (.tuple #[.slice none 0 0, .int .i64 en]) ∧ Below w.heap.size w w') : PairPost w [] en e w' :=
  ⟨none, 0, h.1, Lies.nil _ _, h.2⟩

/-- What the six calls of the law tell. -/
structure Told (v : List Int) (n : Nat) (rl : List Int) (re : Int) (ll : List Int) : Prop where
  ranks : ∀ (A : Option Addr) (c : Nat) (w : World), Lies w A (ints v) → Calls Try.prog 12 #[.slice A n c] w (PairPost w rl re)
  loop : ∀ (A : Option Addr) (c : Nat) (w : World), Lies w A (ints v) → Calls Try.prog 14 #[.slice A n c] w (PairPost w ll 0)
theorem told_yes {v : List Int} {n : Nat} (hn : v.length = n) (hl : n ≤ 256) (hg : goodB v = true) (ha : allRanked v = true) : Told v n (ranksL v) 0 [] := by
  subst hn
  have he := errno_good hl hg
  refine ⟨fun A c w hA => ranks_all hA he ha, fun A c w hA => ?_⟩
  have := loop_yes A c v w hA he
  rwa [loop_empty hg ha] at this
theorem told_no {v : List Int} {n : Nat} (hn : v.length = n) (hl : n ≤ 256) (hg : goodB v = true) (ha : allRanked v = false) : Told v n [] 17 (loopL v) := by
  subst hn
  have he := errno_good hl hg
  exact ⟨fun A c w hA => (ranks_none hA he ha).mono fun _ _ => none_pair, fun A c w hA => loop_yes A c v w hA he⟩
theorem told_any {v : List Int} {n : Nat} (hn : v.length = n) (hl : n ≤ 256) (hg : goodB v = true) : ∃ rl re ll, Told v n rl re ll ∧ ll.length ≤ 256 := by
  cases ha : allRanked v with
  | true => exact ⟨_, _, _, told_yes hn hl hg ha, by simp⟩
  | false => exact ⟨_, _, _, told_no hn hl hg ha, by have := loop_len hg; omega⟩

theorem row_sameL (A B : Option Addr) (c d n : Nat) (xs : List Int) (w : World) (hn : xs.length = n) (hA : Lies w A (ints xs)) (hB : Lies w B (ints xs)) (hx : n ≤ 9223372036854775807) :
    Calls Try.prog 18 #[.slice A n c, .slice B n d] w fun e w' => e = .returned (.bool true) ∧ ∃ n, w' = w.drewN n := by
  subst hn; exact row_same A B c d xs w hA hB hx
theorem loop_at {y ll : List Int} (hg : goodB y = true) (e : ll = loopL y) {i : Nat} (h : i < ll.length) : 0 ≤ ll[i] ∧ ll[i] < (y.length : Int) := by
  subst e
  obtain ⟨x, hx, hxl, _⟩ := loop_nodes hg h
  omega

set_option maxRecDepth 100000 in
set_option maxHeartbeats 4000000 in
theorem split_walk (a0 : Option Addr) (len0 cap0 : Nat) (z0 : List Int) (a1 : Option Addr) (len1 cap1 : Nat) (z1 : List Int) (w : World) (w0 : IsRow .i64 w a0 len0 cap0 z0) (w1 : IsRow .i64 w a1 len1 cap1 z1) :
    Calls Try.prog 7 #[.slice a0 len0 cap0, .slice a1 len1 cap1] w fun e w' => e = .returned (.bool true) ∧ Below w.heap.size w w' := by
  obtain ⟨x, hgx, hlx, _, hfx⟩ := fit_row w0
  obtain ⟨y, hgy, hly, _, hfy⟩ := fit_row w1
  have HGX := Lib.hid hgx
  have HGY := Lib.hid hgy
  have HFX := Lib.hid hfx
  have HFY := Lib.hid hfy
  obtain ⟨i0, hi, hz0, hz1, hz2⟩ := info_parts int_info
  clear hgx hgy hfx hfy w0 w1
  go_enter Try.func7, Try.ntmps7
  go_wp2_with fail
  refine (shown_any _).mono ?_
  rintro e w1 ⟨rfl, hb1⟩
  go_wp2_with fail
  refine (HFX.out _ hb1).mono ?_
  rintro e w2 ⟨S1, m1, rfl, hM1, hb2⟩
  have hbw2 : Below w.heap.size w w2 := hb1.trans (hb2.mono hb1.size)
  go_wp2_with fail
  refine (HFY.out _ hbw2).mono ?_
  rintro e w3 ⟨S2, m2, rfl, hM2, hb3⟩
  have hbw3 : Below w.heap.size w w3 := hbw2.trans (hb3.mono hbw2.size)
  have hX := hM1.lies.below hb3
  have hY := hM2.lies
  clear hb1 hb2 hb3 hM1 hM2 HFX HFY hbw2
  have hbe : Below w3.heap.size w3 (w3.alloc (.cells #[] 3)) := (Below.refl _ _).alloc (Nat.le_refl _) _
  have hown0 := own_empty w3
  have hXe := hX.alloc (.cells #[] 3)
  go_wp2_with (at_builtin; refine wpList_append_lies _ rfl (.tmp 28) (.tmp 29) _ rfl w3.heap.size 3 i0 _ 1 8 Try.underlying22 hi hz0 hz1 hz2 rfl (by omega) (.slice (some ⟨w3.heap.size, 0, none⟩) 0 0) 0 _ rfl hown0 S1 x.length m1 (ints x) rfl (by simp) hXe (by intro u hu; obtain ⟨t, _, rfl⟩ := List.mem_map.1 hu; rfl) (by simp only [maxLen]; omega) (by omega) (by simp) ?_; intro v4 w4 hown4 hg4 hat4)
  have hb4 : Below w3.heap.size w3 w4 := hbe.grown hg4 (by simp) (fun g h => (hown0.lt g h).1)
  simp only [Nat.zero_add, List.nil_append] at hown4
  clear hbe hown0 hXe hg4 hat4
  go_loopw [8, 9] (fun s i wr => ∃ k : Nat, k ≤ y.length ∧ i = .int .i64 k ∧ wr.ownsRow w3.heap.size 3 1 s (x.length + k) (ints (catTo x y k)) ∧ Below w3.heap.size w3 wr) (fun _ i _ => y.length - (intOf i).toNat)
  case atStart => exact ⟨0, by omega, rfl, by rw [catTo_zero]; exact hown4, hb4⟩
  case round =>
    clear hown4 hb4
    obtain ⟨k, hk, rfl, hown, hbr⟩ := hrel
    obtain ⟨A5, m5, rfl, hm1, hm2⟩ := own_form hown
    by_cases hlt : k < y.length
    · obtain ⟨b, off, hSe, hb, hcell0⟩ := hY.at_map hlt
      subst hSe
      have hcell := (hbr.cell (p := ⟨b, off + k, none⟩) hb).trans hcell0
      have hs := catTo_next (x := x) hlt
      have hgt := good_at HGY.out hlt
      obtain ⟨t, ht⟩ : ∃ t, t = y[k] := ⟨_, rfl⟩
      rw [← ht] at hcell hs hgt
      obtain ⟨ht1, ht2⟩ := hgt
      have hsz := hbr.size
      have hrow : ∀ g, (Value.slice A5 (x.length + k) m5).ownBlock = some g → w3.heap.size ≤ g := fun g h => (hown.lt g h).1
      have HROW := Lib.hid hrow
      have HY := Lib.hid hY
      clear hcell0 ht hrow hY
      by_cases hneg : t < 0
      · have hsh : shiftAt x.length t = -1 := by unfold shiftAt; rw [if_pos hneg]
        rw [hsh] at hs
        have HS := Lib.hid hs
        have hown1 := hown.alloc (.cells #[.int .i64 (-1)] 3)
        have hlie := Lies.new wr #[.int .i64 (-1)] 3
        clear hs hsh
        go_wp2_with (at_builtin; refine wpList_append_lies _ rfl (.tmp 42) (.tmp 43) _ rfl w3.heap.size 3 i0 _ 1 8 Try.underlying22 hi hz0 hz1 hz2 rfl (by omega) (.slice A5 (x.length + k) m5) (x.length + k) _ rfl hown1 (some ⟨wr.heap.size, 0, none⟩) 1 1 [.int .i64 (-1)] rfl rfl hlie (by intro u hu; simp at hu; subst hu; rfl) (by simp only [maxLen]; omega) (by omega) (by simp; omega) ?_; intro v2 w2 hown2 hg2 hat2)
        have hb2 : Below w3.heap.size w3 w2 := (hbr.alloc hsz _).grown hg2 (by simp; omega) HROW.out
        go_roundw
        case rel => exact ⟨k + 1, by omega, by go_num, by rw [HS.out, ints, List.map_append]; exact hown2, hb2⟩
        case measure => simp [intOf]; omega
      · have hsh : shiftAt x.length t = (x.length : Int) + t := by unfold shiftAt; rw [if_neg hneg]
        rw [hsh] at hs
        have HS := Lib.hid hs
        have hown1 := hown.alloc (.cells #[.int .i64 ((x.length : Int) + t)] 3)
        have hlie := Lies.new wr #[.int .i64 ((x.length : Int) + t)] 3
        clear hs hsh
        go_wp2_with (at_builtin; refine wpList_append_lies _ rfl (.tmp 45) (.tmp 53) _ rfl w3.heap.size 3 i0 _ 1 8 Try.underlying22 hi hz0 hz1 hz2 rfl (by omega) (.slice A5 (x.length + k) m5) (x.length + k) _ rfl hown1 (some ⟨wr.heap.size, 0, none⟩) 1 1 [.int .i64 ((x.length : Int) + t)] rfl rfl hlie (by intro u hu; simp at hu; subst hu; rfl) (by simp only [maxLen]; omega) (by omega) (by simp; omega) ?_; intro v2 w2 hown2 hg2 hat2)
        have hb2 : Below w3.heap.size w3 w2 := (hbr.alloc hsz _).grown hg2 (by simp; omega) HROW.out
        go_roundw
        case rel => exact ⟨k + 1, by omega, by go_num, by rw [HS.out, ints, List.map_append]; exact hown2, hb2⟩
        case measure => simp [intOf]; omega
    · have ek : k = y.length := by omega
      subst ek
      rw [catTo_end] at hown
      have hC : Lies wr A5 (ints (catV x y)) := .of_own hown
      have hXr := hX.below hbr
      have hYr := hY.below hbr
      have hbw : Below w.heap.size w wr := hbw3.trans (hbr.mono hbw3.size)
      have hgc := cat_good HGX.out HGY.out
      have hlc := cat_len x y
      have hca := cat_all HGX.out HGY.out
      clear hown hX hY hbr hbw3 hm1 hm2
      obtain ⟨wl, rfl⟩ : ∃ wl : World, wl = wr := ⟨_, rfl⟩
      cases hax : allRanked x with
      | true =>
        cases hay : allRanked y with
        | true =>
          rw [hax, hay] at hca
          have T1 := Lib.hid (told_yes rfl (by omega) HGX.out hax)
          have T2 := Lib.hid (told_yes rfl (by omega) HGY.out hay)
          have T3x := told_yes hlc (by omega) hgc hca
          rw [cat_ranks HGX.out HGY.out hax hay] at T3x
          have T3 := Lib.hid T3x
          clear T3x
          have hrx := ranks_len x
          have hry := ranks_len y
          generalize ranksL x = p at *
          generalize ranksL y = q at *
          have hp12 : p.length ≤ 12 := by omega
          have hq12 : q.length ≤ 12 := by omega
          have hpq : (p ++ q).length ≤ 24 := by rw [List.length_append]; omega
          clear hax hay hca hgc hlc hrx hry
          go_wp2_with fail
          refine (T1.out.ranks _ _ _ hXr).mono ?_
          rintro e w5 ⟨R1, n1, rfl, hR1, hb5⟩
          go_wp2_with fail
          refine (T2.out.ranks _ _ _ (hYr.below hb5)).mono ?_
          rintro e w6 ⟨R2, n2, rfl, hR2, hb6⟩
          have hb16 := hb5.trans (hb6.mono hb5.size)
          go_wp2_with fail
          refine (T3.out.ranks _ _ _ (hC.below hb16)).mono ?_
          rintro e w7 ⟨R3, n3, rfl, hR3, hb7⟩
          have hb17 := hb16.trans (hb7.mono hb16.size)
          go_wp2_with fail
          refine (T1.out.loop _ _ _ (hXr.below hb17)).mono ?_
          rintro e w8 ⟨L1, o1, rfl, hL1, hb8⟩
          have hb18 := hb17.trans (hb8.mono hb17.size)
          go_wp2_with fail
          refine (T2.out.loop _ _ _ (hYr.below hb18)).mono ?_
          rintro e w9 ⟨L2, o2, rfl, hL2, hb9⟩
          have hb19 := hb18.trans (hb9.mono hb18.size)
          go_wp2_with fail
          refine (T3.out.loop _ _ _ (hC.below hb19)).mono ?_
          rintro e w10 ⟨L3, o3, rfl, hL3, hb10⟩
          have hb110 := hb19.trans (hb10.mono hb19.size)
          have q1 : Lies w10 R1 (ints p) := ((((hR1.below hb6).below hb7).below hb8).below hb9).below hb10
          have q2 : Lies w10 R2 (ints q) := (((hR2.below hb7).below hb8).below hb9).below hb10
          have q3 : Lies w10 R3 (ints (p ++ q)) := ((hR3.below hb8).below hb9).below hb10
          have hbz : Below w.heap.size w w10 := hbw.trans (hb110.mono hbw.size)
          have hs10 := hbz.size
          clear hb5 hb6 hb7 hb8 hb9 hb10 hb16 hb17 hb18 hb19 hb110 hR1 hR2 hR3 hL1 hL2 hL3 hXr hYr hC hbw T1 T2 T3
          have hbe : Below w10.heap.size w10 (w10.alloc (.cells #[] 3)) := (Below.refl _ _).alloc (Nat.le_refl _) _
          have hown0 := own_empty w10
          have hXe := q1.alloc (.cells #[] 3)
          go_wp2_with (first | (at_builtin; refine wpList_append_lies _ rfl (.tmp 113) (.tmp 114) _ rfl w10.heap.size 3 i0 _ 1 8 Try.underlying22 hi hz0 hz1 hz2 rfl (by omega) (.slice (some ⟨w10.heap.size, 0, none⟩) 0 0) 0 _ rfl hown0 R1 p.length n1 (ints p) rfl (by simp) hXe (by intro u hu; obtain ⟨t, _, rfl⟩ := List.mem_map.1 hu; rfl) (by simp only [maxLen]; omega) (by omega) (by simp) ?_; intro v4 w11 hown4 hg4 hat4; have hb11 : Below w10.heap.size w10 w11 := hbe.grown hg4 (by simp) (fun g h => (hown0.lt g h).1); simp only [Nat.zero_add, List.nil_append] at hown4; have hYe := q2.below hb11; have hs11 := hb11.size; obtain ⟨A6, m6, rfl, hm1, hm2⟩ := own_form hown4; have hrow : ∀ g, (Value.slice A6 p.length m6).ownBlock = some g → w10.heap.size ≤ g := (fun g h => (hown4.lt g h).1); have HROW := Lib.hid hrow; clear hbe hown0 hXe hat4 hrow) | (at_builtin; refine wpList_append_lies _ rfl (.tmp 115) (.tmp 116) _ rfl w10.heap.size 3 i0 _ 1 8 Try.underlying22 hi hz0 hz1 hz2 rfl (by omega) (.slice A6 p.length m6) p.length _ rfl hown4 R2 q.length n2 (ints q) rfl (by simp) hYe (by intro u hu; obtain ⟨t, _, rfl⟩ := List.mem_map.1 hu; rfl) (by simp only [maxLen]; omega) (by omega) hs11 ?_; intro v5 w12 hown5 hg5 hat5; have hb12 : Below w10.heap.size w10 w12 := hb11.grown hg5 hs11 HROW.out; obtain ⟨A7, m7, rfl, hm3, hm4⟩ := own_form hown5; have q4 : Lies w12 A7 (ints (p ++ q)) := (by have := Lies.of_own hown5; rwa [← List.map_append] at this); have q5 := q3.below hb12; clear hown4 hown5 hat5 hg4 hg5 hm1 hm2 hm3 hm4))
          refine (row_sameL _ _ _ _ _ (p ++ q) _ (by rw [List.length_append]) q5 q4 (by omega)).mono ?_
          rintro e w13 ⟨rfl, n13, rfl⟩
          go_wp2_with fail
          go_ret
          exact ⟨rfl, below_drawn (hbz.trans (hb12.mono hbz.size)) _⟩
        | false =>
          rw [hax, hay] at hca
          have hml := loop_full HGY.out hay
          have T1 := Lib.hid (told_yes rfl (by omega) HGX.out hax)
          have T2x := told_no rfl (by omega) HGY.out hay
          have T3x := told_no hlc (by omega) hgc hca
          rw [cat_loop_r HGX.out HGY.out hax hay] at T3x
          obtain ⟨ll, hll⟩ : ∃ ll, ll = loopL y := ⟨_, rfl⟩
          have hlla := fun i h => loop_at HGY.out hll (i := i) h
          have hlln := loop_len HGY.out
          rw [← hll] at T2x T3x hml hlln
          obtain ⟨nl, hnl⟩ : ∃ nl, nl = ll.map fun t => t + (x.length : Int) := ⟨_, rfl⟩
          rw [← hnl] at T3x
          have hnll : nl.length = ll.length := by rw [hnl, List.length_map]
          have T2 := Lib.hid T2x
          have T3 := Lib.hid T3x
          have HLA := Lib.hid hlla
          have HNL := Lib.hid hnl
          generalize ranksL x = p at *
          clear T2x T3x hax hay hca hgc hlc hll hnl hlla
          go_wp2_with fail
          refine (T1.out.ranks _ _ _ hXr).mono ?_
          rintro e w5 ⟨R1, n1, rfl, hR1, hb5⟩
          go_wp2_with fail
          refine (T2.out.ranks _ _ _ (hYr.below hb5)).mono ?_
          rintro e w6 ⟨R2, n2, rfl, hR2, hb6⟩
          have hb16 := hb5.trans (hb6.mono hb5.size)
          go_wp2_with fail
          refine (T3.out.ranks _ _ _ (hC.below hb16)).mono ?_
          rintro e w7 ⟨R3, n3, rfl, hR3, hb7⟩
          have hb17 := hb16.trans (hb7.mono hb16.size)
          go_wp2_with fail
          refine (T1.out.loop _ _ _ (hXr.below hb17)).mono ?_
          rintro e w8 ⟨L1, o1, rfl, hL1, hb8⟩
          have hb18 := hb17.trans (hb8.mono hb17.size)
          go_wp2_with fail
          refine (T2.out.loop _ _ _ (hYr.below hb18)).mono ?_
          rintro e w9 ⟨L2, o2, rfl, hL2, hb9⟩
          have hb19 := hb18.trans (hb9.mono hb18.size)
          go_wp2_with fail
          refine (T3.out.loop _ _ _ (hC.below hb19)).mono ?_
          rintro e w10 ⟨L3, o3, rfl, hL3, hb10⟩
          rw [hnll]
          have HNN := Lib.hid hnll
          clear hnll
          have hb110 := hb19.trans (hb10.mono hb19.size)
          have hbz : Below w.heap.size w w10 := hbw.trans (hb110.mono hbw.size)
          have q2 : Lies w10 L2 (ints ll) := hL2.below hb10
          have t1 : ((ll.length : Int) == (ll.length : Int)) = true := by simp
          clear hb5 hb6 hb7 hb8 hb9 hb10 hb16 hb17 hb18 hb19 hb110 hR1 hR2 hR3 hL1 hL2 hXr hYr hC hbw T1 T2 T3
          go_wp2_with fail
          go_loopw [22] (fun i wr => ∃ k : Nat, k ≤ ll.length ∧ i = .int .i64 k ∧ ∃ n, wr = w10.drewN n) (fun i _ => ll.length - (intOf i).toNat)
          case atStart => exact ⟨0, by omega, rfl, 0, rfl⟩
          case round =>
            obtain ⟨k, hk, rfl, n, rfl⟩ := hrel
            by_cases hlk : k < ll.length
            · obtain ⟨b, off, rfl, hb, hcell⟩ := q2.at_map hlk
              have hkn : k < nl.length := by rw [HNN.out]; exact hlk
              obtain ⟨b2, off2, rfl, hb2, hcell2⟩ := hL3.at_map hkn
              have he : nl[k] = ll[k] + (x.length : Int) := by simp only [HNL.out, List.getElem_map]
              rw [he] at hcell2
              have hlb := HLA.out k hlk
              obtain ⟨u, hu⟩ : ∃ u, u = ll[k] := ⟨_, rfl⟩
              rw [← hu] at hcell hcell2 hlb
              obtain ⟨z, hz⟩ : ∃ z, z = u + (x.length : Int) := ⟨_, rfl⟩
              rw [← hz] at hcell2
              obtain ⟨hu0, hu1⟩ := hlb
              have e1 : IntKind.i64.wrap (u + (x.length : Int)) = z := by rw [hz]; exact IntWalk.i64_in _ (by omega)
              have c3 : (z != z) = false := by simp
              have i0 : (0 : Int) ≤ (k : Int) := by omega
              have i1 : (k : Int) < (ll.length : Int) := by omega
              clear hu hz he hkn
              go_wp2_with fail
              go_big_quiet (fail)
              go_wp2_with fail
              refine ⟨⟨k + 1, by omega, by go_num, ?_⟩, by simp [intOf]; omega⟩
              first
                | exact ⟨_, rfl⟩
                | exact ⟨_, (World.drewN_drewN _ _ _)⟩
            · go_wp2_with fail
              go_ret
              exact ⟨ret_bool (by simp), below_drawn hbz _⟩
      | false =>
          rw [hax] at hca
          simp only [Bool.false_and] at hca
          have hml := loop_full HGX.out hax
          have hlln := loop_len HGX.out
          have T1x := told_no rfl (by omega) HGX.out hax
          obtain ⟨q, fe, my, T2x, hmy⟩ := told_any (v := y) rfl (by omega) HGY.out
          have T3x := told_no hlc (by omega) hgc hca
          rw [cat_loop_l y HGX.out HGY.out hax] at T3x
          generalize loopL x = ll at *
          have T1 := Lib.hid T1x
          have T2 := Lib.hid T2x
          have T3 := Lib.hid T3x
          clear T1x T2x T3x hax hca hgc hlc
          go_wp2_with fail
          refine (T1.out.ranks _ _ _ hXr).mono ?_
          rintro e w5 ⟨R1, n1, rfl, hR1, hb5⟩
          go_wp2_with fail
          refine (T2.out.ranks _ _ _ (hYr.below hb5)).mono ?_
          rintro e w6 ⟨R2, n2, rfl, hR2, hb6⟩
          have hb16 := hb5.trans (hb6.mono hb5.size)
          go_wp2_with fail
          refine (T3.out.ranks _ _ _ (hC.below hb16)).mono ?_
          rintro e w7 ⟨R3, n3, rfl, hR3, hb7⟩
          have hb17 := hb16.trans (hb7.mono hb16.size)
          go_wp2_with fail
          refine (T1.out.loop _ _ _ (hXr.below hb17)).mono ?_
          rintro e w8 ⟨L1, o1, rfl, hL1, hb8⟩
          have hb18 := hb17.trans (hb8.mono hb17.size)
          go_wp2_with fail
          refine (T2.out.loop _ _ _ (hYr.below hb18)).mono ?_
          rintro e w9 ⟨L2, o2, rfl, hL2, hb9⟩
          have hb19 := hb18.trans (hb9.mono hb18.size)
          go_wp2_with fail
          refine (T3.out.loop _ _ _ (hC.below hb19)).mono ?_
          rintro e w10 ⟨L3, o3, rfl, hL3, hb10⟩
          have hb110 := hb19.trans (hb10.mono hb19.size)
          have hbz : Below w.heap.size w w10 := hbw.trans (hb110.mono hbw.size)
          have q1 : Lies w10 L1 (ints ll) := (hL1.below hb9).below hb10
          clear hb5 hb6 hb7 hb8 hb9 hb10 hb16 hb17 hb18 hb19 hb110 hR1 hR2 hR3 hL1 hL2 hXr hYr hC hbw T1 T2 T3
          go_wp2_with fail
          refine (row_same _ _ _ _ ll _ hL3 q1 (by omega)).mono ?_
          rintro e w13 ⟨rfl, n13, rfl⟩
          go_wp2_with fail
          go_ret
          exact ⟨rfl, below_drawn hbz _⟩
end Go.Proofs.Ytcjenchkcbnphaa.Gr
