/- WALK of the law of rings. Conditions: three bytes, and a slice that reads as a row of bytes. -/
import Derived.Test.YtcjenchkcbnphaaGraphRingLawPlain
import Derived.Test.YtcjenchkcbnphaaGraphSplit
namespace Go.Proofs.Ytcjenchkcbnphaa.Gr
open Go.RowKit Mem

set_option maxRecDepth 100000 in
set_option maxHeartbeats 4000000 in
theorem ring_walk (x0 x1 x2 : Int) (a1 : Option Addr) (len1 cap1 : Nat) (z1 : List Int) (w : World) (h0 : (Lit.int .u8 x0).wf = true) (h1 : (Lit.int .u8 x1).wf = true) (h2 : (Lit.int .u8 x2).wf = true) (w1 : IsRow .u8 w a1 len1 cap1 z1) :
    Calls Try.prog 5 #[.agg #[.int .u8 x0, .int .u8 x1, .int .u8 x2], .slice a1 len1 cap1] w fun e w' => e = .returned (.bool true) ∧ Below w.heap.size w w' := by
  obtain ⟨b0, hb0, rfl⟩ := wf_byte h0
  obtain ⟨b1, hb1, rfl⟩ := wf_byte h1
  obtain ⟨b2, hb2, rfl⟩ := wf_byte h2
  obtain ⟨to, rfl, hlc, hcap, hL, hwf⟩ := ints_of_row w1
  obtain ⟨k, hk⟩ : ∃ k : Nat, k = 1 + b0 % 16 := ⟨_, rfl⟩
  obtain ⟨mo, hmo⟩ : ∃ mo : Nat, mo = b1 % 16 := ⟨_, rfl⟩
  obtain ⟨f, hf⟩ : ∃ f : Nat, f = b2 % (mo + 1) := ⟨_, rfl⟩
  have hfm : f < mo + 1 := by rw [hf]; exact Nat.mod_lt _ (by omega)
  obtain ⟨n, hn⟩ : ∃ n : Nat, n = k + mo := ⟨_, rfl⟩
  have hk0 : 1 ≤ k := by omega
  have hk1 : k ≤ 16 := by omega
  have hmo1 : mo ≤ 15 := by omega
  have hfk : f + k ≤ n := by omega
  have hn31 : n ≤ 31 := by omega
  have hkn : n = k + mo := hn
  have HKN := Lib.hid hkn
  have f1 : 1 + (b0 : Int) % 16 = (k : Int) := by omega
  have f2 : (b1 : Int) % 16 = (mo : Int) := by omega
  have f3 : (k : Int) + (mo : Int) = (n : Int) := by omega
  have f4 : (b2 : Int) % ((mo : Int) + 1) = (f : Int) := by rw [hf, Int.natCast_emod]; rfl
  have hmk := run_make_row' (P := Try.prog) 22 3 (.int .i64 0) 8 Try.underlying22 int_info rfl .i64 .i64 n (by omega) (by omega)
  have HWF := Lib.hid hwf
  clear hk hmo hf hn hkn w1 h0 h1 h2 hwf
  go_enter Try.func5, Try.ntmps5
  go_wp2_with fail
  refine (shown_any _).mono ?_
  rintro e w1 ⟨rfl, hb1⟩
  have hbx : Below w.heap.size w (w.alloc (.cells #[.int .u8 (b0 : Int), .int .u8 (b1 : Int), .int .u8 (b2 : Int)] 30)) := (Below.refl _ _).alloc (Nat.le_refl _) _
  have hbw1 : Below w.heap.size w w1 := hbx.trans (hb1.mono (by simp))
  have hcl : ∀ i u, [Value.int .u8 (b0 : Int), .int .u8 (b1 : Int), .int .u8 (b2 : Int)][i]? = some u → w1.cell? ⟨w.heap.size, i, none⟩ = some u := fun i u hu => by
    rw [hb1.cell (p := ⟨w.heap.size, i, none⟩) (by simp), cell_of_row _ _ i _ _ (0, 0) (heap_alloc_new w _)]
    simpa using hu
  have hc0 := hcl 0 _ rfl
  have hc1 := hcl 1 _ rfl
  have hc2 := hcl 2 _ rfl
  have hsz : w.heap.size < w1.heap.size := by have := hb1.size; simp at this; omega
  clear hcl hbx hb1
  go_wp2_with fail
  rw [f4]
  have hrow := WRow.made w1 n
  have hbm : Below w.heap.size w (w1.alloc (.cells (madeCells #[.int .i64 0] n) 3)) := hbw1.alloc hbw1.size _
  have hs1 := hbw1.size
  clear hmk f1 f2 f3 f4 hc0 hc1 hc2
  go_loopw [11] (fun i wr => ∃ (j : Nat) (xs : List Int), j ≤ n ∧ i = .int .i64 j ∧ xs.length = n ∧ WRow wr w1.heap.size xs ∧ Hid (Laid xs k f j) ∧ Below w.heap.size w wr) (fun i _ => n - (intOf i).toNat)
  case atStart => exact ⟨0, _, by omega, rfl, by simp, hrow, Lib.hid (Laid.zero _ k f), hbm⟩
  case round =>
    clear hbm hrow
    obtain ⟨j, xs, hj, rfl, hxn, hW, HLD, hbr⟩ := hrel
    by_cases hlt : j < n
    · have hjx : j < xs.length := by omega
      have hc := hW.cell j hjx
      have hfr := hW.free j hjx
      obtain ⟨y, hy⟩ : ∃ y, y = xs[j] := ⟨_, rfl⟩
      rw [← hy] at hc
      clear hy
      by_cases hin : f ≤ j ∧ j < f + k
      · have hld := HLD.out.ring hjx hin.1 hin.2
        obtain ⟨c, hcc⟩ : ∃ c, c = (j - f + 1) % k := ⟨_, rfl⟩
        rw [← hcc] at hld
        have hck : c < k := by rw [hcc]; exact Nat.mod_lt _ (by omega)
        have e1 : ((j : Int) - (f : Int) + 1).tmod (k : Int) = (c : Int) := by
          rw [Int.tmod_eq_emod_of_nonneg (by omega), hcc, Int.natCast_emod]
          congr 1
          omega
        have hset := hW.set_ j ((f : Int) + (c : Int))
        have hbs := hbr.setCell (p := ⟨w1.heap.size, j, none⟩) hs1 (.int .i64 ((f : Int) + (c : Int)))
        rw [Int.natCast_add] at hld
        have HLD2 := Lib.hid hld
        obtain ⟨hi1, hi2⟩ := hin
        clear hld hcc HLD hW
        go_wp2_with fail
        refine ⟨⟨j + 1, _, by omega, by go_num, by simpa using hxn, hset, HLD2, hbs⟩, by simp [intOf]; omega⟩
      · have hin' : f ≤ j → f + k ≤ j := by omega
        have hset := hW.set_ j (f : Int)
        have hbs := hbr.setCell (p := ⟨w1.heap.size, j, none⟩) hs1 (.int .i64 (f : Int))
        have hc2 := hset.cell j (by rw [List.length_set]; exact hjx)
        have hf2 := hset.free j (by rw [List.length_set]; exact hjx)
        rw [List.getElem_set_self] at hc2
        by_cases hto : j < to.length
        · obtain ⟨b, off, hSe, hb, hcell0⟩ := hL.at_map hto
          have hcell := (hbr.cell (p := ⟨b, off + j, none⟩) hb).trans hcell0
          have hcell3 := (hbs.cell (p := ⟨b, off + j, none⟩) hb).trans hcell0
          obtain ⟨t, ht, hte⟩ := wf_byte (HWF.out to[j] (List.getElem_mem hto))
          rw [hte] at hcell hcell3
          obtain ⟨c, hcc⟩ : ∃ c, c = t % k := ⟨_, rfl⟩
          have hck : c < k := by rw [hcc]; exact Nat.mod_lt _ (by omega)
          have e1 : (t : Int).tmod (k : Int) = (c : Int) := by
            rw [Int.tmod_eq_emod_of_nonneg (by omega), hcc, Int.natCast_emod]
          have hld := HLD.out.into hjx hin hck
          rw [Int.natCast_add] at hld
          have hset2 := hset.set_ j ((f : Int) + (c : Int))
          rw [List.set_set] at hset2
          have hbs2 := hbs.setCell (p := ⟨w1.heap.size, j, none⟩) hs1 (.int .i64 ((f : Int) + (c : Int)))
          have HLD2 := Lib.hid hld
          have HL := Lib.hid hL
          subst hSe
          clear hld hcc HLD hW hte hcell0 hset hin hL
          by_cases hfj : f ≤ j
          · have hj2 := hin' hfj
            clear hin'
            go_wp2_with fail
            refine ⟨⟨j + 1, _, by omega, by go_num, by simpa using hxn, hset2, HLD2, hbs2⟩, by simp [intOf]; omega⟩
          · clear hin'
            go_wp2_with fail
            refine ⟨⟨j + 1, _, by omega, by go_num, by simpa using hxn, hset2, HLD2, hbs2⟩, by simp [intOf]; omega⟩
        · have hld := HLD.out.into hjx hin (c := 0) (by omega)
          rw [Nat.add_zero] at hld
          have HLD2 := Lib.hid hld
          clear hld HLD hW hin
          by_cases hfj : f ≤ j
          · have hj2 := hin' hfj
            clear hin'
            go_wp2_with fail
            refine ⟨⟨j + 1, _, by omega, by go_num, by simpa using hxn, hset, HLD2, hbs⟩, by simp [intOf]; omega⟩
          · clear hin'
            go_wp2_with fail
            refine ⟨⟨j + 1, _, by omega, by go_num, by simpa using hxn, hset, HLD2, hbs⟩, by simp [intOf]; omega⟩
    · have ek : j = n := by omega
      subst ek
      have hld : Laid xs k f xs.length := by rw [hxn]; exact HLD.out
      have hkx : f + k ≤ xs.length := by omega
      have hg := hld.good (by omega) hkx
      have T1 := Lib.hid (told_no hxn (by omega) hg (hld.round (by omega) hkx))
      obtain ⟨hll, hlat⟩ := hld.loop (by omega) hkx
      obtain ⟨hg2, ha2⟩ := hld.out (by omega) hkx
      have hsl : (xs.set f (-1)).length = j := by rw [List.length_set]; exact hxn
      have T2 := Lib.hid (told_yes hsl (by omega) hg2 ha2)
      have hrl := ranks_len (xs.set f (-1))
      rw [hsl] at hrl
      have hr1 := fun hi => hld.out_first (by omega) hkx hi
      have hr2 := fun hk hi => hld.out_second hk hkx hi
      generalize loopL xs = ll at *
      generalize ranksL (xs.set f (-1)) = rl at *
      have HLA := Lib.hid hlat
      have HR1 := Lib.hid hr1
      have HR2 := Lib.hid hr2
      have HLL := Lib.hid hll
      have HRL := Lib.hid hrl
      have hA := hW.lies
      have hgl := hW.lt
      have t1 : ((ll.length : Int) != (k : Int)) = false := by simp; omega
      have t2 : ((rl.length : Int) == (j : Int)) = true := by simp; omega
      have hl2 : k ≤ ll.length := by omega
      have hl3 : j ≤ rl.length := by omega
      have hr4 : rl.length ≤ 31 := by omega
      clear hll hlat hg hld hr1 hr2 hsl hg2 ha2 HLD hrl hlt hL hfm
      go_wp2_with fail
      refine (T1.out.loop _ _ _ hA).mono ?_
      rintro e w3 ⟨R3, m3, rfl, hR3, hb3⟩
      go_wp2_with fail
      refine (T1.out.ranks _ _ _ (hA.below hb3)).mono ?_
      rintro e w4 ⟨R4, m4, rfl, hR4, hb4⟩
      have hb34 := hb3.trans (hb4.mono hb3.size)
      have hR34 := hR3.below hb4
      have hW4 := hW.below hb34 hgl
      have hbw4 := hbr.trans (hb34.mono hbr.size)
      clear hb3 hb4 hR3 hR4 hb34 hW hbr hA T1
      go_wp2_with fail
      go_loopw [16] (fun i wr => ∃ c : Nat, c ≤ k ∧ i = .int .i64 c ∧ w4 = wr) (fun i _ => k - (intOf i).toNat)
      case atStart => exact ⟨0, by omega, rfl, rfl⟩
      case round =>
        obtain ⟨c, hc, rfl, rfl⟩ := hrel
        by_cases hck : c < k
        · obtain ⟨b, off, rfl, hb, hcell⟩ := hR34.at_map (show c < ll.length by omega)
          rw [HLA.out c (by omega), Int.natCast_add] at hcell
          have t3 : ((f : Int) + (c : Int) != (f : Int) + (c : Int)) = false := by simp
          go_wp2_with fail
          refine ⟨⟨c + 1, by omega, by go_num, by trivial⟩, by simp [intOf]; omega⟩
        · have hfx : f < xs.length := by omega
          have hcf := hW4.cell f hfx
          have hff := hW4.free f hfx
          obtain ⟨y, hy⟩ : ∃ y, y = xs[f] := ⟨_, rfl⟩
          rw [← hy] at hcf
          have hset := hW4.set_ f (-1)
          have hbs := hbw4.setCell (p := ⟨w1.heap.size, f, none⟩) hs1 (.int .i64 (-1))
          have hA2 := hset.lies
          have HW4 := Lib.hid hW4
          clear hy hW4 hset
          go_wp2_with fail
          refine (T2.out.ranks _ _ _ hA2).mono ?_
          rintro e w5 ⟨R5, m5, rfl, hR5, hb5⟩
          go_wp2_with fail
          refine (T2.out.loop _ _ _ (hA2.below hb5)).mono ?_
          rintro e w6 ⟨R6, m6, rfl, hR6, hb6⟩
          have hb56 := hb5.trans (hb6.mono hb5.size)
          have hR56 := hR5.below hb6
          have hbe := hbs.trans (hb56.mono hbs.size)
          clear hb5 hb6 hR5 hR6 hb56 hbs hbw4 hA2 T2 hcf hff
          obtain ⟨b, off, hRe, hb, hcell⟩ := hR56.at_map (show f < rl.length by omega)
          rw [HR1.out (by omega)] at hcell
          by_cases hk1' : k = 1
          · have t3 : ((k : Int) == 1) = true := by simp; omega
            subst hRe
            have HK1 := Lib.hid hk1'
            clear hk1'
            go_wp2_with fail
            go_ret
            exact ⟨rfl, hbe⟩
          · have t3 : ((k : Int) == 1) = false := by simp; omega
            obtain ⟨b', off', hRe', hb', hcell'⟩ := hR56.at_map (show f + 1 < rl.length by omega)
            rw [HR2.out (by omega) (by omega), show (((k - 1 : Nat) : Nat) : Int) = (k : Int) - 1 by omega] at hcell'
            rw [hRe] at hRe'
            injection hRe' with hRe'
            injection hRe' with e1 e2 _
            subst e1 e2
            subst hRe
            have i5 : (0 : Int) ≤ (f : Int) + 1 := by omega
            have i6 : (f : Int) + 1 < (rl.length : Int) := by omega
            have t4 : ((k : Int) - 1 == (k : Int) - 1) = true := by simp
            have HK1 := Lib.hid hk1'
            clear hk1'
            go_wp2_with fail
            go_ret
            exact ⟨rfl, hbe⟩
end Go.Proofs.Ytcjenchkcbnphaa.Gr
