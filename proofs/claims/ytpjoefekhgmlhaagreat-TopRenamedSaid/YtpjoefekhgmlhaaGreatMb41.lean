/- CONTRACT of the reference theseusref09.Fit: a network made such as may be. Conditions: the numbers fit their kinds. · CONTRACT of the reference theseusref12.put, as far as it is wanted: some addresses are told, one more at most, in a row of the call's own. Conditions: addresses below 2^32. · CONTRACT of the reference theseusref12.Of, as far as it is wanted: some addresses are told. Conditions: a network that may be. · CONTRACTS at fitted networks: analyze.Net, check.Net, round, theseusref12.Of. Conditions: the numbers fit their kinds. -/
import Derived.Test.YtpjoefekhgmlhaaGreatMb30
import Derived.Test.YtpjoefekhgmlhaaGreatMb33
import Derived.Test.YtpjoefekhgmlhaaGreatMb37
import Derived.Test.YtpjoefekhgmlhaaGreatMb40
namespace Go.Proofs.YtpjoefekhgmlhaaGreat.Tp
open Go.RowKit Mem Odr

set_option linter.unusedSimpArgs false in
set_option maxRecDepth 100000 in
set_option maxHeartbeats 2000000 in
theorem nfit_any (A : Option Addr) (c : Nat) (net : List (List RuleZ)) (w : World) (hA : NetZAt w A net) (h : ∀ l ∈ net, ∀ r ∈ l, RuleZOk r) :
    Calls Tryz.prog 7 #[.agg #[.slice A net.length c]] w (NetZPost w (fitN net)) := by
  obtain ⟨n, hn⟩ : ∃ n, n = net.length := ⟨_, rfl⟩
  obtain ⟨mn, hmn⟩ : ∃ mn, mn = manyN net := ⟨_, rfl⟩
  have hm0 : 0 < mn := by rw [hmn]; unfold manyN; omega
  have hm8 : mn ≤ 8 := by rw [hmn]; unfold manyN; omega
  obtain ⟨m8, hm8e⟩ : ∃ m8 : Nat, m8 = min n 8 := ⟨_, rfl⟩
  have hmin : (if (8 : Int) < (n : Int) then 8 else (n : Int)) = (m8 : Int) := by split <;> omega
  have hmax : (if (m8 : Int) > (1 : Int) then (m8 : Int) else 1) = (mn : Int) := by
    have : mn = max 1 m8 := by rw [hmn, hm8e, hn]; rfl
    split <;> omega
  have _hmn : min (n : Int) 8 = (m8 : Int) := by omega
  have _hmx : max 1 (m8 : Int) = (mn : Int) := by omega
  have HG : Hid (∀ i, ∀ r ∈ net.getD i [], RuleZOk r) := Lib.hid fun i r hr => by
    rw [List.getD_eq_getElem?_getD] at hr
    cases e : net[i]? with
    | none => rw [e] at hr; simp at hr
    | some l => rw [e] at hr; exact h l (List.mem_of_getElem? e) r hr
  obtain ⟨w1, hw1⟩ : ∃ w1, w1 = w.alloc (.cells #[.slice A n c] 24) := ⟨_, rfl⟩
  obtain ⟨w2, hw2⟩ : ∃ w2, w2 = w1.alloc (.cells #[.slice none 0 0] 24) := ⟨_, rfl⟩
  obtain ⟨w3, hw3⟩ : ∃ w3, w3 = w2.alloc (.cells #[.slice none 0 0] 24) := ⟨_, rfl⟩
  have s1 : w1.heap.size = w.heap.size + 1 := by rw [hw1]; simp
  have s2 : w2.heap.size = w.heap.size + 2 := by rw [hw2]; simp [s1]
  have s3 : w3.heap.size = w.heap.size + 3 := by rw [hw3]; simp [s2]
  have b1 : Below w.heap.size w w1 := by rw [hw1]; exact bal _ _
  have b2 : Below w1.heap.size w1 w2 := by rw [hw2]; exact bal _ _
  have b3 : Below w2.heap.size w2 w3 := by rw [hw3]; exact bal _ _
  have r1 : VRow w3 w.heap.size [.slice A n c] := by
    have h := VRow.new w #[.slice A n c] 24
    rw [← hw1] at h
    have h2 := h.below b2 h.lt
    exact h2.below b3 h2.lt
  have r2 : VRow w3 (w.heap.size + 1) [.slice none 0 0] := by
    have h := VRow.new w1 #[.slice none 0 0] 24
    rw [← hw2, s1] at h
    exact h.below b3 h.lt
  have r3 : VRow w3 (w.heap.size + 2) [.slice none 0 0] := by
    have h := VRow.new w2 #[.slice none 0 0] 24
    rw [← hw3, s2] at h
    exact h
  have hnz : NZ w w3 w.heap.size A n c (fitN net) 0 none 0 [] := ⟨r1, r2, r3, World.ownsRow_nil _ _ _ _, ⟨rfl, fun i hi => absurd hi (by simp)⟩, b1.trans ((b2.trans (b3.mono b2.size)).mono b1.size)⟩
  have q1 := (r1.get (i := 0) rfl).1
  rw [hw1] at hw2
  rw [hw2] at hw3
  have HW3 := Lib.hid hw3
  have HNZ := Lib.hid hnz
  have HA := Lib.hid hA
  have HN := Lib.hid hn
  have HMN := Lib.hid hmn
  rw [← hn]
  clear hn hmn hA h hw1 hw2 hw3 s1 s2 s3 b1 b2 b3 r1 r2 r3 hnz hm8e
  go_enter Tryz.func7, Tryz.ntmps7
  go_upto_region 2 with fail
  rw [← HW3.out]
  clear HW3
  go_wp2_with fail
  go_loopw [5] (fun i wr => ∃ (k : Nat) (S : Option Addr) (cS : Nat) (vs : List Value), k ≤ mn ∧ i = .int .i64 k ∧ Hid (NZ w wr w.heap.size A n c (fitN net) k S cS vs)) (fun i _ => mn - (intOf i).toNat)
  case atStart => exact ⟨0, none, 0, [], by omega, rfl, HNZ⟩
  case round =>
    clear HNZ q1
    obtain ⟨wo, rfl⟩ : ∃ wo : World, wo = wr := ⟨_, rfl⟩
    obtain ⟨k, S, cS, vs, hk, rfl, HZ⟩ := hrel
    have q1 := (HZ.out.arg.get (i := 0) rfl).1
    by_cases hlt : k < mn
    · have hbe := bal wo (.cells #[] 43)
      obtain ⟨wq, hwq⟩ : ∃ wq, wq = wo.alloc (.cells #[] 43) := ⟨_, rfl⟩
      rw [← hwq] at hbe
      have hzq := HZ.out.below hbe
      have q1' := (hzq.arg.get (i := 0) rfl).1
      have HZQ := Lib.hid hzq
      have HWQ := Lib.hid hwq
      have HBE := Lib.hid hbe
      clear hbe hzq hwq
      by_cases hkn : k < n
      · have hkn' : k < net.length := by have := HN.out; omega
        have hge : net.getD k [] = net[k] := by simp [List.getD, List.getElem?_eq_getElem hkn']
        obtain ⟨b, off, B, cB, hAe, hb, hc0, hl0⟩ := NetZAt.at_ HA.out hkn'
        have hbx := HZQ.out.bel
        have hd0 := (hbx.cell (p := ⟨b, off + k, none⟩) hb).trans hc0
        rw [HWQ.out] at hd0
        have hLB := Lies.below hl0 hbx
        rw [← hge] at hd0 hLB
        have ht := tfit_any B cB (net.getD k []) mn wq.drew hLB (HG.out k) hm0 (by omega)
        obtain ⟨fl, hfl⟩ : ∃ fl, fl = fitT mn (net.getD k []) := ⟨_, rfl⟩
        rw [← hfl] at ht
        have HT := Lib.hid ht
        have HFL := Lib.hid hfl
        have q0 := q1'
        rw [HWQ.out] at q0
        obtain ⟨nL, hnL⟩ : ∃ nL, nL = (net.getD k []).length := ⟨_, rfl⟩
        rw [← hnL] at hd0 HT
        subst hAe
        clear hc0 hl0 hbx hLB hge ht hfl hnL
        go_upto_region 9 with fail
        rw [← HWQ.out]
        refine wp_region_L (S := fun W => W.cell? ⟨w.heap.size + 2, 0, none⟩ = some (.slice S k cS)) (f := 8) (by kernel_rfl) ?_
        have hSq : wq.drew.cell? ⟨w.heap.size + 2, 0, none⟩ = some (.slice S k cS) := (HZQ.out.row.get (i := 0) rfl).1
        refine wpAnyL_take (i := 0) (v := (.pointer (some ⟨w.heap.size + 2, 0, none⟩))) rfl (by kernel_rfl) (by kernel_rfl) (by kernel_rfl) (by omega) (by kernel_rfl) (fun _ _ _ h => h) (Or.inl ⟨by rfl, fun w hSw => by (try dsimp only at hSw); go_simp⟩) (by assumption) ?_
        try simp only [Act.put, List.setIfInBounds_toArray, List.set_cons_zero, List.set_cons_succ]
        refine wpAnyL_take (i := 1) (v := (.slice S k cS)) rfl (by kernel_rfl) (by kernel_rfl) (by kernel_rfl) (by omega) (by kernel_rfl) (fun _ _ _ h => h) (Or.inl ⟨by rfl, fun w hSw => by (try dsimp only at hSw); go_simp⟩) (by assumption) ?_
        try simp only [Act.put, List.setIfInBounds_toArray, List.set_cons_zero, List.set_cons_succ]
        refine wpAnyL_take (i := 2) (v := (.slice B nL cB)) rfl (by kernel_rfl) (by kernel_rfl) (by kernel_rfl) (by omega) (by kernel_rfl) (fun _ _ _ h => h) (Or.inl ⟨by rfl, fun w hSw => by (try dsimp only at hSw); go_simp⟩) (by assumption) ?_
        try simp only [Act.put, List.setIfInBounds_toArray, List.set_cons_zero, List.set_cons_succ]
        refine wpAnyL_take (i := 3) (v := (.int .i64 (mn : Int))) rfl (by kernel_rfl) (by kernel_rfl) (by kernel_rfl) (by omega) (by kernel_rfl) (fun _ _ _ h => h) (Or.inl ⟨by rfl, fun w hSw => by (try dsimp only at hSw); go_simp⟩) (by assumption) ?_
        try simp only [Act.put, List.setIfInBounds_toArray, List.set_cons_zero, List.set_cons_succ]
        refine wpAnyL_one (i := 4) (by kernel_rfl) rfl fun K hK => ?_
        go_simp
        go_at_call 16
        refine (HT.out).mono ?_
        rintro e w4 ⟨R4, m4, rfl, hL4, hb4, hm4, hm4', hn4⟩
        have hz4 := HZQ.out.below (below_drew' hb4)
        have HZ4 := Lib.hid hz4
        have HB4 := Lib.hid (below_drew' hb4)
        have HL4 := Lib.hid hL4
        have HN4 := Lib.hid (new_mono (w := wq) hn4 (Nat.le_refl _))
        have hs4 := (hz4.row.get (i := 0) rfl).1
        refine hK.out _ _ (fun _ => hs4) ?_
        clear hK K hz4 hL4 hn4 hb4
        try simp only [Act.put, List.setIfInBounds_toArray, List.set_cons_zero, List.set_cons_succ]
        refine wpAnyL_one (i := 5) (by kernel_rfl) rfl fun K hK => ?_
        go_simp
        have hb5 := bal w4 (.cells #[.slice R4 fl.length m4] 44)
        have hz5 := HZ4.out.below hb5
        have hx5 := VRow.new w4 #[.slice R4 fl.length m4] 44
        have HZ5 := Lib.hid hz5
        have HX5 := Lib.hid hx5.lies
        have hs5 := (hz5.row.get (i := 0) rfl).1
        refine hK.out _ _ (fun _ => hs5) ?_
        clear hK K hz5 hb5 hx5
        try simp only [Act.put, List.setIfInBounds_toArray, List.set_cons_zero, List.set_cons_succ]
        refine wpAnyL_one (i := 6) (by kernel_rfl) rfl fun K hK => ?_
        refine step_appB rfl (.tmp 30) (.tmp 34) 22 rfl Tryz.underlying22 rrows_info rfl (by omega) (by omega) (w.heap.size + 3) _ HZ5.out.row.lt S k cS vs (by simp [Act.eval]) HZ5.out.own (some ⟨w4.heap.size, 0, none⟩) 1 1 [.slice R4 fl.length m4] (by simp [Act.eval]) rfl HX5.out (by intro u hu; simp at hu; subst hu; rfl) (by omega) ?_
        intro S6 c6 w6 hO6 hc6 hc6' hg6 hat6
        rw [ob_eq, ob_eq] at hat6
        rw [ob_eq] at hg6
        have hO5 := HZ5.out.own
        have hr6 : VRow w6 (w.heap.size + 2) [.slice S k cS] := HZ5.out.row.keep hg6.size (hg6.block _ HZ5.out.row.lt (fun e => by have h9 : w.heap.size + 3 ≤ w.heap.size + 2 := (hO5.lt _ (by rw [ob_eq]; exact e.symm)).1; omega))
        have hs6 := (hr6.get (i := 0) rfl).1
        have hf6 := (hr6.get (i := 0) rfl).2
        have hst : NZ w (w6.setCell ⟨w.heap.size + 2, 0, none⟩ (.slice S6 (k + 1) c6)) w.heap.size _ n c (fitN net) (k + 1) S6 c6 (vs ++ [.slice R4 fl.length m4]) :=
          HZQ.out.step (by rw [HFL.out, HMN.out]; exact fitN_take (by have := HMN.out; omega)) HB4.out HL4.out HN4.out hm4 hm4' hO6 hg6 (by rw [show (w4.alloc (.cells #[.slice R4 fl.length m4] 44)).heap.size = w4.heap.size + 1 by simp] at hat6; exact hat6)
        have HST := Lib.hid hst
        refine hK.out _ _ (fun _ => hs6) ?_
        clear hK K hst hO5 hO6 hg6 hat6 hr6
        try simp only [Act.put, List.setIfInBounds_toArray, List.set_cons_zero, List.set_cons_succ]
        refine wpAnyL_one (i := 7) (by kernel_rfl) rfl fun K hK => ?_
        go_simp
        refine hK.out _ _ (fun _ => hs6) ?_
        clear hK K
        try simp only [Act.put, List.setIfInBounds_toArray, List.set_cons_zero, List.set_cons_succ]
        refine wpAnyL_one (i := 8) (by kernel_rfl) rfl fun K hK => ?_
        go_simp
        refine hK.out _ _ (fun h9 => absurd rfl h9) ?_
        clear hK K
        try simp only [Act.put, List.setIfInBounds_toArray, List.set_cons_zero, List.set_cons_succ]
        refine wpAnyL_done (by kernel_rfl) ?_ _
        go_wp2_with fail
        refine ⟨⟨k + 1, S6, c6, _, by omega, by go_num, HST⟩, by simp [intOf]; omega⟩
      · have hge : net.getD k [] = [] := by have := HN.out; simp [List.getD, List.getElem?_eq_none (show net.length ≤ k by omega)]
        have ht := tfit_any (some ⟨wo.heap.size, 0, none⟩) 0 [] mn wq.drew lies_none (by simp) hm0 (by omega)
        obtain ⟨fl, hfl⟩ : ∃ fl, fl = fitT mn (net.getD k []) := ⟨_, rfl⟩
        rw [hge] at hfl
        rw [← hfl] at ht
        have hfl' : fl = fitT mn (net.getD k []) := by rw [hge]; exact hfl
        have HT := Lib.hid ht
        have HFL := Lib.hid hfl'
        have q0 := q1'
        rw [HWQ.out] at q0
        clear hge ht hfl hfl'
        go_upto_region 9 with fail
        rw [← HWQ.out]
        refine wp_region_L (S := fun W => W.cell? ⟨w.heap.size + 2, 0, none⟩ = some (.slice S k cS)) (f := 8) (by kernel_rfl) ?_
        have hSq : wq.drew.cell? ⟨w.heap.size + 2, 0, none⟩ = some (.slice S k cS) := (HZQ.out.row.get (i := 0) rfl).1
        refine wpAnyL_take (i := 0) (v := (.pointer (some ⟨w.heap.size + 2, 0, none⟩))) rfl (by kernel_rfl) (by kernel_rfl) (by kernel_rfl) (by omega) (by kernel_rfl) (fun _ _ _ h => h) (Or.inl ⟨by rfl, fun w hSw => by (try dsimp only at hSw); go_simp⟩) (by assumption) ?_
        try simp only [Act.put, List.setIfInBounds_toArray, List.set_cons_zero, List.set_cons_succ]
        refine wpAnyL_take (i := 1) (v := (.slice S k cS)) rfl (by kernel_rfl) (by kernel_rfl) (by kernel_rfl) (by omega) (by kernel_rfl) (fun _ _ _ h => h) (Or.inl ⟨by rfl, fun w hSw => by (try dsimp only at hSw); go_simp⟩) (by assumption) ?_
        try simp only [Act.put, List.setIfInBounds_toArray, List.set_cons_zero, List.set_cons_succ]
        refine wpAnyL_take (i := 2) (v := (.slice (some ⟨wo.heap.size, 0, none⟩) 0 0)) rfl (by kernel_rfl) (by kernel_rfl) (by kernel_rfl) (by omega) (by kernel_rfl) (fun _ _ _ h => h) (Or.inl ⟨by rfl, fun w hSw => by (try dsimp only at hSw); go_simp⟩) (by assumption) ?_
        try simp only [Act.put, List.setIfInBounds_toArray, List.set_cons_zero, List.set_cons_succ]
        refine wpAnyL_take (i := 3) (v := (.int .i64 (mn : Int))) rfl (by kernel_rfl) (by kernel_rfl) (by kernel_rfl) (by omega) (by kernel_rfl) (fun _ _ _ h => h) (Or.inl ⟨by rfl, fun w hSw => by (try dsimp only at hSw); go_simp⟩) (by assumption) ?_
        try simp only [Act.put, List.setIfInBounds_toArray, List.set_cons_zero, List.set_cons_succ]
        refine wpAnyL_one (i := 4) (by kernel_rfl) rfl fun K hK => ?_
        go_simp
        go_at_call 16
        refine (HT.out).mono ?_
        rintro e w4 ⟨R4, m4, rfl, hL4, hb4, hm4, hm4', hn4⟩
        have hz4 := HZQ.out.below (below_drew' hb4)
        have HZ4 := Lib.hid hz4
        have HB4 := Lib.hid (below_drew' hb4)
        have HL4 := Lib.hid hL4
        have HN4 := Lib.hid (new_mono (w := wq) hn4 (Nat.le_refl _))
        have hs4 := (hz4.row.get (i := 0) rfl).1
        refine hK.out _ _ (fun _ => hs4) ?_
        clear hK K hz4 hL4 hn4 hb4
        try simp only [Act.put, List.setIfInBounds_toArray, List.set_cons_zero, List.set_cons_succ]
        refine wpAnyL_one (i := 5) (by kernel_rfl) rfl fun K hK => ?_
        go_simp
        have hb5 := bal w4 (.cells #[.slice R4 fl.length m4] 44)
        have hz5 := HZ4.out.below hb5
        have hx5 := VRow.new w4 #[.slice R4 fl.length m4] 44
        have HZ5 := Lib.hid hz5
        have HX5 := Lib.hid hx5.lies
        have hs5 := (hz5.row.get (i := 0) rfl).1
        refine hK.out _ _ (fun _ => hs5) ?_
        clear hK K hz5 hb5 hx5
        try simp only [Act.put, List.setIfInBounds_toArray, List.set_cons_zero, List.set_cons_succ]
        refine wpAnyL_one (i := 6) (by kernel_rfl) rfl fun K hK => ?_
        refine step_appB rfl (.tmp 30) (.tmp 34) 22 rfl Tryz.underlying22 rrows_info rfl (by omega) (by omega) (w.heap.size + 3) _ HZ5.out.row.lt S k cS vs (by simp [Act.eval]) HZ5.out.own (some ⟨w4.heap.size, 0, none⟩) 1 1 [.slice R4 fl.length m4] (by simp [Act.eval]) rfl HX5.out (by intro u hu; simp at hu; subst hu; rfl) (by omega) ?_
        intro S6 c6 w6 hO6 hc6 hc6' hg6 hat6
        rw [ob_eq, ob_eq] at hat6
        rw [ob_eq] at hg6
        have hO5 := HZ5.out.own
        have hr6 : VRow w6 (w.heap.size + 2) [.slice S k cS] := HZ5.out.row.keep hg6.size (hg6.block _ HZ5.out.row.lt (fun e => by have h9 : w.heap.size + 3 ≤ w.heap.size + 2 := (hO5.lt _ (by rw [ob_eq]; exact e.symm)).1; omega))
        have hs6 := (hr6.get (i := 0) rfl).1
        have hf6 := (hr6.get (i := 0) rfl).2
        have hst : NZ w (w6.setCell ⟨w.heap.size + 2, 0, none⟩ (.slice S6 (k + 1) c6)) w.heap.size _ n c (fitN net) (k + 1) S6 c6 (vs ++ [.slice R4 fl.length m4]) :=
          HZQ.out.step (by rw [HFL.out, HMN.out]; exact fitN_take (by have := HMN.out; omega)) HB4.out HL4.out HN4.out hm4 hm4' hO6 hg6 (by rw [show (w4.alloc (.cells #[.slice R4 fl.length m4] 44)).heap.size = w4.heap.size + 1 by simp] at hat6; exact hat6)
        have HST := Lib.hid hst
        refine hK.out _ _ (fun _ => hs6) ?_
        clear hK K hst hO5 hO6 hg6 hat6 hr6
        try simp only [Act.put, List.setIfInBounds_toArray, List.set_cons_zero, List.set_cons_succ]
        refine wpAnyL_one (i := 7) (by kernel_rfl) rfl fun K hK => ?_
        go_simp
        refine hK.out _ _ (fun _ => hs6) ?_
        clear hK K
        try simp only [Act.put, List.setIfInBounds_toArray, List.set_cons_zero, List.set_cons_succ]
        refine wpAnyL_one (i := 8) (by kernel_rfl) rfl fun K hK => ?_
        go_simp
        refine hK.out _ _ (fun h9 => absurd rfl h9) ?_
        clear hK K
        try simp only [Act.put, List.setIfInBounds_toArray, List.set_cons_zero, List.set_cons_succ]
        refine wpAnyL_done (by kernel_rfl) ?_ _
        go_wp2_with fail
        refine ⟨⟨k + 1, S6, c6, _, by omega, by go_num, HST⟩, by simp [intOf]; omega⟩
    · obtain rfl : k = mn := by omega
      have q3 := (HZ.out.row.get (i := 0) rfl).1
      have z2 := (HZ.out.res.get (i := 0) rfl).1
      have f2 := (HZ.out.res.get (i := 0) rfl).2
      have hcc := own_form HZ.out.own
      obtain ⟨_, _, he, hc1, hc2⟩ := hcc
      obtain ⟨rfl, -, rfl⟩ : S = _ ∧ k = _ ∧ cS = _ := by injection he with h1 h2 h3; exact ⟨h1, h2, h3⟩
      clear he
      go_wp2_with fail
      have hv := HZ.out.res.set_ 0 (.slice S k cS)
      have y0 := (hv.get (i := 0) rfl).1
      have hk : k = (fitN net).length := by rw [fitN_len]; exact HMN.out
      have hrows := HZ.out.rows
      rw [List.take_of_length_le (by omega)] at hrows
      have ho : ∀ g, ob S = some g → w.heap.size + 3 ≤ g := fun g hg => (HZ.out.own.lt g (by rw [ob_eq]; exact hg)).1
      have hrw := hrows.step (W2 := wo.setCell ⟨w.heap.size + 1, 0, none⟩ (.slice S k cS)) (by simp) (fun b _ h1 => Below.heap_setCell wo ⟨w.heap.size + 1, 0, none⟩ _ b (fun e => h1 (.inl (by have e : b = w.heap.size + 1 := e; omega)))) (fun _ _ h => h)
      have hLv := lies_stay (W2 := wo.setCell ⟨w.heap.size + 1, 0, none⟩ (.slice S k cS)) (Lies.of_own HZ.out.own) (by simp) (fun _ a ha => Below.heap_setCell wo ⟨w.heap.size + 1, 0, none⟩ _ a.block fun e => by
        subst ha
        have h9 := ho a.block rfl
        have e : a.block = w.heap.size + 1 := e
        omega)
      have hbe := HZ.out.bel.setCell (p := ⟨w.heap.size + 1, 0, none⟩) (Nat.le_succ _) (.slice S k cS)
      refine bodyPost_ret (v := .agg #[.slice S k cS]) (by simp [results, Tryz.results7, go_sem, y0]) rfl ⟨S, cS, by rw [← hk], hrw.net hLv, hbe, by omega, hc2⟩
end Go.Proofs.YtpjoefekhgmlhaaGreat.Tp

namespace Go.Proofs.YtpjoefekhgmlhaaGreat.Tp
open Go.RowKit Mem

theorem u32ty : Tryz.prog.underlying 39 = some (.slice (Tryz.prog.elem 39)) := by kernel_rfl
theorem u32sz : ∀ w, (sizeOf (Tryz.prog.elem 39)).run Tryz.prog w = .ok 1 w := fun _ => by kernel_rfl
theorem own_u0 (w : World) : (w.alloc (.cells #[] 25)).ownsRow w.heap.size 25 1 (.slice (some ⟨w.heap.size, 0, none⟩) 0 0) 0 (u32s []) :=
  ⟨rfl, .inr ⟨w.heap.size, 0, _, rfl, Nat.le_refl _, heap_alloc_new w _, by omega, by simp [maxLen], rfl, rfl⟩⟩
/-- Some addresses are told, in a row of the call's own. -/
def SomePost (B : Nat) (k : Nat) (w : World) (e : Ending) (w' : World) : Prop := ∃ R m l, e = .returned (.slice R l.length m) ∧ w'.ownsRow B 25 1 (.slice R l.length m) l.length (u32s l) ∧ (∀ x ∈ l, x < 4294967296) ∧ l.length ≤ k ∧ Below w.heap.size w w'
set_option maxRecDepth 100000 in
set_option maxHeartbeats 1000000 in
theorem cput12_any (B : Nat) (S : Option Addr) (c a : Nat) (l : List Nat) (w : World) (hB : B ≤ w.heap.size) (hown : w.ownsRow B 25 1 (.slice S l.length c) l.length (u32s l)) (hl : ∀ x ∈ l, x < 4294967296) (hn : l.length ≤ 1000000) (ha : a < 4294967296) :
    Calls Tryz.prog 29 #[.slice S l.length c, .int .u32 (a : Int)] w (SomePost B (l.length + 1) w) := by
  obtain ⟨n, hnl⟩ : ∃ n, n = l.length := ⟨_, rfl⟩
  have hL : Lies w S (u32s l) := Lies.of_own hown
  obtain ⟨_, _, he, hc1, hc2⟩ := own_form hown
  obtain ⟨rfl, -, rfl⟩ : S = _ ∧ l.length = _ ∧ c = _ := by injection he with h1 h2 h3; exact ⟨h1, h2, h3⟩
  clear he
  have HO := Lib.hid hown
  have HL := Lib.hid hL
  have HN := Lib.hid hnl
  have HLL := Lib.hid hl
  rw [← hnl] at hc1 hn ⊢
  clear hown hL hnl hl
  go_enter Tryz.func29, Tryz.ntmps29
  go_upto_block 0 with fail
  go_cut [5] (fun s5 wx => ∃ J : Nat, s5 = .int .i64 (J : Int) ∧ J ≤ n ∧ w = wx)
  case first =>
    go_wp2_with fail
    go_loopw [5] (fun s5 wx => ∃ J : Nat, s5 = .int .i64 (J : Int) ∧ J ≤ n ∧ w = wx) (fun s5 _ => n - (intOf s5).toNat)
    case atStart => exact ⟨0, rfl, by omega, rfl⟩
    case round =>
      obtain ⟨J, rfl, hJ, rfl⟩ := hrel
      by_cases hjl : J < n
      · have hjl' : J < l.length := by have := HN.out; omega
        obtain ⟨b, off, hSe, hb, hc0⟩ := Lies.at_map HL.out hjl'
        obtain ⟨x, hx⟩ : ∃ x, x = l[J] := ⟨_, rfl⟩
        rw [← hx] at hc0
        have g1 : decide ((J : Int) < (n : Int)) = true := decide_eq_true (by omega)
        subst hSe
        clear hx hjl'
        by_cases hp : (x : Int) < (a : Int)
        · have g2 : decide ((x : Int) < (a : Int)) = true := decide_eq_true hp
          go_wp2_with fail
          exact ⟨⟨J + 1, by go_num, by omega, trivial⟩, by simp [intOf]; omega⟩
        · have g2 : decide ((x : Int) < (a : Int)) = false := decide_eq_false hp
          go_wp2_with fail
          go_meet
          exact ⟨J, rfl, hJ, rfl⟩
      · have g1 : decide ((J : Int) < (n : Int)) = false := decide_eq_false (by omega)
        go_wp2_with fail
        go_meet
        exact ⟨J, rfl, hJ, rfl⟩
  case rest =>
    obtain ⟨J, rfl, hJ, rfl⟩ := hcut
    go_upto_region 4 with fail
    go_cut [32] (fun s32 wx => ∃ b : Bool, s32 = .bool b ∧ w = wx)
    case first =>
      by_cases hjl : J < n
      · have hjl' : J < l.length := by have := HN.out; omega
        obtain ⟨b, off, hSe, hb, hc0⟩ := Lies.at_map HL.out hjl'
        obtain ⟨x, hx⟩ : ∃ x, x = l[J] := ⟨_, rfl⟩
        rw [← hx] at hc0
        have g1 : decide ((J : Int) < (n : Int)) = true := decide_eq_true (by omega)
        subst hSe
        clear hx hjl'
        go_wp2_with fail
        go_meet
        exact ⟨_, rfl, rfl⟩
      · have g1 : decide ((J : Int) < (n : Int)) = false := decide_eq_false (by omega)
        go_wp2_with fail
        go_meet
        exact ⟨_, rfl, rfl⟩
    case rest =>
      obtain ⟨b, rfl, rfl⟩ := hcut
      cases b with
      | true =>
        go_wp2_with fail
        go_ret
        exact ⟨S, c, l, by rw [← HN.out]; rfl, HO.out, HLL.out, by rw [← HN.out]; omega, Below.refl _ _⟩
      | false =>
        obtain ⟨A1, hcut1, hl1⟩ := cut_lz (P := Tryz.prog) u32ty u32sz S n c J hJ hc1
        obtain ⟨A2, hcut2, hl2⟩ := cut_hz (P := Tryz.prog) u32ty u32sz S n c J (by omega)
        have hL1 : Lies w A1 (u32s (l.drop J)) := by have := hl1 w _ HL.out (by simp [HN.out]); rwa [Nat.mul_one, ← List.map_drop] at this
        have hL2 : Lies w A2 (u32s (l.take J)) := by have := hl2 w _ HL.out; rwa [Nat.mul_one, ← List.map_take] at this
        have hld : (l.drop J).length = n - J := by rw [List.length_drop, HN.out]
        have hlt2 : (l.take J).length = J := by rw [List.length_take, ← HN.out]; omega
        have hb1 := bal w (.cells #[.int .u32 (a : Int)] 25)
        have HL1 := Lib.hid (hL1.below hb1)
        have HL2 := Lib.hid hL2
        have HLD := Lib.hid hld
        have HLT := Lib.hid hlt2
        have HB1 := Lib.hid hb1
        have HO1 := Lib.hid (own_lit' w (.int .u32 (a : Int)) 25)
        clear hl1 hl2 hL1 hL2 hld hlt2 hb1
        go_wp2_with (first
          | (at_builtin; refine wpList_app rfl (.tmp 35) (.tmp 38) _ rfl Tryz.underlying39 u32_info rfl (by omega) (by omega) w _ HB1.out _ 1 1 (u32s [a]) rfl HO1.out A1 (n - J) (c - J) (u32s (l.drop J)) rfl (by rw [List.length_map, HLD.out]; omega) HL1.out (u32_one _) (by omega) ?_; intro S2 c2 W2 hown2 hc2a hc2b hb2 hg2; have HB2 := Lib.hid hb2; have HO2 := Lib.hid hown2; have hbe := bal W2 (.cells #[] 25); have HBE := Lib.hid hbe; have HL2b := Lib.hid (HL2.out.below (hb2.trans (hbe.mono hb2.size))); clear hown2 hc2a hc2b hb2 hg2 hbe)
          | (at_builtin; refine wpList_app rfl (.tmp 40) (.tmp 43) _ rfl Tryz.underlying39 u32_info rfl (by omega) (by omega) W2 _ HBE.out _ 0 0 (u32s []) rfl (own_u0 W2) A2 J c (u32s (l.take J)) rfl (by rw [List.length_map, HLT.out]; omega) HL2b.out (u32_one _) (by omega) ?_; intro S5 c5 W5 hown5 hc5 hc5' hb5 hg5; simp only [Nat.zero_add] at hown5; have HB5 := Lib.hid hb5; have HO5 := Lib.hid hown5; have HL9b := Lib.hid ((Lies.of_own HO2.out).below hb5); clear hown5 hc5 hc5' hb5 hg5)
          | (at_builtin; refine wpList_app rfl (.tmp 44) (.tmp 45) _ rfl Tryz.underlying39 u32_info rfl (by omega) (by omega) W2 _ HB5.out _ _ _ _ rfl HO5.out S2 (1 + (n - J)) c2 _ rfl (by rw [List.length_append, List.length_map, List.length_map, HLD.out]; simp) HL9b.out (by rw [← List.map_append]; exact u32_one _) (by omega) ?_; intro S6 c6 W6 hown6 hc6 hc6' hb6 hg6; have HB6 := Lib.hid hb6; have HO6 := Lib.hid hown6; clear hown6 hb6 hg6))
        go_ret
        have hl6 : (l.take J ++ (a :: l.drop J)).length = J + (1 + (n - J)) := by rw [List.length_append, List.length_cons, HLT.out, HLD.out]; omega
        refine ⟨S6, c6, l.take J ++ (a :: l.drop J), by rw [hl6]; rfl, ?_, fun x hx => ?_, by rw [hl6]; omega, HB2.out.trans (HB6.out.mono HB2.out.size)⟩
        · rw [hl6]
          have h := own_mono (base' := B) HO6.out (Nat.le_trans hB HB2.out.size)
          simpa using h
        · rcases List.mem_append.1 hx with h | h
          · exact HLL.out x (List.mem_of_mem_take h)
          · rcases List.mem_cons.1 h with rfl | h
            · exact ha
            · exact HLL.out x (List.mem_of_mem_drop h)
end Go.Proofs.YtpjoefekhgmlhaaGreat.Tp

namespace Go.Proofs.YtpjoefekhgmlhaaGreat.Tp
open Go.RowKit Mem

set_option maxRecDepth 100000 in
set_option maxHeartbeats 2000000 in
theorem rof_any (A : Option Addr) (c : Nat) (net : List (List RuleT)) (w : World) (hN : NetAt w A net) (h : NetOk net) :
    Calls Tryz.prog 11 #[.agg #[.slice A net.length c]] w (SomePost w.heap.size 9000 w) := by
  obtain ⟨n, hn⟩ : ∃ n, n = net.length := ⟨_, rfl⟩
  have hn2 : n ≤ 256 := by have := h.nodes; omega
  have HH := Lib.hid h
  obtain ⟨w1, hw1⟩ : ∃ w1, w1 = w.alloc (.cells #[.slice A n c] 24) := ⟨_, rfl⟩
  obtain ⟨w2, hw2⟩ : ∃ w2, w2 = w1.alloc (.cells #[.int .u32 0] 25) := ⟨_, rfl⟩
  have b1 : Below w.heap.size w w1 := by rw [hw1]; exact bal _ _
  have b2 : Below w1.heap.size w1 w2 := by rw [hw2]; exact bal _ _
  have hb := b1.trans (b2.mono b1.size)
  have r1 : VRow w2 w.heap.size [.slice A n c] := by
    have h := VRow.new w #[.slice A n c] 24
    rw [← hw1] at h
    exact h.below b2 h.lt
  have s1 : w1.heap.size = w.heap.size + 1 := by rw [hw1]; simp
  have o2 := own_lit' w1 (.int .u32 0) 25
  rw [← hw2] at o2
  have o2' := own_mono (base' := w.heap.size) o2 b1.size
  rw [s1] at o2'
  rw [hw1] at hw2
  have HW2 := Lib.hid hw2
  have HB2 := Lib.hid hb
  have HR2 := Lib.hid r1
  have HO2 := Lib.hid o2'
  have HN := Lib.hid hn
  rw [← hn]
  clear h hw1 hw2 b1 b2 hb r1 o2 o2' hn s1
  go_enter Tryz.func11, Tryz.ntmps11
  go_upto_region 2 with fail
  rw [← HW2.out]
  clear HW2
  go_wp2_with fail
  go_loopw [3, 4] (fun s3 s4 wr => ∃ (i : Nat) (S : Option Addr) (cS : Nat) (l : List Nat), i ≤ n ∧ s4 = .int .i64 i ∧ s3 = .slice S l.length cS ∧ Hid (wr.ownsRow w.heap.size 25 1 (.slice S l.length cS) l.length (u32s l)) ∧ Hid (∀ x ∈ l, x < 4294967296) ∧ Hid (l.length ≤ 1 + 2 * sizeTo net i) ∧ Hid (VRow wr w.heap.size [.slice A n c]) ∧ Hid (Below w.heap.size w wr)) (fun _ s4 _ => n - (intOf s4).toNat)
  case atStart => exact ⟨0, _, 1, [0], by omega, rfl, rfl, Lib.hid (by simpa using HO2.out), Lib.hid (by simp), Lib.hid (by simp), HR2, HB2⟩
  case round =>
    clear HO2 HR2 HB2
    obtain ⟨wo, rfl⟩ : ∃ wo : World, wo = wr := ⟨_, rfl⟩
    obtain ⟨i, S, cS, l, hi, rfl, rfl, HO, HLL, HLN, HR, HB⟩ := hrel
    have q1 := (HR.out.get (i := 0) rfl).1
    by_cases hlt : i < n
    · have hi' : i < net.length := by have := HN.out; omega
      obtain ⟨b, off, B, cB, hAe, hbb, hc0, hl0⟩ := NetAt.at_ hN hi'
      have hnx := sizeTo_next hi'
      have hsz := sizeTo_le net (i + 1)
      have hrl := HH.out.rules
      have hrok := HH.out.pre (List.getElem_mem hi')
      obtain ⟨L, hL⟩ : ∃ L, L = net[i] := ⟨_, rfl⟩
      rw [← hL] at hc0 hl0 hnx hrok
      obtain ⟨nL, hnL⟩ : ∃ nL, nL = L.length := ⟨_, rfl⟩
      rw [← hnL] at hc0 hl0 hnx
      obtain ⟨hlr, hcb1, hcb2⟩ := hl0
      have hd := (HB.out.cell (p := ⟨b, off + i, none⟩) hbb).trans hc0
      obtain ⟨sz, hszv⟩ : ∃ sz, sz = sizeTo net i := ⟨_, rfl⟩
      have hbig : sz + nL ≤ 4096 := by omega
      have HNX := Lib.hid hnx
      have HSZ := Lib.hid hszv
      have HNL := Lib.hid hnL
      have HRO := Lib.hid hrok
      have HLR := Lib.hid hlr
      have HC0 := Lib.hid hc0
      rw [← hszv] at HLN
      clear hnx hsz hrl hrok hL hnL hlr hc0 hszv
      subst hAe
      go_wp2_with fail
      go_loopw [3, 5] (fun s3 s5 wr => ∃ (j : Nat) (S : Option Addr) (cS : Nat) (l : List Nat), j ≤ nL ∧ s5 = .int .i64 j ∧ s3 = .slice S l.length cS ∧ Hid (wr.ownsRow w.heap.size 25 1 (.slice S l.length cS) l.length (u32s l)) ∧ Hid (∀ x ∈ l, x < 4294967296) ∧ Hid (l.length ≤ 1 + 2 * sz + 2 * j) ∧ Hid (VRow wr w.heap.size [.slice (some ⟨b, off, none⟩) n c]) ∧ Hid (Below w.heap.size w wr)) (fun _ s5 _ => nL - (intOf s5).toNat)
      case atStart => exact ⟨0, S, cS, l, by omega, rfl, rfl, HO, HLL, Lib.hid (by have := HLN.out; omega), HR, HB⟩
      case round =>
        clear hd q1 HO HLL HLN HR HB
        obtain ⟨wo2, rfl⟩ : ∃ wo2 : World, wo2 = wr := ⟨_, rfl⟩
        obtain ⟨j, S, cS, l, hj, rfl, rfl, HO, HLL, HLN, HR, HB⟩ := hrel
        have q1 := (HR.out.get (i := 0) rfl).1
        by_cases hjl : j < nL
        · have hjl' : j < L.length := by have := HNL.out; omega
          obtain ⟨b2, off2, hBe, hb2, hc_0, hc_1, -, -⟩ := RulesAt.at_ HLR.out hjl'
          have hok := HRO.out _ (List.getElem_mem hjl')
          obtain ⟨r, hr⟩ : ∃ r, r = L[j] := ⟨_, rfl⟩
          rw [← hr] at hc_0 hc_1 hok
          have hd := (HB.out.cell (p := ⟨b, off + i, none⟩) hbb).trans HC0.out
          have hd0 := (HB.out.cell (p := ⟨b2, off2 + j * 4, none⟩) hb2).trans hc_0
          have hd1 := (HB.out.cell (p := ⟨b2, off2 + j * 4 + 1, none⟩) hb2).trans hc_1
          have hE := fun W => rends_any r.a r.len hok.1 W
          obtain ⟨ra, rl, rc_, rn⟩ := r
          simp only at hd0 hd1 hE
          have HE := Lib.hid hE
          clear hc_0 hc_1 hr hok hE
          subst hBe
          have KS : Hid (∀ W : World, W.heap = wo2.heap → W.cell? ⟨w.heap.size, 0, none⟩ = some (.slice (some ⟨b, off, none⟩) n c) ∧ W.cell? ⟨b, off + i, none⟩ = some (.slice (some ⟨b2, off2, none⟩) nL cB) ∧ W.cell? ⟨b2, off2 + j * 4, none⟩ = some (.int .u32 (ra : Int)) ∧ W.cell? ⟨b2, off2 + j * 4 + 1, none⟩ = some (.int .i64 (rl : Int))) := Lib.hid fun W hW => by
            have hcc : ∀ p : Addr, W.cell? p = wo2.cell? p := fun p => World.cell?_of_block (by rw [hW])
            exact ⟨(hcc _).trans q1, (hcc _).trans hd, (hcc _).trans hd0, (hcc _).trans hd1⟩
          go_wp2_with fail
          go_region_held3 (fun W => W.cell? ⟨w.heap.size, 0, none⟩ = some (.slice (some ⟨b, off, none⟩) n c) ∧ W.cell? ⟨b, off + i, none⟩ = some (.slice (some ⟨b2, off2, none⟩) nL cB) ∧ W.cell? ⟨b2, off2 + j * 4, none⟩ = some (.int .u32 (ra : Int)) ∧ W.cell? ⟨b2, off2 + j * 4 + 1, none⟩ = some (.int .i64 (rl : Int)))
            (first | exact KS.out _ rfl)
            (first | (go_at_call 28; refine (HE.out _).mono ?_; rintro e w4 ⟨x, y, hx, hy, rfl, rfl⟩))
          have hln := HLN.out
          have hdr : Below wo2.heap.size wo2 wo2.drew := below_drew (Below.refl _ _)
          have hp1 := cput12_any w.heap.size S cS x l wo2.drew HB.out.size (own_below HO.out hdr) HLL.out (by omega) hx
          have HP1 := Lib.hid hp1
          clear hp1
          go_wp2_with fail
          refine (HP1.out).mono ?_
          rintro e w5 ⟨S5, c5, l5, rfl, ho5, hl5, hn5, hb5⟩
          have hb5' : Below wo2.heap.size wo2 w5 := below_drew' hb5
          have HB5 := Lib.hid (HB.out.trans (hb5'.mono HB.out.size))
          have HR5 := Lib.hid (HR.out.below hb5' HR.out.lt)
          have HO5 := Lib.hid ho5
          have HLL5 := Lib.hid hl5
          clear hb5 hb5' ho5 hl5 hd hd0 hd1 q1 KS hdr
          by_cases hy2 : (y : Int) = 4294967295
          · have g1 : ((y : Int) == 4294967295) = true := by simpa using hy2
            go_wp2_with fail
            exact ⟨⟨j + 1, S5, c5, l5, by omega, by go_num, rfl, HO5, HLL5, Lib.hid (by omega), HR5, HB5⟩, by simp [intOf]; omega⟩
          · have g1 : ((y : Int) == 4294967295) = false := by simpa using hy2
            have hy3 : y + 1 < 4294967296 := by omega
            have hp2 := cput12_any w.heap.size S5 c5 (y + 1) l5 w5 HB5.out.size HO5.out HLL5.out (by omega) hy3
            rw [show ((y + 1 : Nat) : Int) = (y : Int) + 1 by omega] at hp2
            have HP2 := Lib.hid hp2
            clear hp2
            go_wp2_with fail
            refine (HP2.out).mono ?_
            rintro e w6 ⟨S6, c6, l6, rfl, ho6, hl6, hn6, hb6⟩
            have HB6 := Lib.hid (HB5.out.trans (hb6.mono HB5.out.size))
            have HR6 := Lib.hid (HR5.out.below hb6 HR5.out.lt)
            have HO6 := Lib.hid ho6
            have HLL6 := Lib.hid hl6
            clear hb6 ho6 hl6
            go_wp2_with fail
            exact ⟨⟨j + 1, S6, c6, l6, by omega, by go_num, rfl, HO6, HLL6, Lib.hid (by omega), HR6, HB6⟩, by simp [intOf]; omega⟩
        · obtain rfl : j = nL := by omega
          have hd := (HB.out.cell (p := ⟨b, off + i, none⟩) hbb).trans HC0.out
          go_wp2_with fail
          exact ⟨⟨i + 1, S, cS, l, by omega, by go_num, rfl, HO, HLL, Lib.hid (by have := HLN.out; have := HNX.out; have := HSZ.out; omega), HR, HB⟩, by simp [intOf]; omega⟩
    · obtain rfl : i = n := by omega
      have hsz := sizeTo_le net i
      have hrl := HH.out.rules
      go_wp2_with fail
      go_ret
      exact ⟨S, cS, l, rfl, HO.out, HLL.out, by have := HLN.out; omega, HB.out⟩
end Go.Proofs.YtpjoefekhgmlhaaGreat.Tp

namespace Go.Proofs.YtpjoefekhgmlhaaGreat.Tp
open Go.RowKit Mem

/-- A network of eight nodes and 160 rules at most. -/
structure Small (net : List (List RuleT)) : Prop where
  ok : NetOk net
  some_ : 0 < net.length
  few : net.length ≤ 8
  rules : (net.map List.length).sum ≤ 160
theorem small_fit {net : List (List RuleZ)} (h : ∀ l ∈ net, ∀ r ∈ l, RuleZOk r) : Small (fitN net) := by
  obtain ⟨h1, h2, h3, h4⟩ := fitN_ok h
  exact ⟨h1, h2, h3, h4⟩
theorem Small.cuts {net : List (List RuleT)} (h : Small net) : (cutsL net).length ≤ 321 := by have := cuts_len h.rules; omega
theorem Small.cutsOf {net : List (List RuleT)} (h : Small net) : CutsOf net (cutsL net) := cutsOf_few 60000 So.sorts_many h.ok (by have := h.cuts; omega)
/-- The certificate of a small network. -/
def certOf (net : List (List RuleT)) : CertT := anCert (atomsTo net (cutsL net))
theorem Small.cert {net : List (List RuleT)} (h : Small net) : CertOk net.length (certOf net) := by
  obtain ⟨h1, h2, h3⟩ := cuts_ok h.ok
  exact cert_ok h.ok h.some_ h1 h2 (by have := h.cuts; omega) h3
theorem Small.anet {net : List (List RuleT)} (h : Small net) : AnetOf net (certOf net) := fun N cN w hN => by
  obtain ⟨h1, h2, h3⟩ := cuts_ok h.ok
  exact anet_any N cN net (cutsL net) w hN h.ok h.some_ h.cutsOf (by have := h.cuts; omega) h2 (sok h.ok h.some_ h1 h2 (by have := h.cuts; omega))
theorem Small.check {net : List (List RuleT)} (h : Small net) {n0 : Nat} {c : CertT} (hc : CertOk n0 c) (hn0 : n0 ≤ 256) (N : Option Addr) (cN : Nat) (v : Value) (w : World) (hN : NetAt w N net) (hv : CertAt w v c) :
    Calls Tryz.prog 9 #[.agg #[.slice N net.length cN], v] w (NetPost w (ansN net (cutsL net) n0 c)) :=
  cnet_any N cN n0 net (cutsL net) v c w h.cutsOf hN h.ok hv (by have := h.cuts; omega) (cuts_ok h.ok).2.1 hc hn0
end Go.Proofs.YtpjoefekhgmlhaaGreat.Tp
