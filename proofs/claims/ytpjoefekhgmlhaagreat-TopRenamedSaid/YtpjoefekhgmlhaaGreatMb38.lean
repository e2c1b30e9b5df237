/- CONTRACT of slices.partialInsertionSortOrdered at uint32. Conditions: bounds. · CONTRACT of slices.partitionEqualOrdered at uint32. Conditions: bounds. -/
import Derived.Test.YtpjoefekhgmlhaaGreatMb09
import Derived.Sort.WalkA6
import Derived.Sort.WalkC
namespace Go.Proofs.YtpjoefekhgmlhaaGreat.So
open Go.RowKit Go.Sort Go.Proofs
set_option maxHeartbeats 1600000 in
set_option maxRecDepth 100000 in
theorem partialInsertionSort_u (blk off cap a b : Nat) (d : Array Int) (w : World) (hH : Holds encU w blk off d) (hab : a < b) (hb : b ≤ d.size) (hsz : d.size < 4611686018427387904) :
    Calls Tryz.prog 149 #[.slice (some ⟨blk, off, none⟩) d.size cap, .int .i64 a, .int .i64 b] w fun e w' =>
      e = .returned (.bool (Go.Sort.partialInsertionSort ltInt d a b).2) ∧ ∃ n, w' = putRow encU (Go.Sort.ahead w n) blk off (Go.Sort.partialInsertionSort ltInt d a b).1 := by
  have HH : Hid (Holds encU w blk off d) := hH
  have HST : Hid (w = putRow encU (Go.Sort.ahead w 0) blk off d) := (putRow_self _ _ _ _ _ hH).symm
  clear hH
  go_enter Tryz.func149, Tryz.ntmps149
  go_wp2
  go_loopw [7, 8] (fun vi vs wr => ∃ (i s n : Nat) (dk : Array Int), vi = .int .i64 i ∧ vs = .int .i64 s ∧ s ≤ 5 ∧ a < i ∧ i ≤ b ∧ dk.size = d.size ∧ wr = putRow encU (Go.Sort.ahead w n) blk off dk ∧
      partialIns ltInt a b (5 - s) i dk = partialIns ltInt a b 5 (a + 1) d) (fun _ vs _ => 5 - (intOf vs).toNat)
  case atStart => exact ⟨a + 1, 0, 0, d, by go_num, rfl, by omega, by omega, by omega, rfl, HST.out, rfl⟩
  case round =>
    obtain ⟨i, s, n, dk, rfl, rfl, hs5, hai, hib, hsk, hwr, hO⟩ := hrel
    have HO : Hid (partialIns ltInt a b (5 - s) i dk = partialIns ltInt a b 5 (a + 1) d) := hO
    clear hO
    go_wp2
    ·
      have hs : s < 5 := by omega
      go_loopw [7] (fun vi wr2 => ∃ (k m : Nat), vi = .int .i64 k ∧ i ≤ k ∧ k ≤ b ∧ wr2 = putRow encU (Go.Sort.ahead w m) blk off dk ∧ scanSorted ltInt dk b k = scanSorted ltInt dk b i) (fun vi _ => b - (intOf vi).toNat)
      case atStart => exact ⟨i, n, rfl, Nat.le_refl _, hib, rfl, rfl⟩
      case round =>
        obtain ⟨k, m, rfl, hik, hkb, hw2, hS⟩ := hrel
        obtain ⟨G, hG⟩ : ∃ G : Nat → Int, ∀ t, G t = dk[t]! := ⟨fun t => dk[t]!, fun _ => rfl⟩
        have hcw : ∀ t, t < d.size → wr.cell? ⟨blk, off + t, none⟩ = some (.int .u32 (G t)) := fun t ht => by
          rw [hw2, hG]; exact cell?_putRow _ _ _ _ d dk (holds_ahead _ _ _ _ _ _ HH.out) hsk t (by omega)
        have hfw : ∀ t, t < d.size → wr.frozen? ⟨blk, off + t, none⟩ = false := fun t ht => by
          rw [hw2, frozen?_putRow]; exact ((holds_ahead _ _ m _ _ _ HH.out) t ht).2
        have HW : Hid (wr = putRow encU (Go.Sort.ahead w m) blk off dk) := hw2
        have HG : Hid (∀ t, G t = dk[t]!) := hG
        have HS : Hid (scanSorted ltInt dk b k = scanSorted ltInt dk b i) := hS
        clear hw2 hG hS
        go_wp2
        by_cases hkb' : k < b
        · go_quiet (first | (go_at_call 150; refine Calls.quiet_of_same (less32 _ _ _)))
          go_wp2
          all_goals first
            | (at_end
               have hl : ltInt (G k) (G (k - 1)) = false := by
                 have h : (!ltInt (G k) (G (k - 1))) = true := by assumption
                 simpa using h
               go_roundw
               case rel => exact ⟨k + 1, m + nq, by go_num, by omega, by omega, by rw [HW.out]; exact putRow_drewN _ _ _ _ _ _ _, by rw [← HS.out, scanSorted_go ltInt dk b k hkb' (by rw [← HG.out, ← HG.out]; exact hl)]⟩
               case measure => simp [intOf]; omega)
            | (have hl : ltInt (G k) (G (k - 1)) = true := by
                 have h : (!ltInt (G k) (G (k - 1))) = false := by assumption
                 simpa using h
               have HK : Hid (scanSorted ltInt dk b i = k) := by
                 show scanSorted ltInt dk b i = k
                 rw [← HS.out, scanSorted_stop ltInt dk b k (Or.inr (by rw [← HG.out, ← HG.out]; exact hl))]
               first
                 | (at_ret
                    have hv : Go.Sort.partialInsertionSort ltInt d a b = (dk, false) := by
                      unfold Go.Sort.partialInsertionSort
                      rw [← HO.out, pi_short ltInt a b s i dk hs (by rw [HK.out]; omega) (by omega)]
                    rw [hv]
                    go_ret
                    exact ⟨rfl, m + nq, by rw [HW.out]; exact putRow_drewN _ _ _ _ _ _ _⟩)
                 | (at_region 11
                    have h50 : ¬ b - a < 50 := by omega
                    go_region
                    have hsw : ((wr.drewN (nq + 1)).setCell ⟨blk, off + k, none⟩ (.int .u32 (G (k - 1)))).setCell ⟨blk, off + (k - 1), none⟩ (.int .u32 (G k)) = putRow encU (Go.Sort.ahead w (m + (nq + 1))) blk off (swp dk k (k - 1)) := by
                      rw [HW.out, HG.out, HG.out]
                      exact swap_worldA _ w m (nq + 1) blk off dk k (k - 1) (by omega) (by omega)
                    have hs1 : (swp dk k (k - 1)).size = d.size := by rw [size_swp]; exact hsk
                    go_wp2
                    all_goals first
                      | (at_loop
                         have hka : k - a ≥ 2 := by omega
                         go_loopw [9] (fun vj wr2 => ∃ (j m2 : Nat) (dj : Array Int), vj = .int .i64 j ∧ j ≤ k - 1 ∧ dj.size = d.size ∧ wr2 = putRow encU (Go.Sort.ahead w m2) blk off dj ∧
                             shiftDown ltInt j dj = shiftDown ltInt (k - 1) (swp dk k (k - 1))) (fun vj _ => (intOf vj).toNat)
                         case atStart => exact ⟨k - 1, _, (swp dk k (k - 1)), by congr 1; omega, Nat.le_refl _, hs1, rfl, rfl⟩
                         case round =>
                           obtain ⟨j, m2, dj, rfl, hjk, hsj, hw2, hDn⟩ := hrel
                           obtain ⟨G, hG⟩ : ∃ G : Nat → Int, ∀ t, G t = dj[t]! := ⟨fun t => dj[t]!, fun _ => rfl⟩
                           have hcw : ∀ t, t < d.size → wr.cell? ⟨blk, off + t, none⟩ = some (.int .u32 (G t)) := fun t ht => by
                             rw [hw2, hG]; exact cell?_putRow _ _ _ _ d dj (holds_ahead _ _ _ _ _ _ HH.out) hsj t (by omega)
                           have hfw : ∀ t, t < d.size → wr.frozen? ⟨blk, off + t, none⟩ = false := fun t ht => by
                             rw [hw2, frozen?_putRow]; exact ((holds_ahead _ _ m2 _ _ _ HH.out) t ht).2
                           have HW : Hid (wr = putRow encU (Go.Sort.ahead w m2) blk off dj) := hw2
                           have HG : Hid (∀ t, G t = dj[t]!) := hG
                           have HDn : Hid (shiftDown ltInt j dj = shiftDown ltInt (k - 1) (swp dk k (k - 1))) := hDn
                           clear hw2 hG hDn hsw
                           go_wp2
                           all_goals first
                             | (at_region 16
                                go_quiet (first | (go_at_call 150; refine Calls.quiet_of_same (less32 _ _ _)))
                                go_wp2
                                all_goals first
                                  | (at_region 17
                                     have hl : ltInt (G j) (G (j - 1)) = true := by
                                       have h : (!ltInt (G j) (G (j - 1))) = false := by assumption
                                       simpa using h
                                     go_region
                                     all_goals go_wp2
                                     go_roundw
                                     case rel =>
                                       refine ⟨j - 1, m2 + (nq + 1), swp dj j (j - 1), by congr 1; omega, by omega, by rw [size_swp]; exact hsj, ?_, ?_⟩
                                       · rw [HW.out, HG.out, HG.out]
                                         exact swap_worldA _ w m2 (nq + 1) blk off dj j (j - 1) (by omega) (by omega)
                                       · rw [← HDn.out, shiftDown_go ltInt j dj (by omega) (by rw [← HG.out, ← HG.out]; exact hl)]
                                     case measure => simp [intOf]; omega)
                                  | (
                                     have hl : ltInt (G j) (G (j - 1)) = false := by
                                       have h : (!ltInt (G j) (G (j - 1))) = true := by assumption
                                       simpa using h
                                     have HD : Hid (fixDown ltInt a k (swp dk k (k - 1)) = dj) := by
                                       show fixDown ltInt a k (swp dk k (k - 1)) = dj
                                       unfold fixDown; rw [if_pos hka, ← HDn.out, shiftDown_stop ltInt j dj (Or.inr (by rw [← HG.out, ← HG.out]; exact hl))]
                                     first
                                       | (at_end
                                          go_roundw
                                          case rel =>
                                            refine ⟨k, s + 1, _, dj, rfl, by go_num, by omega, by omega, by omega, hsj, (by first | rfl | exact HW.out | (rw [HW.out]; exact putRow_drewN _ _ _ _ _ _ _)), ?_⟩
                                            rw [← HO.out, pi_go ltInt a b s i k dk hs HK.out (by omega) (by omega), HD.out, show fixUp ltInt b k dj = dj from by unfold fixUp; rw [if_neg (by omega)]]
                                          case measure => simp [intOf]; omega)
                                       | (at_loop
                                          go_loopw [10] (fun vj wr2 => ∃ (j m3 : Nat) (du : Array Int), vj = .int .i64 j ∧ k + 1 ≤ j ∧ j ≤ b ∧ du.size = d.size ∧ wr2 = putRow encU (Go.Sort.ahead w m3) blk off du ∧
                                              shiftUp ltInt b j du = shiftUp ltInt b (k + 1) dj) (fun vj _ => b - (intOf vj).toNat)
                                          case atStart => exact ⟨k + 1, _, dj, by go_num, Nat.le_refl _, by omega, hsj, (by first | rfl | exact HW.out | (rw [HW.out]; exact putRow_drewN _ _ _ _ _ _ _)), rfl⟩
                                          case round =>
                                            obtain ⟨j, m3, du, rfl, hkj, hjb, hsu, hw3, hU⟩ := hrel
                                            obtain ⟨G, hG⟩ : ∃ G : Nat → Int, ∀ t, G t = du[t]! := ⟨fun t => du[t]!, fun _ => rfl⟩
                                            have hcw : ∀ t, t < d.size → wr.cell? ⟨blk, off + t, none⟩ = some (.int .u32 (G t)) := fun t ht => by
                                              rw [hw3, hG]; exact cell?_putRow _ _ _ _ d du (holds_ahead _ _ _ _ _ _ HH.out) hsu t (by omega)
                                            have hfw : ∀ t, t < d.size → wr.frozen? ⟨blk, off + t, none⟩ = false := fun t ht => by
                                              rw [hw3, frozen?_putRow]; exact ((holds_ahead _ _ m3 _ _ _ HH.out) t ht).2
                                            have HW : Hid (wr = putRow encU (Go.Sort.ahead w m3) blk off du) := hw3
                                            have HG : Hid (∀ t, G t = du[t]!) := hG
                                            have HU : Hid (shiftUp ltInt b j du = shiftUp ltInt b (k + 1) dj) := hU
                                            clear hw3 hG hU
                                            go_wp2
                                            all_goals first
                                              | (at_region 22
                                                 go_quiet (first | (go_at_call 150; refine Calls.quiet_of_same (less32 _ _ _)))
                                                 go_wp2
                                                 all_goals first
                                                   | (at_region 23
                                                      have hl : ltInt (G j) (G (j - 1)) = true := by
                                                        have h : (!ltInt (G j) (G (j - 1))) = false := by assumption
                                                        simpa using h
                                                      go_region
                                                      all_goals go_wp2
                                                      go_roundw
                                                      case rel =>
                                                        refine ⟨j + 1, m3 + (nq + 1), swp du j (j - 1), by go_num, by omega, by omega, by rw [size_swp]; exact hsu, ?_, ?_⟩
                                                        · rw [HW.out, HG.out, HG.out]
                                                          exact swap_worldA _ w m3 (nq + 1) blk off du j (j - 1) (by omega) (by omega)
                                                        · rw [← HU.out, shiftUp_go ltInt b j du (by omega) (by rw [← HG.out, ← HG.out]; exact hl)]
                                                      case measure => simp [intOf]; omega)
                                                   | (at_end
                                                      have hl : ltInt (G j) (G (j - 1)) = false := by
                                                        have h : (!ltInt (G j) (G (j - 1))) = true := by assumption
                                                        simpa using h
                                                      go_roundw
                                                      case rel =>
                                                        refine ⟨k, s + 1, _, du, rfl, by go_num, by omega, by omega, by omega, hsu, (by first | rfl | exact HW.out | (rw [HW.out]; exact putRow_drewN _ _ _ _ _ _ _)), ?_⟩
                                                        rw [← HO.out, pi_go ltInt a b s i k dk hs HK.out (by omega) (by omega), HD.out, show fixUp ltInt b k dj = du from by unfold fixUp; rw [if_pos (by omega), ← HU.out, shiftUp_stop ltInt b j du (Or.inr (by rw [← HG.out, ← HG.out]; exact hl))]]
                                                      case measure => simp [intOf]; omega))
                                              | (at_end
                                                 go_roundw
                                                 case rel =>
                                                   refine ⟨k, s + 1, _, du, rfl, by go_num, by omega, by omega, by omega, hsu, (by first | rfl | exact HW.out | (rw [HW.out]; exact putRow_drewN _ _ _ _ _ _ _)), ?_⟩
                                                   rw [← HO.out, pi_go ltInt a b s i k dk hs HK.out (by omega) (by omega), HD.out, show fixUp ltInt b k dj = du from by unfold fixUp; rw [if_pos (by omega), ← HU.out, shiftUp_stop ltInt b j du (Or.inl (by omega))]]
                                                 case measure => simp [intOf]; omega))))
                             | (
                                have HD : Hid (fixDown ltInt a k (swp dk k (k - 1)) = dj) := by
                                  show fixDown ltInt a k (swp dk k (k - 1)) = dj
                                  unfold fixDown; rw [if_pos hka, ← HDn.out, shiftDown_stop ltInt j dj (Or.inl (by omega))]
                                first
                                  | (at_end
                                     go_roundw
                                     case rel =>
                                       refine ⟨k, s + 1, _, dj, rfl, by go_num, by omega, by omega, by omega, hsj, (by first | rfl | exact HW.out | (rw [HW.out]; exact putRow_drewN _ _ _ _ _ _ _)), ?_⟩
                                       rw [← HO.out, pi_go ltInt a b s i k dk hs HK.out (by omega) (by omega), HD.out, show fixUp ltInt b k dj = dj from by unfold fixUp; rw [if_neg (by omega)]]
                                     case measure => simp [intOf]; omega)
                                  | (at_loop
                                     go_loopw [10] (fun vj wr2 => ∃ (j m3 : Nat) (du : Array Int), vj = .int .i64 j ∧ k + 1 ≤ j ∧ j ≤ b ∧ du.size = d.size ∧ wr2 = putRow encU (Go.Sort.ahead w m3) blk off du ∧
                                         shiftUp ltInt b j du = shiftUp ltInt b (k + 1) dj) (fun vj _ => b - (intOf vj).toNat)
                                     case atStart => exact ⟨k + 1, _, dj, by go_num, Nat.le_refl _, by omega, hsj, (by first | rfl | exact HW.out | (rw [HW.out]; exact putRow_drewN _ _ _ _ _ _ _)), rfl⟩
                                     case round =>
                                       obtain ⟨j, m3, du, rfl, hkj, hjb, hsu, hw3, hU⟩ := hrel
                                       obtain ⟨G, hG⟩ : ∃ G : Nat → Int, ∀ t, G t = du[t]! := ⟨fun t => du[t]!, fun _ => rfl⟩
                                       have hcw : ∀ t, t < d.size → wr.cell? ⟨blk, off + t, none⟩ = some (.int .u32 (G t)) := fun t ht => by
                                         rw [hw3, hG]; exact cell?_putRow _ _ _ _ d du (holds_ahead _ _ _ _ _ _ HH.out) hsu t (by omega)
                                       have hfw : ∀ t, t < d.size → wr.frozen? ⟨blk, off + t, none⟩ = false := fun t ht => by
                                         rw [hw3, frozen?_putRow]; exact ((holds_ahead _ _ m3 _ _ _ HH.out) t ht).2
                                       have HW : Hid (wr = putRow encU (Go.Sort.ahead w m3) blk off du) := hw3
                                       have HG : Hid (∀ t, G t = du[t]!) := hG
                                       have HU : Hid (shiftUp ltInt b j du = shiftUp ltInt b (k + 1) dj) := hU
                                       clear hw3 hG hU
                                       go_wp2
                                       all_goals first
                                         | (at_region 22
                                            go_quiet (first | (go_at_call 150; refine Calls.quiet_of_same (less32 _ _ _)))
                                            go_wp2
                                            all_goals first
                                              | (at_region 23
                                                 have hl : ltInt (G j) (G (j - 1)) = true := by
                                                   have h : (!ltInt (G j) (G (j - 1))) = false := by assumption
                                                   simpa using h
                                                 go_region
                                                 all_goals go_wp2
                                                 go_roundw
                                                 case rel =>
                                                   refine ⟨j + 1, m3 + (nq + 1), swp du j (j - 1), by go_num, by omega, by omega, by rw [size_swp]; exact hsu, ?_, ?_⟩
                                                   · rw [HW.out, HG.out, HG.out]
                                                     exact swap_worldA _ w m3 (nq + 1) blk off du j (j - 1) (by omega) (by omega)
                                                   · rw [← HU.out, shiftUp_go ltInt b j du (by omega) (by rw [← HG.out, ← HG.out]; exact hl)]
                                                 case measure => simp [intOf]; omega)
                                              | (at_end
                                                 have hl : ltInt (G j) (G (j - 1)) = false := by
                                                   have h : (!ltInt (G j) (G (j - 1))) = true := by assumption
                                                   simpa using h
                                                 go_roundw
                                                 case rel =>
                                                   refine ⟨k, s + 1, _, du, rfl, by go_num, by omega, by omega, by omega, hsu, (by first | rfl | exact HW.out | (rw [HW.out]; exact putRow_drewN _ _ _ _ _ _ _)), ?_⟩
                                                   rw [← HO.out, pi_go ltInt a b s i k dk hs HK.out (by omega) (by omega), HD.out, show fixUp ltInt b k dj = du from by unfold fixUp; rw [if_pos (by omega), ← HU.out, shiftUp_stop ltInt b j du (Or.inr (by rw [← HG.out, ← HG.out]; exact hl))]]
                                                 case measure => simp [intOf]; omega))
                                         | (at_end
                                            go_roundw
                                            case rel =>
                                              refine ⟨k, s + 1, _, du, rfl, by go_num, by omega, by omega, by omega, hsu, (by first | rfl | exact HW.out | (rw [HW.out]; exact putRow_drewN _ _ _ _ _ _ _)), ?_⟩
                                              rw [← HO.out, pi_go ltInt a b s i k dk hs HK.out (by omega) (by omega), HD.out, show fixUp ltInt b k dj = du from by unfold fixUp; rw [if_pos (by omega), ← HU.out, shiftUp_stop ltInt b j du (Or.inl (by omega))]]
                                            case measure => simp [intOf]; omega))))
                      | (
                         have HD : Hid (fixDown ltInt a k (swp dk k (k - 1)) = (swp dk k (k - 1))) := by
                           show fixDown ltInt a k (swp dk k (k - 1)) = (swp dk k (k - 1))
                           unfold fixDown; rw [if_neg (by omega)]
                         first
                           | (at_end
                              go_roundw
                              case rel =>
                                refine ⟨k, s + 1, _, (swp dk k (k - 1)), rfl, by go_num, by omega, by omega, by omega, hs1, (by first | rfl | exact HW.out | (rw [HW.out]; exact putRow_drewN _ _ _ _ _ _ _)), ?_⟩
                                rw [← HO.out, pi_go ltInt a b s i k dk hs HK.out (by omega) (by omega), HD.out, show fixUp ltInt b k (swp dk k (k - 1)) = (swp dk k (k - 1)) from by unfold fixUp; rw [if_neg (by omega)]]
                              case measure => simp [intOf]; omega)
                           | (at_loop
                              go_loopw [10] (fun vj wr2 => ∃ (j m3 : Nat) (du : Array Int), vj = .int .i64 j ∧ k + 1 ≤ j ∧ j ≤ b ∧ du.size = d.size ∧ wr2 = putRow encU (Go.Sort.ahead w m3) blk off du ∧
                                  shiftUp ltInt b j du = shiftUp ltInt b (k + 1) (swp dk k (k - 1))) (fun vj _ => b - (intOf vj).toNat)
                              case atStart => exact ⟨k + 1, _, (swp dk k (k - 1)), by go_num, Nat.le_refl _, by omega, hs1, (by first | rfl | exact HW.out | (rw [HW.out]; exact putRow_drewN _ _ _ _ _ _ _)), rfl⟩
                              case round =>
                                obtain ⟨j, m3, du, rfl, hkj, hjb, hsu, hw3, hU⟩ := hrel
                                obtain ⟨G, hG⟩ : ∃ G : Nat → Int, ∀ t, G t = du[t]! := ⟨fun t => du[t]!, fun _ => rfl⟩
                                have hcw : ∀ t, t < d.size → wr.cell? ⟨blk, off + t, none⟩ = some (.int .u32 (G t)) := fun t ht => by
                                  rw [hw3, hG]; exact cell?_putRow _ _ _ _ d du (holds_ahead _ _ _ _ _ _ HH.out) hsu t (by omega)
                                have hfw : ∀ t, t < d.size → wr.frozen? ⟨blk, off + t, none⟩ = false := fun t ht => by
                                  rw [hw3, frozen?_putRow]; exact ((holds_ahead _ _ m3 _ _ _ HH.out) t ht).2
                                have HW : Hid (wr = putRow encU (Go.Sort.ahead w m3) blk off du) := hw3
                                have HG : Hid (∀ t, G t = du[t]!) := hG
                                have HU : Hid (shiftUp ltInt b j du = shiftUp ltInt b (k + 1) (swp dk k (k - 1))) := hU
                                clear hw3 hG hU
                                go_wp2
                                all_goals first
                                  | (at_region 22
                                     go_quiet (first | (go_at_call 150; refine Calls.quiet_of_same (less32 _ _ _)))
                                     go_wp2
                                     all_goals first
                                       | (at_region 23
                                          have hl : ltInt (G j) (G (j - 1)) = true := by
                                            have h : (!ltInt (G j) (G (j - 1))) = false := by assumption
                                            simpa using h
                                          go_region
                                          all_goals go_wp2
                                          go_roundw
                                          case rel =>
                                            refine ⟨j + 1, m3 + (nq + 1), swp du j (j - 1), by go_num, by omega, by omega, by rw [size_swp]; exact hsu, ?_, ?_⟩
                                            · rw [HW.out, HG.out, HG.out]
                                              exact swap_worldA _ w m3 (nq + 1) blk off du j (j - 1) (by omega) (by omega)
                                            · rw [← HU.out, shiftUp_go ltInt b j du (by omega) (by rw [← HG.out, ← HG.out]; exact hl)]
                                          case measure => simp [intOf]; omega)
                                       | (at_end
                                          have hl : ltInt (G j) (G (j - 1)) = false := by
                                            have h : (!ltInt (G j) (G (j - 1))) = true := by assumption
                                            simpa using h
                                          go_roundw
                                          case rel =>
                                            refine ⟨k, s + 1, _, du, rfl, by go_num, by omega, by omega, by omega, hsu, (by first | rfl | exact HW.out | (rw [HW.out]; exact putRow_drewN _ _ _ _ _ _ _)), ?_⟩
                                            rw [← HO.out, pi_go ltInt a b s i k dk hs HK.out (by omega) (by omega), HD.out, show fixUp ltInt b k (swp dk k (k - 1)) = du from by unfold fixUp; rw [if_pos (by omega), ← HU.out, shiftUp_stop ltInt b j du (Or.inr (by rw [← HG.out, ← HG.out]; exact hl))]]
                                          case measure => simp [intOf]; omega))
                                  | (at_end
                                     go_roundw
                                     case rel =>
                                       refine ⟨k, s + 1, _, du, rfl, by go_num, by omega, by omega, by omega, hsu, (by first | rfl | exact HW.out | (rw [HW.out]; exact putRow_drewN _ _ _ _ _ _ _)), ?_⟩
                                       rw [← HO.out, pi_go ltInt a b s i k dk hs HK.out (by omega) (by omega), HD.out, show fixUp ltInt b k (swp dk k (k - 1)) = du from by unfold fixUp; rw [if_pos (by omega), ← HU.out, shiftUp_stop ltInt b j du (Or.inl (by omega))]]
                                     case measure => simp [intOf]; omega)))))
        ·
          go_quiet (first | (go_at_call 150; refine Calls.quiet_of_same (less32 _ _ _)))
          go_wp2
          obtain rfl : k = b := by omega
          have hv : Go.Sort.partialInsertionSort ltInt d a k = (dk, true) := by
            unfold Go.Sort.partialInsertionSort
            rw [← HO.out, pi_true ltInt a k s i dk hs (by rw [← HS.out, scanSorted_stop ltInt dk k k (Or.inl (by omega))])]
          rw [hv]
          go_ret
          exact ⟨rfl, m + nq, by rw [HW.out]; exact putRow_drewN _ _ _ _ _ _ _⟩
    ·
      obtain rfl : s = 5 := by omega
      have hv : Go.Sort.partialInsertionSort ltInt d a b = (dk, false) := by
        unfold Go.Sort.partialInsertionSort
        rw [← HO.out, pi_end]
      rw [hv]
      go_ret
      exact ⟨rfl, n, rfl⟩
end Go.Proofs.YtpjoefekhgmlhaaGreat.So

namespace Go.Proofs.YtpjoefekhgmlhaaGreat.So
open Go.RowKit Go.Sort Go.Proofs
set_option maxHeartbeats 6400000 in
set_option maxRecDepth 100000 in
theorem partitionEqual_u (blk off cap a b pivot : Nat) (d : Array Int) (w : World) (hH : Holds encU w blk off d) (hap : a ≤ pivot) (hpb : pivot < b) (hb : b ≤ d.size) (hsz : d.size < 4611686018427387904) :
    Calls Tryz.prog 151 #[.slice (some ⟨blk, off, none⟩) d.size cap, .int .i64 a, .int .i64 b, .int .i64 pivot] w fun e w' =>
      e = .returned (.int .i64 (Go.Sort.partitionEqual Go.Sort.ltInt d a b pivot).1) ∧ ∃ n, w' = (putRow encU w blk off (Go.Sort.partitionEqual Go.Sort.ltInt d a b pivot).2).drewN n := by
  have hla : a < d.size := by omega
  have hlp : pivot < d.size := by omega
  obtain ⟨G, hG⟩ : ∃ G : Nat → Int, ∀ j, G j = d[j]! := ⟨fun j => d[j]!, fun _ => rfl⟩
  have ca : w.cell? ⟨blk, off + a, none⟩ = some (.int .u32 (G a)) := by rw [hG]; exact (hH a hla).1
  have fa := (hH a hla).2
  have cp : w.cell? ⟨blk, off + pivot, none⟩ = some (.int .u32 (G pivot)) := by rw [hG]; exact (hH pivot hlp).1
  have fp := (hH pivot hlp).2
  obtain ⟨v', hy'⟩ := cell?_setCell_some (w := w) (p := ⟨blk, off + a, none⟩) (x := .int .u32 (G pivot)) (q := ⟨blk, off + pivot, none⟩) cp
  have AG : Hid (∀ j, G j = d[j]!) := hG
  have AH : Hid (Holds encU w blk off d) := hH
  clear hG hH
  go_enter Tryz.func151, Tryz.ntmps151
  go_wp2
  go_region
  go_wp2
  go_loopw [9, 10] (fun vi vj wr => ∃ (i j n : Nat) (dk : Array Int), vi = .int .i64 i ∧ vj = .int .i64 j ∧ a < i ∧ i ≤ j + 1 ∧ j < b ∧ dk.size = d.size ∧ wr = (putRow encU w blk off dk).drewN n ∧
      Go.Sort.partEqLoop Go.Sort.ltInt a i j dk = Go.Sort.partEqLoop Go.Sort.ltInt a (a + 1) (b - 1) (Go.Sort.swp d a pivot))
    (fun vi vj _ => (intOf vj).toNat + 1 - (intOf vi).toNat)
  case atStart =>
    refine ⟨a + 1, b - 1, 1, Go.Sort.swp d a pivot, by go_num, by go_num, by omega, by omega, by omega, size_swp _ _ _, ?_, rfl⟩
    have e := swap_worldC encU w blk off d 0 a pivot hla hlp
    rw [putRow_self _ w blk off d AH.out] at e
    rw [AG.out a, AG.out pivot]
    exact e
  case round =>
    obtain ⟨i, j, n, dk, rfl, rfl, hai, hij, hjb, hs, hw, heq⟩ := hrel
    clear ca fa cp fp hy' v' AG
    rename World => W1
    have hHk : Holds encU W1 blk off dk := by
      rw [hw]
      exact holds_putRow encU w blk off d dk AH.out hs
    obtain ⟨Gk, hG⟩ : ∃ Gk : Nat → Int, ∀ t, Gk t = dk[t]! := ⟨fun t => dk[t]!, fun _ => rfl⟩
    have hc : ∀ t, t < d.size → W1.cell? ⟨blk, off + t, none⟩ = some (.int .u32 (Gk t)) := fun t ht => by rw [hG]; exact (hHk t (by omega)).1
    have hf : ∀ t, t < d.size → W1.frozen? ⟨blk, off + t, none⟩ = false := fun t ht => (hHk t (by omega)).2
    have AG : Hid (∀ t, Gk t = dk[t]!) := hG
    have AW : Hid (W1 = (putRow encU w blk off dk).drewN n) := hw
    have AE : Hid (Go.Sort.partEqLoop Go.Sort.ltInt a i j dk = Go.Sort.partEqLoop Go.Sort.ltInt a (a + 1) (b - 1) (Go.Sort.swp d a pivot)) := heq
    clear hG hw heq hHk
    go_wp2
    go_loopw [9] (fun vi w1 => ∃ (i' n1 : Nat), vi = .int .i64 i' ∧ i ≤ i' ∧ i' ≤ j + 1 ∧ w1 = W1.drewN n1 ∧
        Hid (Go.Sort.scanUp (fun x => !Go.Sort.ltInt dk[a]! x) dk j i' = Go.Sort.scanUp (fun x => !Go.Sort.ltInt dk[a]! x) dk j i))
      (fun vi _ => j + 1 - (intOf vi).toNat)
    case atStart => exact ⟨i, 0, rfl, Nat.le_refl _, hij, rfl, rfl⟩
    case round =>
      obtain ⟨i', n1, rfl, hii, hij', hw1, hsc⟩ := hrel
      have hcw : ∀ t, t < d.size → wr.cell? ⟨blk, off + t, none⟩ = some (.int .u32 (Gk t)) := fun t ht => by rw [hw1]; exact hc t ht
      have HW1 : Hid (wr = W1.drewN n1) := hw1
      clear hw1
      by_cases hle : i' ≤ j
      · go_wp2_with fail
        go_big_quiet (first | (go_at_call 150; refine Calls.quiet_of_same (less32 _ _ _)))
        go_wp2
        ·
          have ht : (!Go.Sort.ltInt (Gk a) (Gk i')) = true := by assumption
          go_roundw
          case rel => exact ⟨i' + 1, n1 + nq, by go_num, by omega, by omega, by rw [HW1.out, World.drewN_drewN], (scanUp_go (fun x => !Go.Sort.ltInt dk[a]! x) dk j i' hle (by rw [← AG.out a, ← AG.out i']; exact ht)).symm.trans hsc.out⟩
          case measure => simp [intOf]; omega
        ·
          have ht : (!Go.Sort.ltInt (Gk a) (Gk i')) = false := by assumption
          have hi2 : Hid (i' = Go.Sort.scanUp (fun x => !Go.Sort.ltInt dk[a]! x) dk j i) := (scanUp_end (fun x => !Go.Sort.ltInt dk[a]! x) dk j i' (Or.inr (by rw [← AG.out a, ← AG.out i']; exact ht))).symm.trans hsc.out
          clear ht
          have hw2 : wr.drewN nq = W1.drewN (n1 + nq) := by rw [HW1.out, World.drewN_drewN]
          clear hcw HW1 hsc
          go_loopw [10] (fun vj w2 => ∃ (j' n2 : Nat), vj = .int .i64 j' ∧ j' ≤ j ∧ i' ≤ j' + 1 ∧ w2 = W1.drewN n2 ∧
              Hid (Go.Sort.scanDown (fun x => Go.Sort.ltInt dk[a]! x) dk i' j' = Go.Sort.scanDown (fun x => Go.Sort.ltInt dk[a]! x) dk i' j))
            (fun vj _ => (intOf vj).toNat)
          case atStart => exact ⟨j, n1 + nq, rfl, Nat.le_refl _, hij', hw2, rfl⟩
          case round =>
            clear hw2
            obtain ⟨j', n2, rfl, hjj, hij2, hw2, hsd⟩ := hrel
            have hcw : ∀ t, t < d.size → wr.cell? ⟨blk, off + t, none⟩ = some (.int .u32 (Gk t)) := fun t ht => by rw [hw2]; exact hc t ht
            have HW2 : Hid (wr = W1.drewN n2) := hw2
            clear hw2
            by_cases hle2 : i' ≤ j'
            · go_wp2_with fail
              go_big_quiet (first | (go_at_call 150; refine Calls.quiet_of_same (less32 _ _ _)))
              go_wp2
              ·
                have ht : Go.Sort.ltInt (Gk a) (Gk j') = true := by assumption
                go_roundw
                case rel => exact ⟨j' - 1, n2 + nq, by go_num, by omega, by omega, by rw [HW2.out, World.drewN_drewN], (scanDown_go (fun x => Go.Sort.ltInt dk[a]! x) dk i' j' hle2 (by omega) (by rw [← AG.out a, ← AG.out j']; exact ht)).symm.trans hsd.out⟩
                case measure => simp [intOf]; omega
              ·
                have ht : Go.Sort.ltInt (Gk a) (Gk j') = false := by assumption
                have hj2 : Hid (j' = Go.Sort.scanDown (fun x => Go.Sort.ltInt dk[a]! x) dk i' j) := (scanDown_end (fun x => Go.Sort.ltInt dk[a]! x) dk i' j' (Or.inr (by rw [← AG.out a, ← AG.out j']; exact ht))).symm.trans hsd.out
                clear hcw hsd ht
                have hw3 : wr.drewN nq = W1.drewN (n2 + nq) := by rw [HW2.out, World.drewN_drewN]
                generalize wr.drewN nq = W3 at hw3 ⊢
                have hc3 : ∀ t, t < d.size → W3.cell? ⟨blk, off + t, none⟩ = some (.int .u32 (Gk t)) := fun t ht => by rw [hw3]; exact hc t ht
                have hf3 : ∀ t, t < d.size → W3.frozen? ⟨blk, off + t, none⟩ = false := fun t ht => by rw [hw3]; exact hf t ht
                have HW3 : Hid (W3 = W1.drewN (n2 + nq)) := hw3
                clear hw3
                obtain ⟨v3, hy3⟩ := cell?_setCell_some (w := W3) (p := ⟨blk, off + i', none⟩) (x := .int .u32 (Gk j')) (q := ⟨blk, off + j', none⟩) (hc3 j' (by omega))
                have hlt3 := scans_lt Go.Sort.ltInt a i j dk (by omega) hi2.out hj2.out hle2
                go_wp2
                go_region
                all_goals go_wp2
                all_goals go_roundw
                case rel =>
                  refine ⟨i' + 1, j' - 1, n + (n2 + nq) + 1, Go.Sort.swp dk i' j', by go_num, by go_num, by omega, by omega, by omega, by rw [size_swp]; exact hs, ?_, ?_⟩
                  · rw [HW3.out, AW.out, World.drewN_drewN, AG.out i', AG.out j']
                    exact swap_worldC encU w blk off dk _ i' j' (by omega) (by omega)
                  · rw [← AE.out]; exact (partEq_go Go.Sort.ltInt a i j dk hi2.out hj2.out (by omega)).symm
                case measure => simp [intOf]; omega
            · go_wp2_with fail
              go_big_quiet (first | (go_at_call 150; refine Calls.quiet_of_same (less32 _ _ _)))
              have hj2 : Hid (j' = Go.Sort.scanDown (fun x => Go.Sort.ltInt dk[a]! x) dk i' j) := (scanDown_end (fun x => Go.Sort.ltInt dk[a]! x) dk i' j' (Or.inl hle2)).symm.trans hsd.out
              clear hcw hsd
              have hw3 : wr.drewN nq = W1.drewN (n2 + nq) := by rw [HW2.out, World.drewN_drewN]
              generalize wr.drewN nq = W3 at hw3 ⊢
              have hc3 : ∀ t, t < d.size → W3.cell? ⟨blk, off + t, none⟩ = some (.int .u32 (Gk t)) := fun t ht => by rw [hw3]; exact hc t ht
              have hf3 : ∀ t, t < d.size → W3.frozen? ⟨blk, off + t, none⟩ = false := fun t ht => by rw [hw3]; exact hf t ht
              have HW3 : Hid (W3 = W1.drewN (n2 + nq)) := hw3
              clear hw3
              go_wp2
              go_ret
              have e := partEq_break Go.Sort.ltInt a i j dk hi2.out hj2.out (by omega)
              refine ⟨?_, n + (n2 + nq), ?_⟩
              · unfold Go.Sort.partitionEqual; rw [← AE.out, e]; rfl
              · unfold Go.Sort.partitionEqual; rw [← AE.out, e, HW3.out, AW.out, World.drewN_drewN]
      · go_wp2_with fail
        go_big_quiet (first | (go_at_call 150; refine Calls.quiet_of_same (less32 _ _ _)))
        go_wp2
        have hi2 : Hid (i' = Go.Sort.scanUp (fun x => !Go.Sort.ltInt dk[a]! x) dk j i) := (scanUp_end (fun x => !Go.Sort.ltInt dk[a]! x) dk j i' (Or.inl hle)).symm.trans hsc.out
        have hw2 : wr.drewN nq = W1.drewN (n1 + nq) := by rw [HW1.out, World.drewN_drewN]
        clear hcw HW1 hsc
        go_loopw [10] (fun vj w2 => ∃ (j' n2 : Nat), vj = .int .i64 j' ∧ j' ≤ j ∧ i' ≤ j' + 1 ∧ w2 = W1.drewN n2 ∧
            Hid (Go.Sort.scanDown (fun x => Go.Sort.ltInt dk[a]! x) dk i' j' = Go.Sort.scanDown (fun x => Go.Sort.ltInt dk[a]! x) dk i' j))
          (fun vj _ => (intOf vj).toNat)
        case atStart => exact ⟨j, n1 + nq, rfl, Nat.le_refl _, hij', hw2, rfl⟩
        case round =>
          clear hw2
          obtain ⟨j', n2, rfl, hjj, hij2, hw2, hsd⟩ := hrel
          have hcw : ∀ t, t < d.size → wr.cell? ⟨blk, off + t, none⟩ = some (.int .u32 (Gk t)) := fun t ht => by rw [hw2]; exact hc t ht
          have HW2 : Hid (wr = W1.drewN n2) := hw2
          clear hw2
          by_cases hle2 : i' ≤ j'
          · exfalso; omega
          · go_wp2_with fail
            go_big_quiet (first | (go_at_call 150; refine Calls.quiet_of_same (less32 _ _ _)))
            have hj2 : Hid (j' = Go.Sort.scanDown (fun x => Go.Sort.ltInt dk[a]! x) dk i' j) := (scanDown_end (fun x => Go.Sort.ltInt dk[a]! x) dk i' j' (Or.inl hle2)).symm.trans hsd.out
            clear hcw hsd
            have hw3 : wr.drewN nq = W1.drewN (n2 + nq) := by rw [HW2.out, World.drewN_drewN]
            generalize wr.drewN nq = W3 at hw3 ⊢
            have hc3 : ∀ t, t < d.size → W3.cell? ⟨blk, off + t, none⟩ = some (.int .u32 (Gk t)) := fun t ht => by rw [hw3]; exact hc t ht
            have hf3 : ∀ t, t < d.size → W3.frozen? ⟨blk, off + t, none⟩ = false := fun t ht => by rw [hw3]; exact hf t ht
            have HW3 : Hid (W3 = W1.drewN (n2 + nq)) := hw3
            clear hw3
            go_wp2
            go_ret
            have e := partEq_break Go.Sort.ltInt a i j dk hi2.out hj2.out (by omega)
            refine ⟨?_, n + (n2 + nq), ?_⟩
            · unfold Go.Sort.partitionEqual; rw [← AE.out, e]; rfl
            · unfold Go.Sort.partitionEqual; rw [← AE.out, e, HW3.out, AW.out, World.drewN_drewN]
theorem partitionEqualOrdered_u (blk off cap a b pivot : Nat) (d : Array Int) (w : World) (hH : Holds encU w blk off d) (hap : a ≤ pivot) (hpb : pivot < b) (hb : b ≤ d.size) (hsz : d.size < 4611686018427387904) :
    Calls Tryz.prog 151 #[.slice (some ⟨blk, off, none⟩) d.size cap, .int .i64 a, .int .i64 b, .int .i64 pivot] w fun e w' =>
      e = .returned (.int .i64 (Go.Sort.partitionEqual Go.Sort.ltInt d a b pivot).1) ∧ ∃ n, w' = putRow encU (Go.Sort.ahead w n) blk off (Go.Sort.partitionEqual Go.Sort.ltInt d a b pivot).2 :=
  (partitionEqual_u blk off cap a b pivot d w hH hap hpb hb hsz).mono fun _ _ ⟨he, n, hw⟩ => ⟨he, n, hw⟩
end Go.Proofs.YtpjoefekhgmlhaaGreat.So
