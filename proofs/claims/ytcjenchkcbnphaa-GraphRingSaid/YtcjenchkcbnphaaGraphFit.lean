/- CONTRACT: any numbers made a vector (theseusref13.Fit). Condition: the slice reads as a row of numbers. -/
import Derived.Test.YtcjenchkcbnphaaGraphWRow
namespace Go.Proofs.Ytcjenchkcbnphaa.Gr
open Go.RowKit Mem

def fitAt (n : Nat) (x : Int) : Int := (x.tmod ((n : Int) + 1) + n + 1).tmod ((n : Int) + 1) - 1
def fitN (l : List Int) : Nat := min l.length 12
def fitV (l : List Int) : List Int := (l.take 12).map (fitAt (fitN l))
theorem fit_len (l : List Int) : (fitV l).length = fitN l := by simp [fitV, fitN]; omega
theorem fit_le (l : List Int) : (fitV l).length ≤ 12 := by rw [fit_len]; unfold fitN; omega
theorem fit_bound (n : Nat) (x : Int) : -1 ≤ fitAt n x ∧ fitAt n x < n := by
  unfold fitAt
  have h1 := Int.tmod_lt_of_pos x (show 0 < (n : Int) + 1 by omega)
  have h2 := Int.lt_tmod_of_pos x (show 0 < (n : Int) + 1 by omega)
  have h3 := Int.tmod_lt_of_pos (x.tmod ((n : Int) + 1) + n + 1) (show 0 < (n : Int) + 1 by omega)
  have h4 := Int.tmod_nonneg ((n : Int) + 1) (show 0 ≤ x.tmod ((n : Int) + 1) + n + 1 by omega)
  omega
theorem fit_good (l : List Int) : goodB (fitV l) = true := by
  rw [good_iff]
  intro x hx
  rw [fit_len]
  unfold fitV at hx
  obtain ⟨y, _, rfl⟩ := List.mem_map.1 hx
  exact fit_bound _ _
theorem fit_errno (l : List Int) : errno (fitV l) = 0 := errno_good (by have := fit_le l; omega) (fit_good l)
def fitTo (l : List Int) (k : Nat) : List Int := (l.take k).map (fitAt (fitN l))
theorem fitTo_next {l : List Int} {k : Nat} (h : k < l.length) : fitTo l (k + 1) = fitTo l k ++ [fitAt (fitN l) l[k]] := by
  unfold fitTo; rw [List.take_succ_eq_append_getElem h, List.map_append]; rfl
theorem fitTo_len {l : List Int} {k : Nat} (h : k ≤ l.length) : (fitTo l k).length = k := by simp [fitTo]; omega
theorem fitTo_end (l : List Int) : fitTo l (fitN l) = fitV l := by
  unfold fitTo fitV fitN
  by_cases h : l.length ≤ 12
  · rw [List.take_of_length_le (by omega), List.take_of_length_le h]
  · rw [show min l.length 12 = 12 by omega]

theorem own_empty (w : World) : (w.alloc (.cells #[] 3)).ownsRow w.heap.size 3 1 (.slice (some ⟨w.heap.size, 0, none⟩) 0 0) 0 [] :=
  ⟨rfl, .inr ⟨w.heap.size, 0, #[], rfl, Nat.le_refl _, heap_alloc_new w _, Nat.le_refl _, by simp [maxLen], rfl, rfl⟩⟩
def FitPost (v : List Int) (w : World) (e : Ending) (w' : World) : Prop := ∃ S m, e = .returned (.slice S v.length m) ∧ Mine w' w.heap.size S v ∧ Below w.heap.size w w'
set_option maxHeartbeats 1000000 in
theorem fit_any (A : Option Addr) (c : Nat) (l : List Int) (w : World) (hA : Lies w A (ints l)) (hl : l.length ≤ 9223372036854775807) (hx : ∀ x ∈ l, -9223372036854775808 ≤ x ∧ x ≤ 9223372036854775807) :
    Calls Try.prog 19 #[.slice A l.length c] w (FitPost (fitV l) w) := by
  obtain ⟨i0, hi, hz0, hz1, hz2⟩ := info_parts int_info
  obtain ⟨n, hn⟩ : ∃ n, n = fitN l := ⟨_, rfl⟩
  have hn1 : n ≤ 12 ∧ n ≤ l.length ∧ n = min l.length 12 := by rw [hn]; unfold fitN; omega
  obtain ⟨hn12, hnl, hnm⟩ := hn1
  have HN := Lib.hid hn
  have HX := Lib.hid hx
  have hmin : (if (12 : Int) < (l.length : Int) then 12 else (l.length : Int)) = (n : Int) := by split <;> omega
  have HNM := Lib.hid hnm
  clear hn hx hnm
  go_enter Try.func19, Try.ntmps19
  go_wp2_with fail
  clear hmin
  have hb0 : Below w.heap.size w (w.alloc (.cells #[] 3)) := (Below.refl _ w).alloc (Nat.le_refl _) _
  go_loopw [3, 5] (fun s i wr => ∃ k : Nat, k ≤ n ∧ i = .int .i64 k ∧ wr.ownsRow w.heap.size 3 1 s k (ints (fitTo l k)) ∧ Below w.heap.size w wr) (fun _ i _ => n - (intOf i).toNat)
  case atStart => exact ⟨0, by omega, rfl, own_empty w, hb0⟩
  case round =>
    obtain ⟨k, hk, rfl, hown, hbr⟩ := hrel
    obtain ⟨A5, m5, rfl, hm1, hm2⟩ := own_form hown
    by_cases hlt : k < n
    · have hkl : k < l.length := by omega
      obtain ⟨b, off, rfl, hb, hcell0⟩ := hA.at_map hkl
      have hcell := (hbr.cell (p := ⟨b, off + k, none⟩) hb).trans hcell0
      have hs := fitTo_next hkl
      rw [← HN.out] at hs
      obtain ⟨x, hx⟩ : ∃ x, x = l[k] := ⟨_, rfl⟩
      have hxb := HX.out l[k] (List.getElem_mem hkl)
      rw [← hx] at hcell hs hxb
      obtain ⟨hx1, hx2⟩ := hxb
      obtain ⟨y, hy⟩ : ∃ y, x.tmod ((n : Int) + 1) = y := ⟨_, rfl⟩
      have hy1 := Int.tmod_lt_of_pos x (show 0 < (n : Int) + 1 by omega)
      have hy2 := Int.lt_tmod_of_pos x (show 0 < (n : Int) + 1 by omega)
      rw [hy] at hy1 hy2
      have hz3 := Int.tmod_lt_of_pos (y + n + 1) (show 0 < (n : Int) + 1 by omega)
      have hz4 := Int.tmod_nonneg ((n : Int) + 1) (show 0 ≤ y + n + 1 by omega)
      obtain ⟨z, hzz⟩ : ∃ z, (y + (n : Int) + 1).tmod ((n : Int) + 1) = z := ⟨_, rfl⟩
      rw [hzz] at hz3 hz4
      have hfa : fitAt n x = z - 1 := by unfold fitAt; rw [hy, hzz]
      rw [hfa] at hs
      have HS := Lib.hid hs
      have hown1 := hown.alloc (.cells #[.int .i64 (z - 1)] 3)
      have hlie := Lies.new wr #[.int .i64 (z - 1)] 3
      have hsz := hbr.size
      clear hs hx hcell0 hfa hb0
      go_wp2_with (at_builtin; refine wpList_append_lies _ rfl (.tmp 15) (.tmp 30) _ rfl w.heap.size 3 i0 _ 1 8 Try.underlying22 hi hz0 hz1 hz2 rfl (by omega) (.slice A5 k m5) k _ rfl hown1 (some ⟨wr.heap.size, 0, none⟩) 1 1 [.int .i64 (z - 1)] rfl rfl hlie (by intro u hu; simp at hu; subst hu; rfl) (by simp only [maxLen]; omega) (by omega) (by simp; omega) ?_; intro v2 w2 hown2 hg2 hat2)
      have hrow : ∀ g, (Value.slice A5 k m5).ownBlock = some g → w.heap.size ≤ g := fun g h => (hown.lt g h).1
      have hb2 : Below w.heap.size w w2 := (hbr.alloc hsz _).grown hg2 (by simp; omega) hrow
      go_roundw
      case rel => exact ⟨k + 1, by omega, by go_num, by rw [HS.out, ints, List.map_append]; exact hown2, hb2⟩
      case measure => simp [intOf]; omega
    · have ek : k = n := by omega
      go_wp2_with fail
      go_ret
      subst ek
      have hfl := fit_len l
      rw [← HN.out] at hfl
      have hend := fitTo_end l
      rw [← HN.out] at hend
      rw [hend] at hown
      exact ⟨A5, m5, by rw [hfl]; rfl, .of_own hown, hbr⟩
end Go.Proofs.Ytcjenchkcbnphaa.Gr
