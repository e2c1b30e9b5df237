/- CONTRACTS: atoms.key, atoms.kind, cuts.Ends, Atoms.Ends, analyze.ends. Conditions: vectors of 1 to 256 nodes. -/
import Derived.Test.YtpjoefekhgmlhaaGreatMa27
import Derived.Laws.IdiomStrings
namespace Go.Proofs.YtpjoefekhgmlhaaGreat.Tp
open Go.RowKit Mem

/-- A vector as a text: two bytes of each number. -/
def key2 (x : Int) : List Nat := [(x + 1).toNat / 256, (x + 1).toNat % 256]
def keyL (v : List Int) : List Nat := v.flatMap key2
def keyS (v : List Int) : ByteArray := ⟨((keyL v).map UInt8.ofNat).toArray⟩
theorem keyL_len (v : List Int) : (keyL v).length = 2 * v.length := by
  induction v with
  | nil => rfl
  | cons x v ih => rw [keyL, List.flatMap_cons, List.length_append, show (v.flatMap key2) = keyL v from rfl, ih, List.length_cons]; simp [key2]; omega
theorem keyL_next {v : List Int} {k : Nat} (h : k < v.length) : keyL (v.take (k + 1)) = keyL (v.take k) ++ key2 v[k] := by
  unfold keyL; rw [List.take_succ_eq_append_getElem h, List.flatMap_append]; simp
theorem keyL_lt {v : List Int} (hv : ∀ x ∈ v, -1 ≤ x ∧ x < 256) : ∀ b ∈ keyL v, b < 256 := by
  intro b hb
  unfold keyL at hb
  obtain ⟨x, hx, hb⟩ := List.mem_flatMap.1 hb
  have := hv x hx
  simp [key2] at hb
  omega
theorem keyL_inj : ∀ {v u : List Int}, (∀ x ∈ v, -1 ≤ x ∧ x < 256) → (∀ x ∈ u, -1 ≤ x ∧ x < 256) → keyL v = keyL u → v = u
  | [], [], _, _, _ => rfl
  | [], x :: u, _, _, h => by simp [keyL, key2] at h
  | x :: v, [], _, _, h => by simp [keyL, key2] at h
  | x :: v, y :: u, hv, hu, h => by
    have h1 := hv x (by simp)
    have h2 := hu y (by simp)
    simp only [keyL, List.flatMap_cons, key2, List.cons_append, List.nil_append, List.cons.injEq] at h
    obtain ⟨h3, h4, h5⟩ := h
    have hxy : x = y := by omega
    rw [hxy, keyL_inj (v := v) (u := u) (fun z hz => hv z (by simp [hz])) (fun z hz => hu z (by simp [hz])) h5]
theorem keyS_inj {v u : List Int} (hv : ∀ x ∈ v, -1 ≤ x ∧ x < 256) (hu : ∀ x ∈ u, -1 ≤ x ∧ x < 256) (h : keyS v = keyS u) : v = u := by
  refine keyL_inj hv hu ?_
  have h1 : (keyL v).map UInt8.ofNat = (keyL u).map UInt8.ofNat := by
    have := congrArg (fun s : ByteArray => s.data.toList) h
    simpa [keyS] using this
  have back : ∀ l : List Nat, (∀ b ∈ l, b < 256) → (l.map UInt8.ofNat).map UInt8.toNat = l := fun l hl => by
    rw [List.map_map]
    conv => rhs; rw [← List.map_id l]
    refine List.map_congr_left fun b hb => ?_
    have := hl b hb
    simp
    omega
  rw [← back _ (keyL_lt hv), ← back _ (keyL_lt hu), h1]
theorem bytes_back (l : List Nat) (h : ∀ b ∈ l, b < 256) : bytes l = (l.map UInt8.ofNat).map fun b : UInt8 => Value.int .u8 (b.toNat : Int) := by
  rw [List.map_map]
  refine List.map_congr_left fun b hb => ?_
  have := h b hb
  show Value.int .u8 (b : Int) = .int .u8 ((UInt8.ofNat b).toNat : Int)
  rw [UInt8.toNat_ofNat', Nat.mod_eq_of_lt this]
set_option maxRecDepth 100000 in
set_option maxHeartbeats 2000000 in
theorem key_any (A : Option Addr) (c : Nat) (v : List Int) (w : World) (hA : Lies w A (Gr.ints v)) (hv : ∀ x ∈ v, -1 ≤ x ∧ x < 256) (hl : v.length ≤ 256) (h0 : 0 < v.length) :
    Calls Tryz.prog 48 #[.slice A v.length c] w fun e w' => e = .returned (.string (keyS v)) ∧ Below w.heap.size w w' := by
  have hmk := run_make_room (P := Tryz.prog) 45 5 (.int .u8 0) 1 Tryz.underlying45 byte_info rfl .i64 .i64 (2 * v.length) (by omega) (by omega)
  have hmown := World.ownsRow_made w (madeCells #[.int .u8 0] (2 * v.length)) (2 * v.length) (e := 5) (size := 1) (base := w.heap.size) (Nat.le_refl w.heap.size) (by simp only [maxLen]; omega) (by simp [madeCells])
  obtain ⟨mk, hmkd⟩ : ∃ mk, mk = Obj.cells (madeCells #[.int .u8 0] (2 * v.length)) 5 := ⟨_, rfl⟩
  rw [← hmkd] at hmk hmown
  rw [show ((2 * v.length : Nat) : Int) = 2 * (v.length : Int) by omega] at hmk
  have hb1 : Below w.heap.size w (w.alloc mk) := (Below.refl _ _).alloc (Nat.le_refl _) _
  have HOWN := Lib.hid hmown
  have HB1 := Lib.hid hb1
  have HA := Lib.hid hA
  have HV := Lib.hid hv
  clear hmkd hmown hb1 hA hv
  go_enter Tryz.func48, Tryz.ntmps48
  go_wp2_with fail
  clear hmk
  go_loopw [3, 12] (fun s i wr => ∃ (k : Nat) (S : Option Addr) (cp : Nat), k ≤ v.length ∧ i = .int .i64 k ∧ s = .slice S (2 * k) cp ∧ wr.ownsRow w.heap.size 5 1 (.slice S (2 * k) cp) (2 * k) (bytes (keyL (v.take k))) ∧ Hid (Below w.heap.size w wr)) (fun _ i _ => v.length - (intOf i).toNat)
  case atStart => exact ⟨0, _, _, by omega, rfl, rfl, HOWN.out, HB1⟩
  case round =>
    clear HOWN HB1
    obtain ⟨k, S, cp, hk, rfl, rfl, hown, HB⟩ := hrel
    by_cases hlt : k < v.length
    · obtain ⟨b, off, hAe, hbb, hc0⟩ := Lies.at_map HA.out hlt
      have hk0 := (HB.out.cell (p := ⟨b, off + k, none⟩) hbb).trans hc0
      have hx := HV.out _ (List.getElem_mem hlt)
      have hnx := keyL_next hlt
      obtain ⟨x, hxe⟩ : ∃ x, x = v[k] := ⟨_, rfl⟩
      rw [← hxe] at hk0 hx hnx
      obtain ⟨y, hy⟩ : ∃ y : Nat, x = (y : Int) - 1 ∧ y ≤ 256 := ⟨(x + 1).toNat, by omega, by omega⟩
      obtain ⟨rfl, hy2⟩ := hy
      have hk2 : key2 ((y : Int) - 1) = [y / 256, y % 256] := by unfold key2; rw [show ((y : Int) - 1 + 1).toNat = y by omega]
      rw [hk2] at hnx
      have HNX := Lib.hid hnx
      clear hc0 hx hnx hxe hk2
      subst hAe
      have he2 : bytes [y / 256, y % 256] = [.int .u8 ((y : Int) / 256), .int .u8 ((y : Int) % 256)] := by simp [bytes]
      have hal : Below wr.heap.size wr (wr.alloc (.cells #[.int .u8 ((y : Int) / 256), .int .u8 ((y : Int) % 256)] 5)) := (Below.refl _ _).alloc (Nat.le_refl _) _
      have hown1 := own_below hown hal
      have hb1 := HB.out.trans (hal.mono HB.out.size)
      have hone := Lies.new wr #[.int .u8 ((y : Int) / 256), .int .u8 ((y : Int) % 256)] 5
      have hkt : keyL (v.take (k + 1)) = keyL (v.take k) ++ [y / 256, y % 256] := HNX.out
      have HKT := Lib.hid hkt
      have HE2 := Lib.hid he2
      have HBW := Lib.hid hb1
      have HONE := Lib.hid hone
      clear he2 hal hb1 hone hkt HNX hown
      go_wp2_with (at_builtin; refine wpList_app rfl (.tmp 16) (.tmp 24) _ rfl Tryz.underlying45 byte_info rfl (by omega) (by omega) w _ HBW.out _ _ _ _ rfl hown1 _ 2 2 _ rfl rfl HONE.out (by intro u hu; simp at hu; rcases hu with rfl | rfl <;> rfl) (by omega) ?_; intro S3 c3 w3 hown3 hc3 hc3' hb3 hg3)
      refine ⟨⟨k + 1, S3, c3, by omega, by go_num, rfl, ?_, Lib.hid hb3⟩, by simp [intOf]; omega⟩
      rw [HKT.out, bytes_app, HE2.out]
      exact hown3
    · obtain rfl : k = v.length := by omega
      rw [List.take_of_length_le (Nat.le_refl _)] at hown
      have hL := Lies.of_own hown
      obtain ⟨b, off, rfl, hbb, hcc⟩ := hL (by rw [bytes_len, keyL_len]; omega)
      have hlt := keyL_lt HV.out
      have hcv := run_convert_bytes_back (P := Tryz.prog) wr 45 9 5 ⟨b, off, none⟩ cp ((keyL v).map UInt8.ofNat) Tryz.underlying45 Tryz.underlying5 Tryz.underlying9 (fun j hj => by
        rw [add_plain]
        refine hcc j _ ?_
        rw [bytes_back _ hlt, List.getElem?_map, List.getElem?_eq_getElem hj]; rfl)
      rw [show ((keyL v).map UInt8.ofNat).length = 2 * v.length by rw [List.length_map, keyL_len]] at hcv
      have hks : (.string ⟨((keyL v).map UInt8.ofNat).toArray⟩ : Value) = .string (keyS v) := rfl
      rw [hks] at hcv
      obtain ⟨ks, hke⟩ : ∃ ks, ks = keyS v := ⟨_, rfl⟩
      rw [← hke] at hcv
      have HKE := Lib.hid hke
      clear hown hL hbb hcc hlt hks HV hke
      go_wp2_with fail
      go_ret
      exact ⟨by rw [← HKE.out]; rfl, HB.out⟩
theorem kind_fresh (p last : Int) (w : World) : Calls Tryz.prog 49 #[.int .i64 p, .bool false, .int .i64 last] w fun e w' => e = .returned (.int .i64 0) ∧ w = w' := by
  go_enter Tryz.func49, Tryz.ntmps49
  go_wp2_with fail
  go_ret
  exact ⟨rfl, rfl⟩
theorem kind_met (p last : Int) (w : World) : Calls Tryz.prog 49 #[.int .i64 p, .bool true, .int .i64 last] w fun e w' => e = .returned (.int .i64 (if p = last then 2 else 1)) ∧ w = w' := by
  by_cases h : p = last
  · have t : (p != last) = false := by simp [h]
    rw [if_pos h]
    clear h
    go_enter Tryz.func49, Tryz.ntmps49
    go_wp2_with fail
    go_ret
    exact ⟨rfl, rfl⟩
  · have t : (p != last) = true := by simp [h]
    rw [if_neg h]
    clear h
    go_enter Tryz.func49, Tryz.ntmps49
    go_wp2_with fail
    go_ret
    exact ⟨rfl, rfl⟩
/-- Where an interval ends. -/
def cutHi (l : List Nat) (i : Nat) : Nat := if i + 1 < l.length then l.getD (i + 1) 0 - 1 else 4294967295
set_option maxRecDepth 1000000 in
set_option maxHeartbeats 1000000 in
theorem cends_any (A : Option Addr) (c i : Nat) (l : List Nat) (w : World) (hA : Lies w A (u32s l)) (hi : i < l.length) (hl : l.length ≤ 1000000) (hb : ∀ a ∈ l, a < 4294967296) (hp : ∀ j (hj : j < l.length), 0 < j → 0 < l[j]) :
    Calls Tryz.prog 89 #[.slice A l.length c, .int .i64 (i : Int)] w fun e w' => e = .returned (.tuple #[.int .u32 ((l.getD i 0 : Nat) : Int), .int .u32 ((cutHi l i : Nat) : Int), .bool true]) ∧ w = w' := by
  have t0 : decide ((i : Int) < 0) = false := by rw [decide_eq_false_iff_not]; omega
  have t1 : decide ((i : Int) ≥ (l.length : Int)) = false := by rw [decide_eq_false_iff_not]; omega
  have hge : l.getD i 0 = l[i] := by simp [List.getD, List.getElem?_eq_getElem hi]
  rw [hge]
  obtain ⟨b, off, hAe, hbb, hc0⟩ := Lies.at_map hA hi
  obtain ⟨x, hx⟩ : ∃ x, x = l[i] := ⟨_, rfl⟩
  rw [← hx] at hc0 ⊢
  by_cases h1 : i + 1 < l.length
  · have hhi : cutHi l i = l[i + 1] - 1 := by unfold cutHi; rw [if_pos h1]; simp [List.getD, List.getElem?_eq_getElem h1]
    rw [hhi]
    obtain ⟨b', off', hAe', hbb', hc1⟩ := Lies.at_map hA h1
    rw [hAe] at hAe'
    injection hAe' with hAe'
    injection hAe' with e1 e2 _
    subst e1 e2
    have hpos := hp (i + 1) h1 (by omega)
    have hlt := hb _ (List.getElem_mem h1)
    obtain ⟨y, hy⟩ : ∃ y, l[i + 1] = y + 1 := ⟨l[i + 1] - 1, by omega⟩
    rw [hy] at hc1 hlt ⊢
    rw [show y + 1 - 1 = y by omega]
    rw [show ((y + 1 : Nat) : Int) = (y : Int) + 1 by omega] at hc1
    have i0 : (0 : Int) ≤ (i : Int) := by omega
    have i1 : (i : Int) + 1 < (l.length : Int) := by omega
    have y0 : (0 : Int) ≤ (y : Int) := by omega
    have y1 : (y : Int) + 1 < 4294967296 := by omega
    obtain ⟨Y, hY⟩ : ∃ Y : Int, Y = (y : Int) := ⟨_, rfl⟩
    rw [← hY] at hc1 y0 y1 ⊢
    clear hx hpos hy hp hb hA hge hhi hlt hY
    subst hAe
    go_enter Tryz.func89, Tryz.ntmps89
    go_wp2_with fail
    go_ret3
    exact ⟨rfl, rfl⟩
  · have hhi : cutHi l i = 4294967295 := by unfold cutHi; rw [if_neg h1]
    rw [hhi]
    have i0 : (0 : Int) ≤ (i : Int) := by omega
    have i1 : (i : Int) < (l.length : Int) := by omega
    have i2 : (l.length : Int) ≤ (i : Int) + 1 := by omega
    clear hx hp hb hA hge hhi
    subst hAe
    go_enter Tryz.func89, Tryz.ntmps89
    go_wp2_with fail
    go_ret3
    exact ⟨rfl, rfl⟩
/-- A value that reads as atoms: where they begin, which vector they have. -/
abbrev atomsV (F W V : Option Addr) (nf nw nv cf cw cv : Nat) : Value := .agg #[.slice F nf cf, .slice W nw cw, .slice V nv cv]
set_option maxRecDepth 100000 in
set_option maxHeartbeats 1000000 in
theorem atends_any (F H V : Option Addr) (nh nv cf ch cv i : Nat) (l : List Nat) (w : World) (hA : Lies w F (u32s l)) (hi : i < l.length) (hl : l.length ≤ 1000000) (hb : ∀ a ∈ l, a < 4294967296) (hp : ∀ j (hj : j < l.length), 0 < j → 0 < l[j]) :
    Calls Tryz.prog 53 #[atomsV F H V l.length nh nv cf ch cv, .int .i64 (i : Int)] w fun e w' => e = .returned (.tuple #[.int .u32 ((l.getD i 0 : Nat) : Int), .int .u32 ((cutHi l i : Nat) : Int), .bool true]) ∧ Below w.heap.size w w' := by
  have hb1 : Below w.heap.size w (w.alloc (.cells #[.slice F l.length cf, .slice H nh ch, .slice V nv cv] 58)) := (Below.refl _ _).alloc (Nat.le_refl _) _
  have hce := cends_any F cf i l _ (hA.below hb1) hi hl hb hp
  have hr := VRow.new w #[.slice F l.length cf, .slice H nh ch, .slice V nv cv] 58
  have hx0 := (hr.get (i := 0) rfl).1
  clear hp hb hA hi hl
  generalize l.getD i 0 = lo at *
  generalize cutHi l i = hi' at *
  generalize l.length = M at *
  have HCE := Lib.hid hce
  have HB1 := Lib.hid hb1
  clear hce hb1 hr
  go_enter Tryz.func53, Tryz.ntmps53
  go_wp2_with fail
  refine (HCE.out).mono ?_
  rintro e w' ⟨rfl, rfl⟩
  go_wp2_with fail
  go_ret3
  exact ⟨rfl, HB1.out⟩
set_option maxRecDepth 100000 in
set_option maxHeartbeats 1000000 in
theorem aends_any (F H V : Option Addr) (nh nv cf ch cv i : Nat) (l : List Nat) (w : World) (hA : Lies w F (u32s l)) (hi : i < l.length) (hl : l.length ≤ 1000000) (hb : ∀ a ∈ l, a < 4294967296) (hp : ∀ j (hj : j < l.length), 0 < j → 0 < l[j]) :
    Calls Tryz.prog 19 #[atomsV F H V l.length nh nv cf ch cv, .int .i64 (i : Int)] w fun e w' => e = .returned (.agg #[.int .u32 ((l.getD i 0 : Nat) : Int), .int .u32 ((cutHi l i : Nat) : Int)]) ∧ Below w.heap.size w w' := by
  obtain ⟨w1, hw1⟩ : ∃ w1, w1 = w.alloc (.cells #[.slice F l.length cf, .slice H nh ch, .slice V nv cv] 58) := ⟨_, rfl⟩
  have hb1 : Below w.heap.size w w1 := by rw [hw1]; exact (Below.refl _ _).alloc (Nat.le_refl _) _
  have s1 : w1.heap.size = w.heap.size + 1 := by rw [hw1]; simp
  obtain ⟨w2, hw2⟩ : ∃ w2, w2 = w1.alloc (.cells #[.int .u32 0, .int .u32 0] 63) := ⟨_, rfl⟩
  have hb12 : Below w1.heap.size w1 w2 := by rw [hw2]; exact (Below.refl _ _).alloc (Nat.le_refl _) _
  have hr1 : VRow w1 w.heap.size [.slice F l.length cf, .slice H nh ch, .slice V nv cv] := by rw [hw1]; exact VRow.new w #[.slice F l.length cf, .slice H nh ch, .slice V nv cv] _
  have hr2 : VRow w2 (w.heap.size + 1) [.int .u32 0, .int .u32 0] := by rw [hw2, ← s1]; exact VRow.new w1 #[.int .u32 0, .int .u32 0] _
  have hr12 := hr1.below hb12 hr1.lt
  have hb2 := hb1.trans (hb12.mono hb1.size)
  have hce := atends_any F H V nh nv cf ch cv i l w2 (hA.below hb2) hi hl hb hp
  have hx0 := (hr12.get (i := 0) rfl).1
  have hx1 := (hr12.get (i := 1) rfl).1
  have hx2 := (hr12.get (i := 2) rfl).1
  rw [hw1] at hw2
  have hw2' := hw2
  rw [hw2'] at hx0 hx1 hx2
  clear hp hb hA hi hl
  generalize l.getD i 0 = lo at *
  generalize cutHi l i = hi' at *
  generalize l.length = M at *
  have HCE := Lib.hid hce
  have HB2 := Lib.hid hb2
  have HR2 := Lib.hid hr2
  have HW2 := Lib.hid hw2
  clear hce hb1 hb12 hb2 hr1 hr2 hr12 hw1 hw2 hw2' s1
  go_enter Tryz.func19, Tryz.ntmps19
  go_wp2_with fail
  rw [← HW2.out]
  refine (HCE.out).mono ?_
  rintro e w3 ⟨rfl, hb3⟩
  have hr3 := HR2.out.below hb3 HR2.out.lt
  obtain ⟨hy0, hf0⟩ := hr3.get (i := 0) rfl
  obtain ⟨hy1, hf1⟩ := hr3.get (i := 1) rfl
  have hr4 := hr3.set_ 0 (.int .u32 (lo : Int))
  have hr5 := hr4.set_ 1 (.int .u32 (hi' : Int))
  have hb4 := (HB2.out.trans (hb3.mono HB2.out.size)).setCell (p := ⟨w.heap.size + 1, 0, none⟩) (Nat.le_succ _) (.int .u32 (lo : Int))
  have hb5 := hb4.setCell (p := ⟨w.heap.size + 1, 1, none⟩) (Nat.le_succ _) (.int .u32 (hi' : Int))
  have HB5 := Lib.hid hb5
  have hz0 := (hr5.get (i := 0) rfl).1
  have hz1 := (hr5.get (i := 1) rfl).1
  obtain ⟨hy4, hf4⟩ := hr4.get (i := 1) rfl
  have HZ0 := Lib.hid hz0
  have HZ1 := Lib.hid hz1
  clear hx0 hx1 hx2 hb3 hr3 hr4 hr5 hb4 hb5 hz0 hz1 HCE HB2 HR2 HW2
  go_wp2_with fail
  have hz0 := HZ0.out
  have hz1 := HZ1.out
  refine bodyPost_ret (v := .agg #[.int .u32 (lo : Int), .int .u32 (hi' : Int)]) (by simp [results, Tryz.results19, go_sem, hz0, hz1]) rfl ⟨rfl, HB5.out⟩
end Go.Proofs.YtpjoefekhgmlhaaGreat.Tp
