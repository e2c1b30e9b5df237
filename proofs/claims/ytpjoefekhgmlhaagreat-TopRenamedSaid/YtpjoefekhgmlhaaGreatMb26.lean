/- CONTRACTS: atoms.key, atoms.kind, cuts.Ends, Atoms.Ends, analyze.ends. Conditions: vectors of 1 to 256 nodes. · WORDS of atoms.Of: its rounds in plain words; its three rows, its map, its block. No conditions. -/
import Derived.Test.YtpjoefekhgmlhaaGreatMb25
import Derived.Laws.IdiomStrings
namespace Go.Proofs.YtpjoefekhgmlhaaGreat.Tp
open Go.RowKit Mem

/-- A vector as a text: two bytes of each number. -/
def key2 (x : Int) : List Nat := [(x + 1).toNat / 256, (x + 1).toNat % 256]
def keyL (v : List Int) : List Nat := v.flatMap key2
def keyS (v : List Int) : ByteArray := ⟨((keyL v).map UInt8.ofNat).toArray⟩
theorem keyL_len (v : List Int) : (keyL v).length = 2 * v.length := by
  induction v with
  | nil => rfl
  | cons x v ih => rw [keyL, List.flatMap_cons, List.length_append, show (v.flatMap key2) = keyL v from rfl, ih, List.length_cons]; simp [key2]; omega
theorem keyL_next {v : List Int} {k : Nat} (h : k < v.length) : keyL (v.take (k + 1)) = keyL (v.take k) ++ key2 v[k] := by
  unfold keyL; rw [List.take_succ_eq_append_getElem h, List.flatMap_append]; simp
theorem keyL_lt {v : List Int} (hv : ∀ x ∈ v, -1 ≤ x ∧ x < 256) : ∀ b ∈ keyL v, b < 256 := by
  intro b hb
  unfold keyL at hb
  obtain ⟨x, hx, hb⟩ := List.mem_flatMap.1 hb
  have := hv x hx
  simp [key2] at hb
  omega
theorem keyL_inj : ∀ {v u : List Int}, (∀ x ∈ v, -1 ≤ x ∧ x < 256) → (∀ x ∈ u, -1 ≤ x ∧ x < 256) → keyL v = keyL u → v = u
  | [], [], _, _, _ => rfl
  | [], x :: u, _, _, h => by simp [keyL, key2] at h
  | x :: v, [], _, _, h => by simp [keyL, key2] at h
  | x :: v, y :: u, hv, hu, h => by
    have h1 := hv x (by simp)
    have h2 := hu y (by simp)
    simp only [keyL, List.flatMap_cons, key2, List.cons_append, List.nil_append, List.cons.injEq] at h
    obtain ⟨h3, h4, h5⟩ := h
    have hxy : x = y := by omega
    rw [hxy, keyL_inj (v := v) (u := u) (fun z hz => hv z (by simp [hz])) (fun z hz => hu z (by simp [hz])) h5]
theorem keyS_inj {v u : List Int} (hv : ∀ x ∈ v, -1 ≤ x ∧ x < 256) (hu : ∀ x ∈ u, -1 ≤ x ∧ x < 256) (h : keyS v = keyS u) : v = u := by
  refine keyL_inj hv hu ?_
  have h1 : (keyL v).map UInt8.ofNat = (keyL u).map UInt8.ofNat := by
    have := congrArg (fun s : ByteArray => s.data.toList) h
    simpa [keyS] using this
  have back : ∀ l : List Nat, (∀ b ∈ l, b < 256) → (l.map UInt8.ofNat).map UInt8.toNat = l := fun l hl => by
    rw [List.map_map]
    conv => rhs; rw [← List.map_id l]
    refine List.map_congr_left fun b hb => ?_
    have := hl b hb
    simp
    omega
  rw [← back _ (keyL_lt hv), ← back _ (keyL_lt hu), h1]
theorem bytes_back (l : List Nat) (h : ∀ b ∈ l, b < 256) : bytes l = (l.map UInt8.ofNat).map fun b : UInt8 => Value.int .u8 (b.toNat : Int) := by
  rw [List.map_map]
  refine List.map_congr_left fun b hb => ?_
  have := h b hb
  show Value.int .u8 (b : Int) = .int .u8 ((UInt8.ofNat b).toNat : Int)
  rw [UInt8.toNat_ofNat', Nat.mod_eq_of_lt this]
set_option maxRecDepth 100000 in
set_option maxHeartbeats 2000000 in
theorem key_any (A : Option Addr) (c : Nat) (v : List Int) (w : World) (hA : Lies w A (Gr.ints v)) (hv : ∀ x ∈ v, -1 ≤ x ∧ x < 256) (hl : v.length ≤ 256) (h0 : 0 < v.length) :
    Calls Tryz.prog 48 #[.slice A v.length c] w fun e w' => e = .returned (.string (keyS v)) ∧ Below w.heap.size w w' := by
  have hmk := run_make_room (P := Tryz.prog) 45 5 (.int .u8 0) 1 Tryz.underlying45 byte_info rfl .i64 .i64 (2 * v.length) (by omega) (by omega)
  have hmown := World.ownsRow_made w (madeCells #[.int .u8 0] (2 * v.length)) (2 * v.length) (e := 5) (size := 1) (base := w.heap.size) (Nat.le_refl w.heap.size) (by simp only [maxLen]; omega) (by simp [madeCells])
  obtain ⟨mk, hmkd⟩ : ∃ mk, mk = Obj.cells (madeCells #[.int .u8 0] (2 * v.length)) 5 := ⟨_, rfl⟩
  rw [← hmkd] at hmk hmown
  rw [show ((2 * v.length : Nat) : Int) = 2 * (v.length : Int) by omega] at hmk
  have hb1 : Below w.heap.size w (w.alloc mk) := (Below.refl _ _).alloc (Nat.le_refl _) _
  have HOWN := Lib.hid hmown
  have HB1 := Lib.hid hb1
  have HA := Lib.hid hA
  have HV := Lib.hid hv
  clear hmkd hmown hb1 hA hv
  go_enter Tryz.func48, Tryz.ntmps48
  go_wp2_with fail
  clear hmk
  go_loopw [3, 12] (fun s i wr => ∃ (k : Nat) (S : Option Addr) (cp : Nat), k ≤ v.length ∧ i = .int .i64 k ∧ s = .slice S (2 * k) cp ∧ wr.ownsRow w.heap.size 5 1 (.slice S (2 * k) cp) (2 * k) (bytes (keyL (v.take k))) ∧ Hid (Below w.heap.size w wr)) (fun _ i _ => v.length - (intOf i).toNat)
  case atStart => exact ⟨0, _, _, by omega, rfl, rfl, HOWN.out, HB1⟩
  case round =>
    clear HOWN HB1
    obtain ⟨k, S, cp, hk, rfl, rfl, hown, HB⟩ := hrel
    by_cases hlt : k < v.length
    · obtain ⟨b, off, hAe, hbb, hc0⟩ := Lies.at_map HA.out hlt
      have hk0 := (HB.out.cell (p := ⟨b, off + k, none⟩) hbb).trans hc0
      have hx := HV.out _ (List.getElem_mem hlt)
      have hnx := keyL_next hlt
      obtain ⟨x, hxe⟩ : ∃ x, x = v[k] := ⟨_, rfl⟩
      rw [← hxe] at hk0 hx hnx
      obtain ⟨y, hy⟩ : ∃ y : Nat, x = (y : Int) - 1 ∧ y ≤ 256 := ⟨(x + 1).toNat, by omega, by omega⟩
      obtain ⟨rfl, hy2⟩ := hy
      have hk2 : key2 ((y : Int) - 1) = [y / 256, y % 256] := by unfold key2; rw [show ((y : Int) - 1 + 1).toNat = y by omega]
      rw [hk2] at hnx
      have HNX := Lib.hid hnx
      clear hc0 hx hnx hxe hk2
      subst hAe
      have he2 : bytes [y / 256, y % 256] = [.int .u8 ((y : Int) / 256), .int .u8 ((y : Int) % 256)] := by simp [bytes]
      have hal : Below wr.heap.size wr (wr.alloc (.cells #[.int .u8 ((y : Int) / 256), .int .u8 ((y : Int) % 256)] 5)) := (Below.refl _ _).alloc (Nat.le_refl _) _
      have hown1 := own_below hown hal
      have hb1 := HB.out.trans (hal.mono HB.out.size)
      have hone := Lies.new wr #[.int .u8 ((y : Int) / 256), .int .u8 ((y : Int) % 256)] 5
      have hkt : keyL (v.take (k + 1)) = keyL (v.take k) ++ [y / 256, y % 256] := HNX.out
      have HKT := Lib.hid hkt
      have HE2 := Lib.hid he2
      have HBW := Lib.hid hb1
      have HONE := Lib.hid hone
      clear he2 hal hb1 hone hkt HNX hown
      go_wp2_with (at_builtin; refine wpList_app rfl (.tmp 16) (.tmp 24) _ rfl Tryz.underlying45 byte_info rfl (by omega) (by omega) w _ HBW.out _ _ _ _ rfl hown1 _ 2 2 _ rfl rfl HONE.out (by intro u hu; simp at hu; rcases hu with rfl | rfl <;> rfl) (by omega) ?_; intro S3 c3 w3 hown3 hc3 hc3' hb3 hg3)
      refine ⟨⟨k + 1, S3, c3, by omega, by go_num, rfl, ?_, Lib.hid hb3⟩, by simp [intOf]; omega⟩
      rw [HKT.out, bytes_app, HE2.out]
      exact hown3
    · obtain rfl : k = v.length := by omega
      rw [List.take_of_length_le (Nat.le_refl _)] at hown
      have hL := Lies.of_own hown
      obtain ⟨b, off, rfl, hbb, hcc⟩ := hL (by rw [bytes_len, keyL_len]; omega)
      have hlt := keyL_lt HV.out
      have hcv := run_convert_bytes_back (P := Tryz.prog) wr 45 9 5 ⟨b, off, none⟩ cp ((keyL v).map UInt8.ofNat) Tryz.underlying45 Tryz.underlying5 Tryz.underlying9 (fun j hj => by
        rw [add_plain]
        refine hcc j _ ?_
        rw [bytes_back _ hlt, List.getElem?_map, List.getElem?_eq_getElem hj]; rfl)
      rw [show ((keyL v).map UInt8.ofNat).length = 2 * v.length by rw [List.length_map, keyL_len]] at hcv
      have hks : (.string ⟨((keyL v).map UInt8.ofNat).toArray⟩ : Value) = .string (keyS v) := rfl
      rw [hks] at hcv
      obtain ⟨ks, hke⟩ : ∃ ks, ks = keyS v := ⟨_, rfl⟩
      rw [← hke] at hcv
      have HKE := Lib.hid hke
      clear hown hL hbb hcc hlt hks HV hke
      go_wp2_with fail
      go_ret
      exact ⟨by rw [← HKE.out]; rfl, HB.out⟩
theorem kind_fresh (p last : Int) (w : World) : Calls Tryz.prog 49 #[.int .i64 p, .bool false, .int .i64 last] w fun e w' => e = .returned (.int .i64 0) ∧ w = w' := by
  go_enter Tryz.func49, Tryz.ntmps49
  go_wp2_with fail
  go_ret
  exact ⟨rfl, rfl⟩
theorem kind_met (p last : Int) (w : World) : Calls Tryz.prog 49 #[.int .i64 p, .bool true, .int .i64 last] w fun e w' => e = .returned (.int .i64 (if p = last then 2 else 1)) ∧ w = w' := by
  by_cases h : p = last
  · have t : (p != last) = false := by simp [h]
    rw [if_pos h]
    clear h
    go_enter Tryz.func49, Tryz.ntmps49
    go_wp2_with fail
    go_ret
    exact ⟨rfl, rfl⟩
  · have t : (p != last) = true := by simp [h]
    rw [if_neg h]
    clear h
    go_enter Tryz.func49, Tryz.ntmps49
    go_wp2_with fail
    go_ret
    exact ⟨rfl, rfl⟩
/-- Where an interval ends. -/
def cutHi (l : List Nat) (i : Nat) : Nat := if i + 1 < l.length then l.getD (i + 1) 0 - 1 else 4294967295
set_option maxRecDepth 1000000 in
set_option maxHeartbeats 1000000 in
theorem cends_any (A : Option Addr) (c i : Nat) (l : List Nat) (w : World) (hA : Lies w A (u32s l)) (hi : i < l.length) (hl : l.length ≤ 1000000) (hb : ∀ a ∈ l, a < 4294967296) (hp : ∀ j (hj : j < l.length), 0 < j → 0 < l[j]) :
    Calls Tryz.prog 89 #[.slice A l.length c, .int .i64 (i : Int)] w fun e w' => e = .returned (.tuple #[.int .u32 ((l.getD i 0 : Nat) : Int), .int .u32 ((cutHi l i : Nat) : Int), .bool true]) ∧ w = w' := by
  have t0 : decide ((i : Int) < 0) = false := by rw [decide_eq_false_iff_not]; omega
  have t1 : decide ((i : Int) ≥ (l.length : Int)) = false := by rw [decide_eq_false_iff_not]; omega
  have hge : l.getD i 0 = l[i] := by simp [List.getD, List.getElem?_eq_getElem hi]
  rw [hge]
  obtain ⟨b, off, hAe, hbb, hc0⟩ := Lies.at_map hA hi
  obtain ⟨x, hx⟩ : ∃ x, x = l[i] := ⟨_, rfl⟩
  rw [← hx] at hc0 ⊢
  by_cases h1 : i + 1 < l.length
  · have hhi : cutHi l i = l[i + 1] - 1 := by unfold cutHi; rw [if_pos h1]; simp [List.getD, List.getElem?_eq_getElem h1]
    rw [hhi]
    obtain ⟨b', off', hAe', hbb', hc1⟩ := Lies.at_map hA h1
    rw [hAe] at hAe'
    injection hAe' with hAe'
    injection hAe' with e1 e2 _
    subst e1 e2
    have hpos := hp (i + 1) h1 (by omega)
    have hlt := hb _ (List.getElem_mem h1)
    obtain ⟨y, hy⟩ : ∃ y, l[i + 1] = y + 1 := ⟨l[i + 1] - 1, by omega⟩
    rw [hy] at hc1 hlt ⊢
    rw [show y + 1 - 1 = y by omega]
    rw [show ((y + 1 : Nat) : Int) = (y : Int) + 1 by omega] at hc1
    have i0 : (0 : Int) ≤ (i : Int) := by omega
    have i1 : (i : Int) + 1 < (l.length : Int) := by omega
    have y0 : (0 : Int) ≤ (y : Int) := by omega
    have y1 : (y : Int) + 1 < 4294967296 := by omega
    obtain ⟨Y, hY⟩ : ∃ Y : Int, Y = (y : Int) := ⟨_, rfl⟩
    rw [← hY] at hc1 y0 y1 ⊢
    clear hx hpos hy hp hb hA hge hhi hlt hY
    subst hAe
    go_enter Tryz.func89, Tryz.ntmps89
    go_wp2_with fail
    go_ret3
    exact ⟨rfl, rfl⟩
  · have hhi : cutHi l i = 4294967295 := by unfold cutHi; rw [if_neg h1]
    rw [hhi]
    have i0 : (0 : Int) ≤ (i : Int) := by omega
    have i1 : (i : Int) < (l.length : Int) := by omega
    have i2 : (l.length : Int) ≤ (i : Int) + 1 := by omega
    clear hx hp hb hA hge hhi
    subst hAe
    go_enter Tryz.func89, Tryz.ntmps89
    go_wp2_with fail
    go_ret3
    exact ⟨rfl, rfl⟩
/-- A value that reads as atoms: where they begin, which vector they have. -/
abbrev atomsV (F W V : Option Addr) (nf nw nv cf cw cv : Nat) : Value := .agg #[.slice F nf cf, .slice W nw cw, .slice V nv cv]
set_option maxRecDepth 100000 in
set_option maxHeartbeats 1000000 in
theorem atends_any (F H V : Option Addr) (nh nv cf ch cv i : Nat) (l : List Nat) (w : World) (hA : Lies w F (u32s l)) (hi : i < l.length) (hl : l.length ≤ 1000000) (hb : ∀ a ∈ l, a < 4294967296) (hp : ∀ j (hj : j < l.length), 0 < j → 0 < l[j]) :
    Calls Tryz.prog 53 #[atomsV F H V l.length nh nv cf ch cv, .int .i64 (i : Int)] w fun e w' => e = .returned (.tuple #[.int .u32 ((l.getD i 0 : Nat) : Int), .int .u32 ((cutHi l i : Nat) : Int), .bool true]) ∧ Below w.heap.size w w' := by
  have hb1 : Below w.heap.size w (w.alloc (.cells #[.slice F l.length cf, .slice H nh ch, .slice V nv cv] 58)) := (Below.refl _ _).alloc (Nat.le_refl _) _
  have hce := cends_any F cf i l _ (hA.below hb1) hi hl hb hp
  have hr := VRow.new w #[.slice F l.length cf, .slice H nh ch, .slice V nv cv] 58
  have hx0 := (hr.get (i := 0) rfl).1
  clear hp hb hA hi hl
  generalize l.getD i 0 = lo at *
  generalize cutHi l i = hi' at *
  generalize l.length = M at *
  have HCE := Lib.hid hce
  have HB1 := Lib.hid hb1
  clear hce hb1 hr
  go_enter Tryz.func53, Tryz.ntmps53
  go_wp2_with fail
  refine (HCE.out).mono ?_
  rintro e w' ⟨rfl, rfl⟩
  go_wp2_with fail
  go_ret3
  exact ⟨rfl, HB1.out⟩
set_option maxRecDepth 100000 in
set_option maxHeartbeats 1000000 in
theorem aends_any (F H V : Option Addr) (nh nv cf ch cv i : Nat) (l : List Nat) (w : World) (hA : Lies w F (u32s l)) (hi : i < l.length) (hl : l.length ≤ 1000000) (hb : ∀ a ∈ l, a < 4294967296) (hp : ∀ j (hj : j < l.length), 0 < j → 0 < l[j]) :
    Calls Tryz.prog 19 #[atomsV F H V l.length nh nv cf ch cv, .int .i64 (i : Int)] w fun e w' => e = .returned (.agg #[.int .u32 ((l.getD i 0 : Nat) : Int), .int .u32 ((cutHi l i : Nat) : Int)]) ∧ Below w.heap.size w w' := by
  obtain ⟨w1, hw1⟩ : ∃ w1, w1 = w.alloc (.cells #[.slice F l.length cf, .slice H nh ch, .slice V nv cv] 58) := ⟨_, rfl⟩
  have hb1 : Below w.heap.size w w1 := by rw [hw1]; exact (Below.refl _ _).alloc (Nat.le_refl _) _
  have s1 : w1.heap.size = w.heap.size + 1 := by rw [hw1]; simp
  obtain ⟨w2, hw2⟩ : ∃ w2, w2 = w1.alloc (.cells #[.int .u32 0, .int .u32 0] 63) := ⟨_, rfl⟩
  have hb12 : Below w1.heap.size w1 w2 := by rw [hw2]; exact (Below.refl _ _).alloc (Nat.le_refl _) _
  have hr1 : VRow w1 w.heap.size [.slice F l.length cf, .slice H nh ch, .slice V nv cv] := by rw [hw1]; exact VRow.new w #[.slice F l.length cf, .slice H nh ch, .slice V nv cv] _
  have hr2 : VRow w2 (w.heap.size + 1) [.int .u32 0, .int .u32 0] := by rw [hw2, ← s1]; exact VRow.new w1 #[.int .u32 0, .int .u32 0] _
  have hr12 := hr1.below hb12 hr1.lt
  have hb2 := hb1.trans (hb12.mono hb1.size)
  have hce := atends_any F H V nh nv cf ch cv i l w2 (hA.below hb2) hi hl hb hp
  have hx0 := (hr12.get (i := 0) rfl).1
  have hx1 := (hr12.get (i := 1) rfl).1
  have hx2 := (hr12.get (i := 2) rfl).1
  rw [hw1] at hw2
  have hw2' := hw2
  rw [hw2'] at hx0 hx1 hx2
  clear hp hb hA hi hl
  generalize l.getD i 0 = lo at *
  generalize cutHi l i = hi' at *
  generalize l.length = M at *
  have HCE := Lib.hid hce
  have HB2 := Lib.hid hb2
  have HR2 := Lib.hid hr2
  have HW2 := Lib.hid hw2
  clear hce hb1 hb12 hb2 hr1 hr2 hr12 hw1 hw2 hw2' s1
  go_enter Tryz.func19, Tryz.ntmps19
  go_wp2_with fail
  rw [← HW2.out]
  refine (HCE.out).mono ?_
  rintro e w3 ⟨rfl, hb3⟩
  have hr3 := HR2.out.below hb3 HR2.out.lt
  obtain ⟨hy0, hf0⟩ := hr3.get (i := 0) rfl
  obtain ⟨hy1, hf1⟩ := hr3.get (i := 1) rfl
  have hr4 := hr3.set_ 0 (.int .u32 (lo : Int))
  have hr5 := hr4.set_ 1 (.int .u32 (hi' : Int))
  have hb4 := (HB2.out.trans (hb3.mono HB2.out.size)).setCell (p := ⟨w.heap.size + 1, 0, none⟩) (Nat.le_succ _) (.int .u32 (lo : Int))
  have hb5 := hb4.setCell (p := ⟨w.heap.size + 1, 1, none⟩) (Nat.le_succ _) (.int .u32 (hi' : Int))
  have HB5 := Lib.hid hb5
  have hz0 := (hr5.get (i := 0) rfl).1
  have hz1 := (hr5.get (i := 1) rfl).1
  obtain ⟨hy4, hf4⟩ := hr4.get (i := 1) rfl
  have HZ0 := Lib.hid hz0
  have HZ1 := Lib.hid hz1
  clear hx0 hx1 hx2 hb3 hr3 hr4 hr5 hb4 hb5 hz0 hz1 HCE HB2 HR2 HW2
  go_wp2_with fail
  have hz0 := HZ0.out
  have hz1 := HZ1.out
  refine bodyPost_ret (v := .agg #[.int .u32 (lo : Int), .int .u32 (hi' : Int)]) (by simp [results, Tryz.results19, go_sem, hz0, hz1]) rfl ⟨rfl, HB5.out⟩
end Go.Proofs.YtpjoefekhgmlhaaGreat.Tp

namespace Go.Proofs.YtpjoefekhgmlhaaGreat.Tp
open Go.RowKit Mem

/-- Where atoms begin, which vector they have, the vectors. -/
structure AtS where
  F : List Nat
  H : List Nat
  V : List (List Int)
def lastZ (H : List Nat) : Int := match H.getLast? with
  | none => -1
  | some i => (i : Int)
theorem lastZ_snoc (H : List Nat) (i : Nat) : lastZ (H ++ [i]) = (i : Int) := by unfold lastZ; simp
def atStep (net : List (List RuleT)) (s : AtS) (a : Nat) : AtS :=
  if vecL net a ∈ s.V then (if lastZ s.H = ((s.V.idxOf (vecL net a) : Nat) : Int) then s else ⟨s.F ++ [a], s.H ++ [s.V.idxOf (vecL net a)], s.V⟩)
  else ⟨s.F ++ [a], s.H ++ [s.V.length], s.V ++ [vecL net a]⟩
def atomsTo (net : List (List RuleT)) (l : List Nat) : AtS := l.foldl (atStep net) ⟨[], [], []⟩
def atomsN (net : List (List RuleT)) : AtS := atomsTo net (cutsL net)
theorem atomsTo_next {net : List (List RuleT)} {l : List Nat} {k : Nat} (h : k < l.length) : atomsTo net (l.take (k + 1)) = atStep net (atomsTo net (l.take k)) l[k] := by
  rw [List.take_succ_eq_append_getElem h, atomsTo, List.foldl_append]; rfl
theorem atStep_stay {net : List (List RuleT)} {s : AtS} {a : Nat} (h : vecL net a ∈ s.V) (hl : ((s.V.idxOf (vecL net a) : Nat) : Int) = lastZ s.H) : atStep net s a = s := by
  unfold atStep; rw [if_pos h, if_pos hl.symm]
theorem atStep_met {net : List (List RuleT)} {s : AtS} {a : Nat} (h : vecL net a ∈ s.V) (hl : ¬ ((s.V.idxOf (vecL net a) : Nat) : Int) = lastZ s.H) : atStep net s a = ⟨s.F ++ [a], s.H ++ [s.V.idxOf (vecL net a)], s.V⟩ := by
  unfold atStep; rw [if_pos h, if_neg fun e => hl e.symm]
theorem atStep_new {net : List (List RuleT)} {s : AtS} {a : Nat} (h : vecL net a ∉ s.V) : atStep net s a = ⟨s.F ++ [a], s.H ++ [s.V.length], s.V ++ [vecL net a]⟩ := by
  unfold atStep; rw [if_neg h]

/-! ### memory -/
def ob (A : Option Addr) : Option Nat := (Value.slice A 0 0).ownBlock
theorem ob_eq (A : Option Addr) (n c : Nat) : (Value.slice A n c).ownBlock = ob A := by cases A <;> rfl
theorem grown_set (W : World) (p : Addr) (u : Value) : W.grownBy (W.setCell p u) (some p.block) :=
  ⟨rfl, rfl, rfl, by simp, fun k _ hne => Below.heap_setCell W p u k (fun e => hne (by rw [e]))⟩
theorem lies_stay {W W2 : World} {A : Option Addr} {xs : List Value} (h : Lies W A xs) (hs : W.heap.size ≤ W2.heap.size) (hk : 0 < xs.length → ∀ a, A = some a → W2.heap[a.block]? = W.heap[a.block]?) : Lies W2 A xs := fun hn => by
  obtain ⟨b, off, e, hb, hc⟩ := h hn
  have hh : W2.heap[b]? = W.heap[b]? := hk hn _ e
  exact ⟨b, off, e, Nat.lt_of_lt_of_le hb hs, fun i u hu => (World.cell?_of_block (w := W) (a := ⟨b, off + i, none⟩) hh).trans (hc i u hu)⟩
theorem lies_block {W : World} {A : Option Addr} {xs : List Value} (h : Lies W A xs) (hn : 0 < xs.length) : ∀ a, A = some a → a.block < W.heap.size := fun a ha => by
  obtain ⟨b, off, e, hb, hc⟩ := h hn
  rw [ha] at e
  injection e with e
  rw [e]; exact hb
/-- The blocks that are written. -/
def Tk (x mb : Nat) (F H V : Option Addr) (b : Nat) : Prop := b = x ∨ b = mb ∨ ob F = some b ∨ ob H = some b ∨ ob V = some b
structure AtAp (x mb : Nat) (F H V : Option Addr) : Prop where
  f : ∀ g, ob F = some g → g ≠ x ∧ g ≠ mb ∧ ob H ≠ some g ∧ ob V ≠ some g
  h : ∀ g, ob H = some g → g ≠ x ∧ g ≠ mb ∧ ob F ≠ some g ∧ ob V ≠ some g
  v : ∀ g, ob V = some g → g ≠ x ∧ g ≠ mb ∧ ob F ≠ some g ∧ ob H ≠ some g
  m : mb ≠ x
structure VecsAt (base : Nat) (W : World) (T : Nat → Prop) (rows : List Value) (V : List (List Int)) : Prop where
  len : rows.length = V.length
  row : ∀ i (hi : i < V.length), ∃ R m, rows[i]? = some (.slice R V[i].length m) ∧ Lies W R (Gr.ints V[i]) ∧ (0 < V[i].length → ∀ a, R = some a → base ≤ a.block ∧ ¬ T a.block)
theorem VecsAt.step {base : Nat} {W W2 : World} {T T2 : Nat → Prop} {rows : List Value} {V : List (List Int)} (h : VecsAt base W T rows V) (hs : W.heap.size ≤ W2.heap.size) (hk : ∀ b, b < W.heap.size → ¬ T b → W2.heap[b]? = W.heap[b]?) (hT : ∀ b, b < W.heap.size → T2 b → T b) : VecsAt base W2 T2 rows V :=
  ⟨h.len, fun i hi => by
    obtain ⟨R, m, e, hL, hap⟩ := h.row i hi
    have hlt : 0 < V[i].length → ∀ a, R = some a → a.block < W.heap.size := fun hn => lies_block hL (by simpa [Gr.ints] using hn)
    refine ⟨R, m, e, lies_stay hL hs (fun hn a ha => ?_), fun hn a ha => ⟨(hap hn a ha).1, fun ht => (hap hn a ha).2 (hT _ (hlt hn a ha) ht)⟩⟩
    have hn' : 0 < V[i].length := by simpa [Gr.ints] using hn
    exact hk _ (hlt hn' a ha) (hap hn' a ha).2⟩
theorem VecsAt.snoc {base : Nat} {W : World} {T : Nat → Prop} {rows : List Value} {V : List (List Int)} (h : VecsAt base W T rows V) {R : Option Addr} {v : List Int} {m : Nat} (hL : Lies W R (Gr.ints v)) (hap : 0 < v.length → ∀ a, R = some a → base ≤ a.block ∧ ¬ T a.block) : VecsAt base W T (rows ++ [.slice R v.length m]) (V ++ [v]) := by
  refine ⟨by simp [h.len], fun i hi => ?_⟩
  rw [List.length_append, List.length_singleton] at hi
  by_cases e : i < V.length
  · obtain ⟨R', m', e', hh⟩ := h.row i e
    refine ⟨R', m', ?_, ?_⟩
    · rw [List.getElem?_append_left (by rw [h.len]; exact e), List.getElem_append_left e]; exact e'
    · rw [List.getElem_append_left e]; exact hh
  · have ei : i = V.length := by omega
    subst ei
    refine ⟨R, m, ?_, ?_⟩
    · rw [List.getElem?_append_right (by rw [h.len]; exact Nat.le_refl _), h.len]; simp
    · simpa using ⟨hL, hap⟩
/-- Blocks x and mb apart, all of w0 lies as it did. -/
structure Far (w0 W : World) (x mb : Nat) : Prop where
  os : W.os = w0.os
  tape : W.tape = w0.tape
  output : W.output = w0.output
  size : w0.heap.size ≤ W.heap.size
  block : ∀ b, b < w0.heap.size → b ≠ x → b ≠ mb → W.heap[b]? = w0.heap[b]?
theorem Far.refl (w0 : World) (x mb : Nat) : Far w0 w0 x mb := ⟨rfl, rfl, rfl, Nat.le_refl _, fun _ _ _ _ => rfl⟩
theorem Far.below {w0 W : World} {x mb B : Nat} (h : Far w0 W x mb) (hx : B ≤ x) (hm : B ≤ mb) (hB : B ≤ w0.heap.size) : Below B w0 W :=
  ⟨h.os, h.tape, h.output, h.size, fun b hb => h.block b (by omega) (by omega) (by omega)⟩
theorem Far.on {w0 W W' : World} {x mb : Nat} (h : Far w0 W x mb) (hb : Below W.heap.size W W') : Far w0 W' x mb :=
  ⟨hb.os.trans h.os, hb.tape.trans h.tape, hb.output.trans h.output, Nat.le_trans h.size hb.size, fun b hlt h1 h2 => (hb.block b (Nat.lt_of_lt_of_le hlt h.size)).trans (h.block b hlt h1 h2)⟩
theorem Far.two {w0 W W' : World} {x mb : Nat} {t : Option Nat} (h : Far w0 W x mb) (hg : W.grownBy W' t) (ht : ∀ g, t = some g → w0.heap.size ≤ g) (j : Nat) (v : Value) : Far w0 (W'.setCell ⟨x, j, none⟩ v) x mb :=
  ⟨hg.os.trans h.os, hg.tape.trans h.tape, hg.output.trans h.output, by simpa using Nat.le_trans h.size hg.size, fun b hlt h1 h2 => ((Below.heap_setCell W' ⟨x, j, none⟩ v b h1).trans (hg.block b (Nat.lt_of_lt_of_le hlt h.size) (fun e => by have := ht b e.symm; omega))).trans (h.block b hlt h1 h2)⟩
theorem Far.put {w0 W W' : World} {x mb : Nat} (h : Far w0 W x mb) (hg : W.grownBy W' (some mb)) : Far w0 W' x mb :=
  ⟨hg.os.trans h.os, hg.tape.trans h.tape, hg.output.trans h.output, Nat.le_trans h.size hg.size, fun b hlt h1 h2 => (hg.block b (Nat.lt_of_lt_of_le hlt h.size) (fun e => h2 (by injection e))).trans (h.block b hlt h1 h2)⟩
theorem Far.lies {w0 W : World} {x mb : Nat} {A : Option Addr} {xs : List Value} (h : Far w0 W x mb) (hL : Lies w0 A xs) (hn : ∀ a, A = some a → x < a.block ∧ mb < a.block) : Lies W A xs :=
  lies_stay hL h.size fun hn0 a ha => h.block _ (lies_block hL hn0 a ha) (by have := hn a ha; omega) (by have := hn a ha; omega)
/-- The state of a round. -/
structure AtSt (w0 W : World) (x mb : Nat) (F H V : Option Addr) (nf nh nv cf ch cv : Nat) (s : AtS) (rows : List Value) (n : Nat) (D : DataW Unit) : Prop where
  row : VRow W x [.slice F nf cf, .slice H nh ch, .slice V nv cv]
  ownF : W.ownsRow w0.heap.size 25 1 (.slice F nf cf) nf (u32s s.F)
  ownH : W.ownsRow w0.heap.size 3 1 (.slice H nh ch) nh (nums s.H)
  ownV : W.ownsRow w0.heap.size 29 1 (.slice V nv cv) nv rows
  map : W.ownsMap Tryz.prog 9 (plainElem Tryz.prog 3) mb n D
  vecs : VecsAt w0.heap.size W (Tk x mb F H V) rows s.V
  ap : AtAp x mb F H V
  far : Far w0 W x mb
section
variable {w0 W W' : World} {x mb : Nat} {F H V : Option Addr} {nf nh nv cf ch cv : Nat} {s : AtS} {rows : List Value} {n : Nat} {D : DataW Unit}
theorem AtSt.below (h : AtSt w0 W x mb F H V nf nh nv cf ch cv s rows n D) (hb : Below W.heap.size W W') : AtSt w0 W' x mb F H V nf nh nv cf ch cv s rows n D :=
  ⟨h.row.below hb h.row.lt, own_below h.ownF hb, own_below h.ownH hb, own_below h.ownV hb, map_below h.map hb, h.vecs.step hb.size (fun b hb' _ => hb.block b hb') (fun _ _ ht => ht), h.ap, h.far.on hb⟩
theorem AtSt.lt (h : AtSt w0 W x mb F H V nf nh nv cf ch cv s rows n D) : (∀ g, ob F = some g → w0.heap.size ≤ g ∧ g < W.heap.size) ∧ (∀ g, ob H = some g → w0.heap.size ≤ g ∧ g < W.heap.size) ∧ (∀ g, ob V = some g → w0.heap.size ≤ g ∧ g < W.heap.size) :=
  ⟨fun g hg => h.ownF.lt g (by rw [ob_eq]; exact hg), fun g hg => h.ownH.lt g (by rw [ob_eq]; exact hg), fun g hg => h.ownV.lt g (by rw [ob_eq]; exact hg)⟩
theorem own_two {base : Nat} {e : TypeId} {A : Option Addr} {k c : Nat} {xs : List Value} {t : Option Nat} (h : W.ownsRow base e 1 (.slice A k c) k xs) (hg : W.grownBy W' t) (ht : ∀ g, ob A = some g → t ≠ some g) (hx : ob A ≠ some x) (j : Nat) (v : Value) : (W'.setCell ⟨x, j, none⟩ v).ownsRow base e 1 (.slice A k c) k xs := by
  refine ownsRow_setCell_other (h.kept hg ?_) (by rw [ob_eq]; exact hx) v
  rw [ob_eq]
  cases ho : ob A with
  | none => exact .inl rfl
  | some g => exact .inr fun e => ht g ho e.symm
theorem map_two {t : Option Nat} (h : W.ownsMap Tryz.prog 9 (plainElem (H := Unit) Tryz.prog 3) mb n D) (hg : W.grownBy W' t) (ht : t ≠ some mb) (hx : mb ≠ x) (j : Nat) (v : Value) : (W'.setCell ⟨x, j, none⟩ v).ownsMap Tryz.prog 9 (plainElem Tryz.prog 3) mb n D :=
  (h.kept hg fun e => ht e.symm).kept (grown_set W' ⟨x, j, none⟩ v) fun e => hx (by injection e)
theorem heap_two {t : Option Nat} (hg : W.grownBy W' t) (j : Nat) (v : Value) {b : Nat} (hb : b < W.heap.size) (ht : t ≠ some b) (hx : b ≠ x) : (W'.setCell ⟨x, j, none⟩ v).heap[b]? = W.heap[b]? :=
  (Below.heap_setCell W' ⟨x, j, none⟩ v b hx).trans (hg.block b hb fun e => ht e.symm)
theorem AtSt.appF (h : AtSt w0 W x mb F H V nf nh nv cf ch cv s rows n D) {a cf' : Nat} {F' : Option Addr} (hown : W'.ownsRow w0.heap.size 25 1 (.slice F' (nf + 1) cf') (nf + 1) (u32s s.F ++ [.int .u32 (a : Int)])) (hg : W.grownBy W' (Value.slice F nf cf).ownBlock) (hat : (Value.slice F' (nf + 1) cf').ownBlock = (Value.slice F nf cf).ownBlock ∨ (Value.slice F' (nf + 1) cf').ownBlock = some W.heap.size) :
    VRow W' x [.slice F nf cf, .slice H nh ch, .slice V nv cv] ∧ AtSt w0 (W'.setCell ⟨x, 0, none⟩ (.slice F' (nf + 1) cf')) x mb F' H V (nf + 1) nh nv cf' ch cv ⟨s.F ++ [a], s.H, s.V⟩ rows n D := by
  have hlt := h.lt
  have hxl := h.row.lt
  have hml := h.map.lt
  rw [ob_eq] at hg
  rw [ob_eq, ob_eq] at hat
  have hr : VRow W' x [.slice F nf cf, .slice H nh ch, .slice V nv cv] := h.row.keep hg.size (hg.block x hxl (fun e => (h.ap.f x e.symm).1 rfl))
  have hap : AtAp x mb F' H V := by
    refine ⟨fun g hF => ?_, fun g hH => ?_, fun g hV => ?_, h.ap.m⟩
    · rcases hat with e | e
      · exact h.ap.f g (by rw [← e]; exact hF)
      · rw [e] at hF
        injection hF with hF
        exact ⟨by omega, by omega, fun e => by have := (hlt.2.1 g e).2; omega, fun e => by have := (hlt.2.2 g e).2; omega⟩
    · have h1 := h.ap.h g hH
      have h2 := hlt.2.1 g hH
      refine ⟨h1.1, h1.2.1, fun e' => ?_, h1.2.2.2⟩
      rcases hat with e | e
      · exact h1.2.2.1 (by rw [← e]; exact e')
      · rw [e] at e'; injection e' with e'; omega
    · have h1 := h.ap.v g hV
      have h2 := hlt.2.2 g hV
      refine ⟨h1.1, h1.2.1, fun e' => ?_, h1.2.2.2⟩
      rcases hat with e | e
      · exact h1.2.2.1 (by rw [← e]; exact e')
      · rw [e] at e'; injection e' with e'; omega
  refine ⟨hr, hr.set_ 0 _, ?_, own_two h.ownH hg (fun g hH e => (h.ap.h g hH).2.2.1 e) (fun e => (h.ap.h x e).1 rfl) _ _, own_two h.ownV hg (fun g hV e => (h.ap.v g hV).2.2.1 e) (fun e => (h.ap.v x e).1 rfl) _ _, map_two h.map hg (fun e => (h.ap.f mb e).2.1 rfl) h.ap.m _ _, ?_, hap, h.far.two hg (fun g e => (hlt.1 g e).1) _ _⟩
  · have := ownsRow_setCell_other hown (a := ⟨x, 0, none⟩) (by rw [ob_eq]; exact fun e => (hap.f x e).1 rfl) (.slice F' (nf + 1) cf')
    simpa [u32s] using this
  · refine h.vecs.step (by simpa using hg.size) (fun b hb ht => heap_two hg _ _ hb (fun e => ht (.inr (.inr (.inl e)))) (fun e => ht (.inl e))) (fun b hb ht => ?_)
    rcases ht with e | e | e | e
    · exact .inl e
    · exact .inr (.inl e)
    · rcases hat with e' | e'
      · exact .inr (.inr (.inl (by rw [← e']; exact e)))
      · rw [e'] at e; injection e with e; omega
    · exact .inr (.inr (.inr e))
theorem AtSt.appH (h : AtSt w0 W x mb F H V nf nh nv cf ch cv s rows n D) {a ch' : Nat} {H' : Option Addr} (hown : W'.ownsRow w0.heap.size 3 1 (.slice H' (nh + 1) ch') (nh + 1) (nums s.H ++ [.int .i64 (a : Int)])) (hg : W.grownBy W' (Value.slice H nh ch).ownBlock) (hat : (Value.slice H' (nh + 1) ch').ownBlock = (Value.slice H nh ch).ownBlock ∨ (Value.slice H' (nh + 1) ch').ownBlock = some W.heap.size) :
    VRow W' x [.slice F nf cf, .slice H nh ch, .slice V nv cv] ∧ AtSt w0 (W'.setCell ⟨x, 1, none⟩ (.slice H' (nh + 1) ch')) x mb F H' V nf (nh + 1) nv cf ch' cv ⟨s.F, s.H ++ [a], s.V⟩ rows n D := by
  have hlt := h.lt
  have hxl := h.row.lt
  have hml := h.map.lt
  rw [ob_eq] at hg
  rw [ob_eq, ob_eq] at hat
  have hr : VRow W' x [.slice F nf cf, .slice H nh ch, .slice V nv cv] := h.row.keep hg.size (hg.block x hxl (fun e => (h.ap.h x e.symm).1 rfl))
  have hap : AtAp x mb F H' V := by
    refine ⟨fun g hF => ?_, fun g hH => ?_, fun g hV => ?_, h.ap.m⟩
    · have h1 := h.ap.f g hF
      have h2 := hlt.1 g hF
      refine ⟨h1.1, h1.2.1, fun e' => ?_, h1.2.2.2⟩
      rcases hat with e | e
      · exact h1.2.2.1 (by rw [← e]; exact e')
      · rw [e] at e'; injection e' with e'; omega
    · rcases hat with e | e
      · exact h.ap.h g (by rw [← e]; exact hH)
      · rw [e] at hH
        injection hH with hH
        exact ⟨by omega, by omega, fun e => by have := (hlt.1 g e).2; omega, fun e => by have := (hlt.2.2 g e).2; omega⟩
    · have h1 := h.ap.v g hV
      have h2 := hlt.2.2 g hV
      refine ⟨h1.1, h1.2.1, h1.2.2.1, fun e' => ?_⟩
      rcases hat with e | e
      · exact h1.2.2.2 (by rw [← e]; exact e')
      · rw [e] at e'; injection e' with e'; omega
  refine ⟨hr, hr.set_ 1 _, own_two h.ownF hg (fun g hF e => (h.ap.f g hF).2.2.1 e) (fun e => (h.ap.f x e).1 rfl) _ _, ?_, own_two h.ownV hg (fun g hV e => (h.ap.v g hV).2.2.2 e) (fun e => (h.ap.v x e).1 rfl) _ _, map_two h.map hg (fun e => (h.ap.h mb e).2.1 rfl) h.ap.m _ _, ?_, hap, h.far.two hg (fun g e => (hlt.2.1 g e).1) _ _⟩
  · have := ownsRow_setCell_other hown (a := ⟨x, 1, none⟩) (by rw [ob_eq]; exact fun e => (hap.h x e).1 rfl) (.slice H' (nh + 1) ch')
    simpa [nums, Gr.ints] using this
  · refine h.vecs.step (by simpa using hg.size) (fun b hb ht => heap_two hg _ _ hb (fun e => ht (.inr (.inr (.inr (.inl e))))) (fun e => ht (.inl e))) (fun b hb ht => ?_)
    rcases ht with e | e | e | e | e
    · exact .inl e
    · exact .inr (.inl e)
    · exact .inr (.inr (.inl e))
    · rcases hat with e' | e'
      · exact .inr (.inr (.inr (.inl (by rw [← e']; exact e))))
      · rw [e'] at e; injection e with e; omega
    · exact .inr (.inr (.inr (.inr e)))
theorem AtSt.appV (h : AtSt w0 W x mb F H V nf nh nv cf ch cv s rows n D) {cv' : Nat} {V' : Option Addr} {R : Option Addr} {v : List Int} {m : Nat} (hL : Lies W R (Gr.ints v)) (hap0 : 0 < v.length → ∀ a, R = some a → w0.heap.size ≤ a.block ∧ ¬ Tk x mb F H V a.block) (hown : W'.ownsRow w0.heap.size 29 1 (.slice V' (nv + 1) cv') (nv + 1) (rows ++ [.slice R v.length m])) (hg : W.grownBy W' (Value.slice V nv cv).ownBlock) (hat : (Value.slice V' (nv + 1) cv').ownBlock = (Value.slice V nv cv).ownBlock ∨ (Value.slice V' (nv + 1) cv').ownBlock = some W.heap.size) :
    VRow W' x [.slice F nf cf, .slice H nh ch, .slice V nv cv] ∧ AtSt w0 (W'.setCell ⟨x, 2, none⟩ (.slice V' (nv + 1) cv')) x mb F H V' nf nh (nv + 1) cf ch cv' ⟨s.F, s.H, s.V ++ [v]⟩ (rows ++ [.slice R v.length m]) n D := by
  have hlt := h.lt
  have hxl := h.row.lt
  have hml := h.map.lt
  rw [ob_eq] at hg
  rw [ob_eq, ob_eq] at hat
  have hr : VRow W' x [.slice F nf cf, .slice H nh ch, .slice V nv cv] := h.row.keep hg.size (hg.block x hxl (fun e => (h.ap.v x e.symm).1 rfl))
  have hap : AtAp x mb F H V' := by
    refine ⟨fun g hF => ?_, fun g hH => ?_, fun g hV => ?_, h.ap.m⟩
    · have h1 := h.ap.f g hF
      have h2 := hlt.1 g hF
      refine ⟨h1.1, h1.2.1, h1.2.2.1, fun e' => ?_⟩
      rcases hat with e | e
      · exact h1.2.2.2 (by rw [← e]; exact e')
      · rw [e] at e'; injection e' with e'; omega
    · have h1 := h.ap.h g hH
      have h2 := hlt.2.1 g hH
      refine ⟨h1.1, h1.2.1, h1.2.2.1, fun e' => ?_⟩
      rcases hat with e | e
      · exact h1.2.2.2 (by rw [← e]; exact e')
      · rw [e] at e'; injection e' with e'; omega
    · rcases hat with e | e
      · exact h.ap.v g (by rw [← e]; exact hV)
      · rw [e] at hV
        injection hV with hV
        exact ⟨by omega, by omega, fun e => by have := (hlt.1 g e).2; omega, fun e => by have := (hlt.2.1 g e).2; omega⟩
  refine ⟨hr, hr.set_ 2 _, own_two h.ownF hg (fun g hF e => (h.ap.f g hF).2.2.2 e) (fun e => (h.ap.f x e).1 rfl) _ _, own_two h.ownH hg (fun g hH e => (h.ap.h g hH).2.2.2 e) (fun e => (h.ap.h x e).1 rfl) _ _, ?_, map_two h.map hg (fun e => (h.ap.v mb e).2.1 rfl) h.ap.m _ _, ?_, hap, h.far.two hg (fun g e => (hlt.2.2 g e).1) _ _⟩
  · exact ownsRow_setCell_other hown (a := ⟨x, 2, none⟩) (by rw [ob_eq]; exact fun e => (hap.v x e).1 rfl) (.slice V' (nv + 1) cv')
  · refine (h.vecs.snoc hL hap0).step (by simpa using hg.size) (fun b hb ht => heap_two hg _ _ hb (fun e => ht (.inr (.inr (.inr (.inr e))))) (fun e => ht (.inl e))) (fun b hb ht => ?_)
    rcases ht with e | e | e | e | e
    · exact .inl e
    · exact .inr (.inl e)
    · exact .inr (.inr (.inl e))
    · exact .inr (.inr (.inr (.inl e)))
    · rcases hat with e' | e'
      · exact .inr (.inr (.inr (.inr (by rw [← e']; exact e))))
      · rw [e'] at e; injection e with e; omega
theorem AtSt.upd (h : AtSt w0 W x mb F H V nf nh nv cf ch cv s rows n D) {n' : Nat} {D' : DataW Unit} (hmap : W'.ownsMap Tryz.prog 9 (plainElem Tryz.prog 3) mb n' D') (hg : W.grownBy W' (some mb)) : AtSt w0 W' x mb F H V nf nh nv cf ch cv s rows n' D' := by
  have k : ∀ A : Option Addr, (∀ g, ob A = some g → g ≠ mb) → ∀ a b, (Value.slice A a b).ownBlock = none ∨ (Value.slice A a b).ownBlock ≠ some mb := fun A hA a b => .inr fun e => by
    rw [ob_eq] at e; exact hA mb e rfl
  exact ⟨h.row.keep hg.size (hg.block x h.row.lt (fun e => h.ap.m (by injection e with e; exact e.symm))), h.ownF.kept hg (k _ (fun g hg => (h.ap.f g hg).2.1) _ _), h.ownH.kept hg (k _ (fun g hg => (h.ap.h g hg).2.1) _ _), h.ownV.kept hg (k _ (fun g hg => (h.ap.v g hg).2.1) _ _), hmap, h.vecs.step hg.size (fun b hb ht => hg.block b hb (fun e => ht (.inr (.inl (by injection e))))) (fun _ _ ht => ht), h.ap, h.far.put hg⟩
/-- Atoms in memory. -/
def AtomsAt (W : World) (F H V : Option Addr) (s : AtS) : Prop := Lies W F (u32s s.F) ∧ Lies W H (nums s.H) ∧ ∃ rows, Lies W V rows ∧ VecsAt 0 W (fun _ => False) rows s.V
theorem AtSt.done {W2 : World} (h : AtSt w0 W x mb F H V nf nh nv cf ch cv s rows n D) (hs : W.heap.size ≤ W2.heap.size) (hk : ∀ b, w0.heap.size ≤ b → b < W.heap.size → W2.heap[b]? = W.heap[b]?) : AtomsAt W2 F H V s := by
  have k : ∀ {A : Option Addr} {e : TypeId} {m c : Nat} {xs : List Value}, W.ownsRow w0.heap.size e 1 (.slice A m c) m xs → Lies W2 A xs := fun {A e m c xs} ho => lies_stay (.of_own ho) hs fun hn a ha => by
    have := ho.lt a.block (by rw [ha]; rfl)
    exact hk _ this.1 this.2
  refine ⟨k h.ownF, k h.ownH, rows, k h.ownV, h.vecs.len, fun i hi => ?_⟩
  obtain ⟨R, m, e, hL, hap⟩ := h.vecs.row i hi
  exact ⟨R, m, e, lies_stay hL hs (fun hn a ha => hk _ (hap (by simpa [Gr.ints] using hn) a ha).1 (lies_block hL hn a ha)), fun _ a _ => ⟨Nat.zero_le _, fun hf => hf⟩⟩
theorem AtomsAt.below (h : AtomsAt W F H V s) (hb : Below W.heap.size W W') : AtomsAt W' F H V s := by
  obtain ⟨h1, h2, rows, h3, h4⟩ := h
  exact ⟨h1.below hb, h2.below hb, rows, h3.below hb, h4.step hb.size (fun b hb' _ => hb.block b hb') fun _ _ ht => ht⟩
theorem AtSt.lens (h : AtSt w0 W x mb F H V nf nh nv cf ch cv s rows n D) : s.F.length = nf ∧ s.H.length = nh ∧ s.V.length = nv := by
  have h1 := h.ownF.1
  have h2 := h.ownH.1
  have h3 := h.ownV.1
  have h4 := h.vecs.len
  simp [u32s, nums] at h1 h2
  omega
theorem AtSt.base (h : AtSt w0 W x mb F H V nf nh nv cf ch cv s rows n D) : w0.heap.size ≤ W.heap.size := h.far.size
end

/-! ### the map -/
abbrev kl (v : List Int) : Lit := .string (keyS v).data.toList
def Byt (v : List Int) : Prop := ∀ x ∈ v, -1 ≤ x ∧ x < 256
structure MapIs (D : DataW Unit) (V : List (List Int)) : Prop where
  map : Go.Maps.IsMap D
  ok : ∀ v ∈ V, Byt v
  hit : ∀ i (hi : i < V.length), Go.Maps.has D (kl V[i]) = true ∧ ∀ z, D.atKey (kl V[i]) z = .lit (.int .i64 (i : Int))
  miss : ∀ v, Byt v → v ∉ V → Go.Maps.has D (kl v) = false
theorem kl_inj {v u : List Int} (hv : Byt v) (hu : Byt u) (h : kl v = kl u) : v = u := by
  refine keyS_inj hv hu ?_
  injection h with h
  cases e1 : keyS v with
  | mk d1 => cases e2 : keyS u with
    | mk d2 =>
      rw [e1, e2] at h
      simp only at h
      rw [show d1 = d2 from Array.toList_inj.1 h]
theorem MapIs.nil : MapIs (.map [] : DataW Unit) [] := ⟨⟨[], rfl⟩, by simp, fun i hi => absurd hi (by simp), fun v _ _ => by simp [Go.Maps.has]⟩
theorem MapIs.put {D : DataW Unit} {V : List (List Int)} (h : MapIs D V) {v : List Int} (hv : Byt v) (hn : v ∉ V) : MapIs (D.put (kl v) (.lit (.int .i64 (V.length : Int)))) (V ++ [v]) := by
  refine ⟨h.map.put _ _, fun u hu => ?_, fun i hi => ?_, fun u hu hnu => ?_⟩
  · rcases List.mem_append.1 hu with h1 | h1
    · exact h.ok u h1
    · simp at h1; rw [h1]; exact hv
  · rw [List.length_append, List.length_singleton] at hi
    by_cases e : i < V.length
    · rw [List.getElem_append_left e]
      have hne : kl V[i] ≠ kl v := fun e' => hn (by rw [← kl_inj (h.ok _ (List.getElem_mem e)) hv e']; exact List.getElem_mem e)
      exact ⟨by rw [Go.Maps.has_put_other hne]; exact (h.hit i e).1, fun z => by rw [Go.Maps.atKey_put_other hne]; exact (h.hit i e).2 z⟩
    · have ei : i = V.length := by omega
      subst ei
      rw [show (V ++ [v])[V.length]'(by simp) = v by simp]
      exact ⟨Go.Maps.has_put_same h.map (by trivial) _, fun z => Go.Maps.atKey_put_same h.map (by trivial) _ z⟩
  · rw [Go.Maps.has_put_other (fun e => hnu (by rw [kl_inj hu hv e]; simp))]
    exact h.miss u hu (fun e => hnu (by simp [e]))
theorem MapIs.at_ {D : DataW Unit} {V : List (List Int)} (h : MapIs D V) {v : List Int} (hv : v ∈ V) : Go.Maps.has D (kl v) = true ∧ ∀ z, D.atKey (kl v) z = .lit (.int .i64 ((V.idxOf v : Nat) : Int)) := by
  have hi := List.idxOf_lt_length_of_mem hv
  have := h.hit _ hi
  rwa [List.getElem_idxOf hi] at this
end Go.Proofs.YtpjoefekhgmlhaaGreat.Tp
