/- WORDS for rows that hold rows: what lies away from the block that is being written; an append that tells where the row is. · CONTRACT of slices.Sorted(seq) at uint32: what the iterator gives, in order. Conditions: what slices.Sort is known to sort. · CONTRACTS of package num: numbers as bytes. Conditions: sizes 1, 2, 4, numbers that fit. · CONTRACT of num.Row: some numbers as bytes, one behind the other. Conditions: sizes 1, 2, 4, numbers that fit, no more than 16. -/
import Derived.Test.YtpjoefekhgmlhaaGreatMb05
import Derived.Test.YtpjoefekhgmlhaaGreatMb09
import Derived.IntWalk
import Derived.Laws.BitsAllLaws
namespace Go.Proofs.YtpjoefekhgmlhaaGreat.Tp
open Go.RowKit Mem

/-- The cells xs lie from A on, not in the block 'own'. -/
structure Held (w : World) (own : Option Nat) (A : Option Addr) (xs : List Value) : Prop where
  lies : Lies w A xs
  apart : 0 < xs.length → ∀ a, A = some a → own ≠ some a.block
theorem Held.below {w w' : World} {own : Option Nat} {A : Option Addr} {xs : List Value} (h : Held w own A xs) (hb : Below w.heap.size w w') : Held w' own A xs := ⟨h.lies.below hb, h.apart⟩
theorem Held.step {w w' : World} {own own' : Option Nat} {A : Option Addr} {xs : List Value} (h : Held w own A xs) (hg : w.grownBy w' own) (hat : own' = own ∨ own' = some w.heap.size) : Held w' own' A xs := by
  by_cases hx : 0 < xs.length
  · refine ⟨lies_grown h.lies hg (h.apart hx), fun _ a ha => ?_⟩
    rcases hat with rfl | rfl
    · exact h.apart hx a ha
    · obtain ⟨b, off, e, hb, _⟩ := h.lies hx
      rw [ha] at e
      injection e with e
      intro e2
      injection e2 with e2
      rw [e] at e2
      have : w.heap.size = b := e2
      omega
  · have : xs = [] := List.length_eq_zero_iff.1 (by omega)
    subst this
    exact ⟨Lies.nil _ _, fun h => absurd h (by simp)⟩
theorem Held.none {w : World} {own : Option Nat} {A : Option Addr} {xs : List Value} (h : Held w own A xs) : Held w .none A xs := ⟨h.lies, fun _ _ _ e => by cases e⟩
theorem Held.of {w : World} {A : Option Addr} {xs : List Value} (h : Lies w A xs) : Held w .none A xs := ⟨h, fun _ _ _ e => by cases e⟩
/-- What has been made since w0 lies away from a block of before. -/
theorem Held.fresh {w0 w : World} {own : Option Nat} {A : Option Addr} {xs : List Value} (h : Lies w A xs) (hn : ∀ a, A = some a → w0.heap.size ≤ a.block) (ho : ∀ g, own = some g → g < w0.heap.size) : Held w own A xs :=
  ⟨h, fun _ a ha e => by have h1 := hn a ha; have h2 := ho _ e; omega⟩

/-- What the call owns is new. -/
theorem new_of {w wr : World} {R : Option Addr} {e : TypeId} {size n c k : Nat} {xs : List Value} (h : wr.ownsRow w.heap.size e size (.slice R n c) k xs) : Gr.New w R := fun a ha => by
  subst ha
  rcases h.2 with ⟨h1, _⟩ | ⟨g, cap, cur, hv, hg, _⟩
  · cases h1
  · injection hv with hA _ _
    injection hA with hA
    rw [hA]; exact hg
theorem wpList_appN {P : Program} {ops : Array Oper} {rest : List Oper} {o : Oper} {a : Act} {Q : Exit → Act → World → Prop} (hgd : o.guard = .none) (s x : Operand) (t : TypeId)
    (ho : o.op = .call { callee := .builtin .append, args := #[s, x], argTypes := #[t, t] }) {e : TypeId} {size bytes : Nat} {z : Value} (ht : P.underlying t = some (.slice e))
    (hinfo : (P.info? e).map (fun i => (i.zero, i.size, i.bytes)) = some (some z, size, bytes)) (hzs : z.cells.size = size) (hsz : 0 < size) (hby : bytes ≤ 64)
    (w W : World) (hb : Below w.heap.size w W) (S : Option Addr) (n cp : Nat) (xs : List Value) (hs : a.eval s = .slice S n cp) (hown : W.ownsRow w.heap.size e size (.slice S n cp) n xs)
    (A : Option Addr) (m c : Nat) (ys : List Value) (hx : a.eval x = .slice A m c) (hl : ys.length = m * size) (hr : Lies W A ys) (h1 : ∀ u ∈ ys, u.oneCell' = true) (h63 : n + m ≤ 1099511627776)
    (h : ∀ S' cp' W', W'.ownsRow w.heap.size e size (.slice S' (n + m) cp') (n + m) (xs ++ ys) → n + m ≤ cp' → cp' ≤ 9223372036854775807 → Below w.heap.size w W' → W.grownBy W' (Value.slice S n cp).ownBlock →
      ((Value.slice S' (n + m) cp').ownBlock = (Value.slice S n cp).ownBlock ∨ (Value.slice S' (n + m) cp').ownBlock = some W.heap.size) →
      wpList P ops Q rest (a.put o.dst (.slice S' (n + m) cp')) W') :
    wpList P ops Q (o :: rest) a W := by
  obtain ⟨i0, hi, hz0, hz1, hz2⟩ := info_parts hinfo
  have hnb : (n + m) * bytes ≤ 140737488355328 := Nat.le_trans (Nat.mul_le_mul h63 hby) (by omega)
  refine wpList_append_lies W hgd s x t ho w.heap.size e i0 z size bytes ht hi hz0 hz1 hz2 hzs hsz (.slice S n cp) n xs hs hown A m c ys hx hl hr h1 (by simp only [maxLen]; omega) hnb hb.size ?_
  intro v' W' hown' hg hat
  obtain ⟨S', cp', rfl, hc1, hc2⟩ := own_form hown'
  exact h S' cp' W' hown' hc1 hc2 (hb.grown hg hb.size fun g hg' => (hown.lt g hg').1) hg hat
end Go.Proofs.YtpjoefekhgmlhaaGreat.Tp

namespace Go.Proofs.YtpjoefekhgmlhaaGreat.So
open Go.RowKit Go.Sort Mem

abbrev leZ : Int → Int → Bool := fun x y => decide (x ≤ y)
/-- The row of block g holds the numbers in order; nothing else has turned. -/
def SortM (g : Nat) (xs : List Int) (w : World) (e : Ending) (w' : World) : Prop := e = .returned (.tuple #[]) ∧ Lies w' (some ⟨g, 0, none⟩) ((xs.mergeSort leZ).map encU) ∧ ∀ base, base ≤ g → base ≤ w.heap.size → RowKit.Below base w w'
/-- slices.Sort sorts as many as M numbers. -/
def SortsTo (M : Nat) : Prop := ∀ (g cap : Nat) (xs : List Int) (W : World), Holds encU W g 0 xs.toArray → g < W.heap.size → xs.length ≤ M →
  Calls Tryz.prog 118 #[.slice (some ⟨g, 0, none⟩) xs.length cap] W (SortM g xs W)
theorem below_putRow {w : World} {g n base : Nat} (d : Array Int) (hb : base ≤ g) : RowKit.Below base w (putRow encU (Go.Sort.ahead w n) g 0 d) := by
  refine ⟨rfl, rfl, rfl, by simp, fun k hk => ?_⟩
  have : g ≠ k := by omega
  simp [putRow, mapBlock, Go.Sort.ahead, Array.getElem?_modify, this]
theorem lies_holds {w : World} {g : Nat} {d : Array Int} (h : Holds encU w g 0 d) (hg : g < w.heap.size) : Lies w (some ⟨g, 0, none⟩) (d.toList.map encU) := fun _ => by
  refine ⟨g, 0, rfl, hg, fun i u hu => ?_⟩
  rw [List.getElem?_map] at hu
  obtain ⟨x, hx, rfl⟩ := Option.map_eq_some_iff.1 hu
  obtain ⟨hi, hx2⟩ := List.getElem?_eq_some_iff.1 hx
  have hi' : i < d.size := by simpa using hi
  have h1 := (h i hi').1
  rw [h1, ← hx2]
  simp [hi']
theorem ins_merge (xs : List Int) : (Go.Sort.insertionSort ltInt xs.toArray 0 xs.toArray.size).toList = xs.mergeSort leZ := by
  obtain ⟨h1, h2⟩ := insertionSort_holds (lt := ltInt) swo_ltInt xs.toArray 0 xs.toArray.size (Nat.zero_le _) (Nat.le_refl _)
  have h := sorted_unique_holds swo_ltInt (fun x y h1 h2 => by simp only [ltInt, decide_eq_false_iff_not] at h1 h2; omega) xs.toArray _ h1 h2
  rw [h]
  congr 1
  funext x y
  show (!decide (y < x)) = decide (x ≤ y)
  by_cases h : x ≤ y
  · have h' : ¬ y < x := by omega
    simp [h, h']
  · have h' : y < x := by omega
    simp [h, h']
theorem sorts_few : SortsTo 12 := fun g cap xs W hH hg hl => by
  have hs := sort_few g 0 cap xs.toArray W hH (by simpa using hl)
  have e : xs.toArray.size = xs.length := by simp
  rw [e] at hs
  refine hs.mono ?_
  rintro e w' ⟨rfl, n, rfl⟩
  have hm := ins_merge xs
  have hsz : (Go.Sort.insertionSort ltInt xs.toArray 0 xs.toArray.size).size = xs.toArray.size := by
    have := congrArg List.length hm
    rw [List.length_mergeSort] at this
    simpa using this
  refine ⟨rfl, ?_, fun base hb _ => below_putRow _ hb⟩
  rw [← hm]
  exact lies_holds (holds_putRow encU (Go.Sort.ahead W n) g 0 xs.toArray _ (holds_ahead _ _ _ _ _ _ hH) hsz) (by simpa using hg)
theorem holds_block {w : World} {g : Nat} {cur : Array Value} {e : TypeId} {ss : List Int} (hb : w.heap[g]? = some (.cells cur e (0, 0))) (ht : cur.toList.take ss.length = ss.map encU) : Holds encU w g 0 ss.toArray := by
  intro j hj
  have hj' : j < ss.length := by simpa using hj
  refine ⟨?_, frozen_of_row _ _ _ _ e hb⟩
  have h1 : (cur.toList.take ss.length)[j]? = (ss.map encU)[j]? := by rw [ht]
  rw [List.getElem?_take_of_lt hj'] at h1
  rw [cell_of_row _ _ _ cur e (0, 0) hb, Nat.zero_add, ← Array.getElem?_toList, h1]
  simp [hj']
/-- Numbers in order are told, in a new slice. -/
def SortedPost (S : List Int → Prop) (w : World) (e : Ending) (w' : World) : Prop := ∃ R m xs, e = .returned (.slice R xs.length m) ∧ S xs ∧ Lies w' R ((xs.mergeSort leZ).map encU) ∧ RowKit.Below w.heap.size w w' ∧ xs.length ≤ m ∧ m ≤ 9223372036854775807 ∧ Gr.New w R
set_option maxHeartbeats 1000000 in
theorem sorted_any (M : Nat) (hM : SortsTo M) (g : Nat) (lb : Array Value) (eg : ∀ args w, (callFunc g args).run Tryz.prog w = .ok (.enter g args) w) (S Sp : List Int → Prop) (N : Nat) (hN : N ≤ 1000000) (hS : ∀ xs, S xs → xs.length ≤ M) (hne : ∀ xs, S xs → xs ≠ []) (w : World)
    (hseq : SeqStopsK Fence.wide 9 Tryz.prog g lb (fun x : Int => #[encU x]) KeepsWalks S Sp N w) :
    Calls Tryz.prog 86 #[.func (.func g) #[] lb] w (SortedPost S w) := by
  have hc := collect_any g lb eg S Sp N hN w hseq
  have HC := Lib.hid hc
  have HM := Lib.hid hM
  have HS := Lib.hid hS
  have HNE := Lib.hid hne
  clear hc hM hS hseq eg hne
  go_enter Tryz.func86, Tryz.ntmps86
  go_wp2_with fail
  refine (HC.out).mono ?_
  rintro e w2 ⟨v, xs, rfl, hSx, hown, hnil, hb⟩
  have HSX := Lib.hid hSx
  have HB := Lib.hid hb
  rcases hown.2 with ⟨rfl, hz⟩ | ⟨gb, cap, cur, rfl, hbase, hgb, r1, r2, r3, r4⟩
  · exact absurd (hnil.1 rfl) (HNE.out xs hSx)
  · have hgl : gb < w2.heap.size := by
      rcases Nat.lt_or_ge gb w2.heap.size with h' | h'
      · exact h'
      · rw [Array.getElem?_eq_none h'] at hgb; cases hgb
    have hH := holds_block (ss := xs) hgb (by simpa using r4)
    have hs := HM.out gb cap xs w2 hH hgl (HS.out xs hSx)
    have HSO := Lib.hid hs
    clear hs hown hnil hb hSx HC hH hgb r3 r4
    go_wp2_with fail
    refine (HSO.out).mono ?_
    rintro e w3 ⟨rfl, hL, hbl⟩
    have hb3 := HB.out.trans (hbl w.heap.size hbase HB.out.size)
    have HL := Lib.hid hL
    have HB3 := Lib.hid hb3
    clear hL hbl hb3
    go_wp2_with fail
    go_ret
    exact ⟨_, cap, xs, rfl, HSX.out, HL.out, HB3.out, r1, by simp only [maxLen] at r2; omega, fun a ha => by injection ha with ha; rw [← ha]; exact hbase⟩
end Go.Proofs.YtpjoefekhgmlhaaGreat.So

namespace Go.Proofs.YtpjoefekhgmlhaaGreat.Tp
open Go.RowKit Mem

theorem sized_lit (n : Int) (w : World) (h : n = 1 ∨ n = 2 ∨ n = 4) : Calls Tryz.prog 111 #[.int .i64 n] w fun e w' => e = .returned (.bool true) ∧ w = w' := by
  rcases h with rfl | rfl | rfl
  all_goals
    go_enter Tryz.func111, Tryz.ntmps111
    go_wp2_with fail
    go_ret
    exact ⟨rfl, rfl⟩

/-- The highest byte first. -/
def be : Nat → Nat → List Nat
  | 1, n => [n]
  | 2, n => [n / 256, n % 256]
  | 4, n => [n / 16777216, n / 65536 % 256, n / 256 % 256, n % 256]
  | _, _ => []
/-- k bytes have been laid, from the end on. -/
def putSt (b : List Nat) (k : Nat) : List Nat := List.replicate (b.length - k) 0 ++ b.drop (b.length - k)

set_option maxRecDepth 100000 in
set_option maxHeartbeats 400000 in
theorem put1 (n : Nat) (hn : n < 256) (w : World) : Calls Tryz.prog 105 #[.int .i64 (n : Int), .int .i64 1] w (VPost w (bytes (be 1 n)) 0) := by
  have hmk : ∀ w, Sem.run Tryz.prog (Instr.makeSlice 45 (.int .i64 1) (.int .i64 1)) w = .ok (.slice (some ⟨w.heap.size, 0, none⟩) 1 1) (w.alloc (.cells #[.int .u8 0] 5)) := fun _ => by kernel_rfl
  go_enter Tryz.func105, Tryz.ntmps105
  go_wp2_with (go_at_call 111; refine (sized_lit 1 _ (by omega)).mono ?_; rintro e w' ⟨rfl, rfl⟩)
  clear hmk
  have hrow := VRow.new w #[.int .u8 0] 5
  have hb : Below w.heap.size w (w.alloc (.cells #[.int .u8 0] 5)) := (Below.refl _ w).alloc (Nat.le_refl _) _
  go_loopw [25] (fun i wr => ∃ k : Nat, k ≤ 1 ∧ i = .int .i64 k ∧ VRow wr w.heap.size (bytes (putSt (be 1 n) k)) ∧ Below w.heap.size w wr) (fun i _ => 1 - (intOf i).toNat)
  case atStart => exact ⟨0, by omega, rfl, hrow, hb⟩
  case round =>
    clear hrow hb
    obtain ⟨k, hk, rfl, hR, hbr⟩ := hrel
    by_cases hlt : k < 1
    · skip
      obtain rfl : k = 0 := by omega
      have hc := hR.cell 0 (by simp [putSt, be])
      have hf := hR.free 0 (by simp [putSt, be])
      have hs := hR.set_ 0 (.int .u8 ((n : Int)))
      have hbs := hbr.setCell (p := ⟨w.heap.size, 0, none⟩) (Nat.le_refl _) (.int .u8 ((n : Int)))
      have HS := Lib.hid hs
      clear hs
      go_wp2_with fail
      refine ⟨⟨1, by omega, rfl, ?_, hbs⟩, by simp [intOf]⟩
      have := HS.out
      simpa [putSt, be, bytes] using this
    · obtain rfl : k = 1 := by omega
      go_wp2_with fail
      go_ret2
      exact ⟨_, _, rfl, hR.lies, hbr, by simp [be], by omega⟩

set_option maxRecDepth 100000 in
set_option maxHeartbeats 400000 in
theorem put2 (n : Nat) (hn : n < 65536) (w : World) : Calls Tryz.prog 105 #[.int .i64 (n : Int), .int .i64 2] w (VPost w (bytes (be 2 n)) 0) := by
  have hmk : ∀ w, Sem.run Tryz.prog (Instr.makeSlice 45 (.int .i64 2) (.int .i64 2)) w = .ok (.slice (some ⟨w.heap.size, 0, none⟩) 2 2) (w.alloc (.cells #[.int .u8 0, .int .u8 0] 5)) := fun _ => by kernel_rfl
  go_enter Tryz.func105, Tryz.ntmps105
  go_wp2_with (go_at_call 111; refine (sized_lit 2 _ (by omega)).mono ?_; rintro e w' ⟨rfl, rfl⟩)
  clear hmk
  have hrow := VRow.new w #[.int .u8 0, .int .u8 0] 5
  have hb : Below w.heap.size w (w.alloc (.cells #[.int .u8 0, .int .u8 0] 5)) := (Below.refl _ w).alloc (Nat.le_refl _) _
  go_loopw [25] (fun i wr => ∃ k : Nat, k ≤ 2 ∧ i = .int .i64 k ∧ VRow wr w.heap.size (bytes (putSt (be 2 n) k)) ∧ Below w.heap.size w wr) (fun i _ => 2 - (intOf i).toNat)
  case atStart => exact ⟨0, by omega, rfl, hrow, hb⟩
  case round =>
    clear hrow hb
    obtain ⟨k, hk, rfl, hR, hbr⟩ := hrel
    by_cases hlt : k < 2
    · skip
      have hk4 : k = 0 ∨ k = 1 := by omega
      rcases hk4 with rfl | rfl
      · have hc := hR.cell 1 (by simp [putSt, be])
        have hf := hR.free 1 (by simp [putSt, be])
        have hs := hR.set_ 1 (.int .u8 ((n : Int) % 256))
        have hbs := hbr.setCell (p := ⟨w.heap.size, 1, none⟩) (Nat.le_refl _) (.int .u8 ((n : Int) % 256))
        have HS := Lib.hid hs
        clear hs
        go_wp2_with fail
        refine ⟨⟨1, by omega, rfl, ?_, hbs⟩, by simp [intOf]⟩
        have := HS.out
        simpa [putSt, be, bytes] using this
      · have hc := hR.cell 0 (by simp [putSt, be])
        have hf := hR.free 0 (by simp [putSt, be])
        have hs := hR.set_ 0 (.int .u8 ((n : Int) / 256))
        have hbs := hbr.setCell (p := ⟨w.heap.size, 0, none⟩) (Nat.le_refl _) (.int .u8 ((n : Int) / 256))
        have HS := Lib.hid hs
        clear hs
        go_wp2_with fail
        refine ⟨⟨2, by omega, rfl, ?_, hbs⟩, by simp [intOf]⟩
        have := HS.out
        simpa [putSt, be, bytes] using this
    · obtain rfl : k = 2 := by omega
      go_wp2_with fail
      go_ret2
      exact ⟨_, _, rfl, hR.lies, hbr, by simp [be], by omega⟩

set_option maxRecDepth 100000 in
set_option maxHeartbeats 400000 in
theorem put4 (n : Nat) (hn : n < 4294967296) (w : World) : Calls Tryz.prog 105 #[.int .i64 (n : Int), .int .i64 4] w (VPost w (bytes (be 4 n)) 0) := by
  have hmk : ∀ w, Sem.run Tryz.prog (Instr.makeSlice 45 (.int .i64 4) (.int .i64 4)) w = .ok (.slice (some ⟨w.heap.size, 0, none⟩) 4 4) (w.alloc (.cells #[.int .u8 0, .int .u8 0, .int .u8 0, .int .u8 0] 5)) := fun _ => by kernel_rfl
  go_enter Tryz.func105, Tryz.ntmps105
  go_wp2_with (go_at_call 111; refine (sized_lit 4 _ (by omega)).mono ?_; rintro e w' ⟨rfl, rfl⟩)
  clear hmk
  have hrow := VRow.new w #[.int .u8 0, .int .u8 0, .int .u8 0, .int .u8 0] 5
  have hb : Below w.heap.size w (w.alloc (.cells #[.int .u8 0, .int .u8 0, .int .u8 0, .int .u8 0] 5)) := (Below.refl _ w).alloc (Nat.le_refl _) _
  go_loopw [25] (fun i wr => ∃ k : Nat, k ≤ 4 ∧ i = .int .i64 k ∧ VRow wr w.heap.size (bytes (putSt (be 4 n) k)) ∧ Below w.heap.size w wr) (fun i _ => 4 - (intOf i).toNat)
  case atStart => exact ⟨0, by omega, rfl, hrow, hb⟩
  case round =>
    clear hrow hb
    obtain ⟨k, hk, rfl, hR, hbr⟩ := hrel
    by_cases hlt : k < 4
    · skip
      have hk4 : k = 0 ∨ k = 1 ∨ k = 2 ∨ k = 3 := by omega
      rcases hk4 with rfl | rfl | rfl | rfl
      · have hc := hR.cell 3 (by simp [putSt, be])
        have hf := hR.free 3 (by simp [putSt, be])
        have hs := hR.set_ 3 (.int .u8 ((n : Int) % 256))
        have hbs := hbr.setCell (p := ⟨w.heap.size, 3, none⟩) (Nat.le_refl _) (.int .u8 ((n : Int) % 256))
        have HS := Lib.hid hs
        clear hs
        go_wp2_with fail
        refine ⟨⟨1, by omega, rfl, ?_, hbs⟩, by simp [intOf]⟩
        have := HS.out
        simpa [putSt, be, bytes] using this
      · have hc := hR.cell 2 (by simp [putSt, be])
        have hf := hR.free 2 (by simp [putSt, be])
        have hs := hR.set_ 2 (.int .u8 ((n : Int) / 256 % 256))
        have hbs := hbr.setCell (p := ⟨w.heap.size, 2, none⟩) (Nat.le_refl _) (.int .u8 ((n : Int) / 256 % 256))
        have HS := Lib.hid hs
        clear hs
        go_wp2_with fail
        refine ⟨⟨2, by omega, rfl, ?_, hbs⟩, by simp [intOf]⟩
        have := HS.out
        simpa [putSt, be, bytes] using this
      · have hc := hR.cell 1 (by simp [putSt, be])
        have hf := hR.free 1 (by simp [putSt, be])
        have hs := hR.set_ 1 (.int .u8 ((n : Int) / 65536 % 256))
        have hbs := hbr.setCell (p := ⟨w.heap.size, 1, none⟩) (Nat.le_refl _) (.int .u8 ((n : Int) / 65536 % 256))
        have HS := Lib.hid hs
        clear hs
        go_wp2_with fail
        refine ⟨⟨3, by omega, rfl, ?_, hbs⟩, by simp [intOf]⟩
        have := HS.out
        simpa [putSt, be, bytes] using this
      · have hc := hR.cell 0 (by simp [putSt, be])
        have hf := hR.free 0 (by simp [putSt, be])
        have hs := hR.set_ 0 (.int .u8 ((n : Int) / 16777216))
        have hbs := hbr.setCell (p := ⟨w.heap.size, 0, none⟩) (Nat.le_refl _) (.int .u8 ((n : Int) / 16777216))
        have HS := Lib.hid hs
        clear hs
        go_wp2_with fail
        refine ⟨⟨4, by omega, rfl, ?_, hbs⟩, by simp [intOf]⟩
        have := HS.out
        simpa [putSt, be, bytes] using this
    · obtain rfl : k = 4 := by omega
      go_wp2_with fail
      go_ret2
      exact ⟨_, _, rfl, hR.lies, hbr, by simp [be], by omega⟩


/-! ### numbers taken -/
theorem or_i64 (a b : Nat) (ha : a < 4294967296) (hb : b < 256) (hm : a % 256 = 0) : bits .or .i64 (a : Int) (b : Int) = ((a + b : Nat) : Int) := by
  rw [← nat_join 8 a b (by omega) (by omega)]
  have hx : a ||| b < 2 ^ 32 := Nat.or_lt_two_pow (by omega) (by omega)
  show IntKind.i64.wrap ((BitVec.ofInt 64 (a : Int) ||| BitVec.ofInt 64 (b : Int)).toNat : Int) = _
  rw [BitVec.toNat_or, BitVec.ofInt_natCast, BitVec.ofInt_natCast, BitVec.toNat_ofNat, BitVec.toNat_ofNat, Nat.mod_eq_of_lt (by omega), Nat.mod_eq_of_lt (by omega)]
  exact IntWalk.i64_in _ (by omega)
def ofBe (l : List Nat) : Nat := l.foldl (fun n b => n * 256 + b) 0
theorem ofBe_snoc (l : List Nat) (b : Nat) : ofBe (l ++ [b]) = ofBe l * 256 + b := by simp [ofBe]
theorem ofBe_lt : ∀ (k : Nat) (l : List Nat), l.length ≤ k → (∀ b ∈ l, b < 256) → ofBe l < 256 ^ k
  | 0, l, h, _ => by
    have : l = [] := List.length_eq_zero_iff.1 (by omega)
    subst this; simp [ofBe]
  | k + 1, l, h, hb => by
    rcases List.eq_nil_or_concat l with rfl | ⟨l', b, rfl⟩
    · simp only [ofBe, List.foldl_nil]; exact Nat.pow_pos (by omega)
    · rw [List.concat_eq_append, ofBe_snoc]
      have h1 := ofBe_lt k l' (by simp at h; omega) (fun x hx => hb x (by simp [hx]))
      have h2 := hb b (by simp)
      rw [Nat.pow_succ]
      omega
theorem ofBe_be1 {n : Nat} : ofBe (be 1 n) = n := by simp [ofBe, be]
theorem ofBe_be2 {n : Nat} : ofBe (be 2 n) = n := by simp only [ofBe, be, List.foldl_cons, List.foldl_nil]; omega
theorem ofBe_be4 {n : Nat} : ofBe (be 4 n) = n := by simp only [ofBe, be, List.foldl_cons, List.foldl_nil]; omega

set_option maxRecDepth 100000 in
set_option maxHeartbeats 400000 in
theorem take_any (A : Option Addr) (c : Nat) (l : List Nat) (size : Nat) (w : World) (hA : Lies w A (bytes l)) (hl : l.length ≤ 9223372036854775807) (hb : ∀ b ∈ l, b < 256) (hs : size = 1 ∨ size = 2 ∨ size = 4) (hsl : size ≤ l.length) :
    Calls Tryz.prog 79 #[.slice A l.length c, .int .i64 (size : Int)] w fun e w' => e = .returned (.tuple #[.int .i64 ((ofBe (l.take size) : Nat) : Int), .int .i64 0]) ∧ w = w' := by
  have hs4 : size ≤ 4 := by omega
  have hz := sized_lit (size : Int) w (by omega)
  have HZ := Lib.hid hz
  have HB := Lib.hid hb
  clear hz hs hb
  go_enter Tryz.func79, Tryz.ntmps79
  go_wp2_with (go_at_call 111; refine (HZ.out).mono ?_; rintro e w' ⟨rfl, rfl⟩)
  go_loop [4, 15] (fun n i => ∃ k v : Nat, k ≤ size ∧ i = .int .i64 k ∧ n = .int .i64 v ∧ Hid (v = ofBe (l.take k))) (fun _ i => size - (intOf i).toNat)
  case atStart => exact ⟨0, 0, by omega, rfl, rfl, Lib.hid (by simp [ofBe])⟩
  case round =>
    obtain ⟨k, v, hk, rfl, rfl, HV⟩ := hrel
    by_cases hlt : k < size
    · have hkl : k < l.length := by omega
      obtain ⟨b, off, rfl, hbk, hcell⟩ := hA.at_map hkl
      have hby := HB.out l[k] (List.getElem_mem hkl)
      have hnx : ofBe (l.take (k + 1)) = v * 256 + l[k] := by rw [List.take_succ_eq_append_getElem hkl, ofBe_snoc, ← HV.out]
      have hv : v < 256 ^ 3 := by
        rw [HV.out]
        refine ofBe_lt 3 _ (by simp; omega) (fun b hb => HB.out b (List.mem_of_mem_take hb))
      obtain ⟨y, hy⟩ : ∃ y, y = l[k] := ⟨_, rfl⟩
      rw [← hy] at hcell hby hnx
      have hor : bits .or .i64 ((v : Int) * 256) (y : Int) = (v : Int) * 256 + (y : Int) := by
        have := or_i64 (v * 256) y (by omega) hby (by omega)
        simpa using this
      have HNX := Lib.hid hnx
      have hv2 : v < 16777216 := hv
      clear hnx hy hv
      go_wp2_with fail
      refine ⟨⟨k + 1, v * 256 + y, by omega, by go_num, by simp, Lib.hid HNX.out.symm⟩, by simp [intOf]; omega⟩
    · obtain rfl : k = size := by omega
      go_wp2_with fail
      go_ret2
      have e := HV.out
      subst e
      exact ⟨rfl, rfl⟩
end Go.Proofs.YtpjoefekhgmlhaaGreat.Tp

namespace Go.Proofs.YtpjoefekhgmlhaaGreat.Tp
open Go.RowKit Mem

theorem be_len {size n : Nat} (h : size = 1 ∨ size = 2 ∨ size = 4) : (be size n).length = size := by rcases h with rfl | rfl | rfl <;> rfl
theorem be_lt {size n : Nat} (h : size = 1 ∨ size = 2 ∨ size = 4) (hn : n < 256 ^ size) : ∀ b ∈ be size n, b < 256 := by
  rcases h with rfl | rfl | rfl
  · simp [be]; omega
  · simp [be]; omega
  · simp [be]; omega
theorem put_any {size n : Nat} (h : size = 1 ∨ size = 2 ∨ size = 4) (hn : n < 256 ^ size) (w : World) : Calls Tryz.prog 105 #[.int .i64 (n : Int), .int .i64 (size : Int)] w (VPost w (bytes (be size n)) 0) := by
  rcases h with rfl | rfl | rfl
  · exact put1 n hn w
  · exact put2 n hn w
  · exact put4 n hn w
theorem bytes_one (l : List Nat) : ∀ u ∈ bytes l, u.oneCell' = true := by
  intro u hu
  obtain ⟨x, _, rfl⟩ := List.mem_map.1 hu
  rfl
def rowB (size : Nat) (l : List Nat) : List Nat := l.flatMap (be size)
theorem rowB_snoc (size : Nat) (l : List Nat) (x : Nat) : rowB size (l ++ [x]) = rowB size l ++ be size x := by simp [rowB]
theorem rowB_len {size : Nat} (h : size = 1 ∨ size = 2 ∨ size = 4) : ∀ l : List Nat, (rowB size l).length = l.length * size
  | [] => by simp [rowB]
  | x :: l => by
    have := rowB_len h l
    simp only [rowB, List.flatMap_cons, List.length_append, be_len h, List.length_cons] at this ⊢
    rw [this, Nat.add_mul]; omega

set_option maxRecDepth 100000 in
set_option maxHeartbeats 1000000 in
theorem row_bytes (A : Option Addr) (c : Nat) (l : List Nat) (size : Nat) (w : World) (hA : Lies w A (Gr.ints (l.map fun x : Nat => (x : Int)))) (hl : l.length ≤ 16) (hs : size = 1 ∨ size = 2 ∨ size = 4) (hb : ∀ x ∈ l, x < 256 ^ size) :
    Calls Tryz.prog 110 #[.int .i64 (size : Int), .slice A l.length c] w (VPost w (bytes (rowB size l)) 0) := by
  have hz := sized_lit (size : Int) w (by omega)
  obtain ⟨i0, hi, hz0, hz1, hz2⟩ := info_parts byte_info
  have hs4 : size ≤ 4 := by omega
  have hp := fun n (hn : n < 256 ^ size) W => put_any hs hn W
  have hbl := fun n => be_len (n := n) hs
  have hrl := fun k => rowB_len hs (l.take k)
  have HZ := Lib.hid hz
  have HB := Lib.hid hb
  have HP := Lib.hid hp
  have HBL := Lib.hid hbl
  have HRL := Lib.hid hrl
  clear hz hs hb hp hbl hrl
  go_enter Tryz.func110, Tryz.ntmps110
  go_wp2_with (go_at_call 111; refine (HZ.out).mono ?_; rintro e w' ⟨rfl, rfl⟩)
  go_loopw [6, 16] (fun s i wr => ∃ k : Nat, k ≤ l.length ∧ i = .int .i64 k ∧ wr.ownsRow w.heap.size 5 1 s (k * size) (bytes (rowB size (l.take k))) ∧ Below w.heap.size w wr) (fun _ i _ => l.length - (intOf i).toNat)
  case atStart => exact ⟨0, by omega, rfl, by rw [Nat.zero_mul]; exact World.ownsRow_nil _ _ _ _, Below.refl _ _⟩
  case round =>
    obtain ⟨k, hk, rfl, hown, hbr⟩ := hrel
    obtain ⟨A5, m5, rfl, hm1, hm2⟩ := own_form hown
    have hks : k * size ≤ 64 := Nat.le_trans (Nat.mul_le_mul (show k ≤ 16 by omega) hs4) (by omega)
    by_cases hlt : k < l.length
    · obtain ⟨b, off, rfl, hb, hcell0⟩ := hA.at_map (show k < (l.map fun x : Nat => (x : Int)).length by simpa using hlt)
      have hcell := (hbr.cell (p := ⟨b, off + k, none⟩) hb).trans hcell0
      rw [List.getElem_map] at hcell
      have hx := HB.out l[k] (List.getElem_mem hlt)
      have hnx : rowB size (l.take (k + 1)) = rowB size (l.take k) ++ be size l[k] := by rw [List.take_succ_eq_append_getElem hlt, rowB_snoc]
      obtain ⟨x, hxe⟩ : ∃ x, x = l[k] := ⟨_, rfl⟩
      rw [← hxe] at hcell hx hnx
      have hput := HP.out x hx wr
      have hbl := HBL.out x
      have HNX := Lib.hid hnx
      have HPUT := Lib.hid hput
      have HB2 := Lib.hid hbl
      have hsz := hbr.size
      have hrow : ∀ g, (Value.slice A5 (k * size) m5).ownBlock = some g → w.heap.size ≤ g ∧ g < wr.heap.size := fun g h => hown.lt g h
      have HROW := Lib.hid hrow
      clear hnx hxe hput hbl hx hcell0 hrow
      go_wp2_with fail
      refine (HPUT.out).mono ?_
      rintro e w2 ⟨R, m2, rfl, hL, hb2, _, _⟩
      have hown2 := own_below hown hb2
      have hs2 : w.heap.size ≤ w2.heap.size := Nat.le_trans hsz hb2.size
      have hlen : (bytes (be size x)).length = size := by rw [List.length_map, HB2.out]
      rw [hlen]
      have HLEN := Lib.hid hlen
      clear hlen
      go_wp2_with (at_builtin; refine wpList_append_lies _ rfl (.tmp 29) (.tmp 30) _ rfl w.heap.size 5 i0 _ 1 1 Tryz.underlying45 hi hz0 hz1 hz2 rfl (by omega) (.slice A5 (k * size) m5) (k * size) _ rfl hown2 R size m2 (bytes (be size x)) rfl (by rw [HLEN.out, Nat.mul_one]) hL (bytes_one _) (by simp only [maxLen]; omega) (by omega) hs2 ?_; intro v3 w3 hown3 hg3 hat3)
      have hb3 : Below w.heap.size w w3 := (hbr.trans (hb2.mono hsz)).grown hg3 hs2 (fun g h => (HROW.out g h).1)
      go_roundw
      case rel => exact ⟨k + 1, by omega, by go_num, by rw [HNX.out, Nat.add_mul, Nat.one_mul, bytes, List.map_append]; exact hown3, hb3⟩
      case measure => simp [intOf]; omega
    · obtain rfl : k = l.length := by omega
      go_wp2_with fail
      go_ret2
      rw [List.take_of_length_le (Nat.le_refl _)] at hown
      have hrl := HRL.out l.length
      rw [List.take_of_length_le (Nat.le_refl _)] at hrl
      exact ⟨A5, m5, Gr.tup_ret (by rw [List.length_map, hrl]), .of_own hown, hbr, by rw [List.length_map, hrl]; exact hm1, hm2⟩
end Go.Proofs.YtpjoefekhgmlhaaGreat.Tp
