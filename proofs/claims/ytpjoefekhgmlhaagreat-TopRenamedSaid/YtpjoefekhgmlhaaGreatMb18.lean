/- CONTRACTS of cert.loopFree and cert.May, of certificates that may be for some number of nodes. · CONTRACT of certfile.Put, of certificates that may be. Conditions: at most 1000000 bytes. · CONTRACT of certfile.Put: the walk. · CONTRACTS of certfile's reader: num, group, count, of bytes that hold what is taken. -/
import Derived.Test.YtpjoefekhgmlhaaGreatMb17
import Derived.Test.YtpjoefekhgmlhaaGreatMb16
namespace Go.Proofs.YtpjoefekhgmlhaaGreat.Tp
open Go.RowKit Mem

/-- Parts that may be: they meet; of n nodes each a rank, below n. -/
structure PartsOk (n : Nat) (ps : List PartT) : Prop where
  meets : Meets ps
  len : ∀ p ∈ ps, p.ranks.length = n
  rank : ∀ p ∈ ps, ∀ x ∈ p.ranks, x < n
theorem outB_all {n : Nat} {l : List Nat} (h : ∀ x ∈ l, x < n) : outB n l = false := outB_of fun _ hi => h _ (List.getElem_mem hi)

set_option maxRecDepth 100000 in
set_option maxHeartbeats 2000000 in
theorem loopFree_any (f : Value) (A B : Option Addr) (cA cB n nodes : Nat) (ps : List PartT) (w : World) (hf : OutFn w f nodes) (hA : PartsAt w A ps) (h : PartsOk n ps) (hn : n ≤ 256) :
    Calls Tryz.prog 58 #[.agg #[.int .i64 1, .slice A ps.length cA, .int .u32 0, .slice B 0 cB], .int .i64 (nodes : Int), f] w fun e w' => e = .returned (.int .i64 (if n = nodes then 0 else 1)) ∧ Below w.heap.size w w' := by
  have h0 := h.meets.some_
  have hfew := h.meets.few
  have hmt := fun W hW => meet_any A cA ps W hW h.meets
  have hb0 : Below w.heap.size w (w.alloc (.cells #[.int .i64 1, .slice A ps.length cA, .int .u32 0, .slice B 0 cB] 31)) := (Below.refl _ _).alloc (Nat.le_refl _) _
  have HB0 := Lib.hid hb0
  have HMT := Lib.hid hmt
  have H := Lib.hid h
  have HA := Lib.hid hA
  have HF := Lib.hid hf
  obtain ⟨r, hr0⟩ : ∃ r : Int, r = if n = nodes then 0 else 1 := ⟨_, rfl⟩
  rw [← hr0]
  have HRR := Lib.hid hr0
  clear h hmt hb0 hA hf hr0
  go_enter Tryz.func58, Tryz.ntmps58
  go_wp2_with fail
  refine (HMT.out _ (HA.out.below HB0.out)).mono ?_
  rintro e w2 ⟨rfl, hb2⟩
  have hx1 := box_cell w w2 31 #[.int .i64 1, .slice A ps.length cA, .int .u32 0, .slice B 0 cB] hb2 1 _ rfl
  have hb2w := HB0.out.trans (hb2.mono HB0.out.size)
  have HB2 := Lib.hid hb2w
  clear hb2 hb2w HMT HB0
  go_wp2_with fail
  by_cases hnn : n = nodes
  · subst hnn
    go_loopw [32] (fun i wr => ∃ k : Nat, k ≤ ps.length ∧ i = .int .i64 k ∧ Below w.heap.size w wr) (fun i _ => ps.length - (intOf i).toNat)
    case atStart => exact ⟨0, by omega, rfl, HB2.out⟩
    case round =>
      obtain ⟨k, hk, rfl, hbr⟩ := hrel
      by_cases hlt : k < ps.length
      · obtain ⟨b, off, R, cR, hAe, hb, hc0, hc1, hc2, hr, -⟩ := HA.out.at_ hlt
        have hk0 := (hbr.cell (p := ⟨b, off + k * 3, none⟩) hb).trans hc0
        have hk1 := (hbr.cell (p := ⟨b, off + k * 3 + 1, none⟩) hb).trans hc1
        have hk2 := (hbr.cell (p := ⟨b, off + k * 3 + 2, none⟩) hb).trans hc2
        have hmem := List.getElem_mem hlt
        have hlen := H.out.len _ hmem
        have hout := outB_all (H.out.rank _ hmem)
        obtain ⟨p, hp⟩ : ∃ p, p = ps[k] := ⟨_, rfl⟩
        rw [← hp] at hk0 hk1 hk2 hlen hout hr
        have hco := fun W (hW : Below w.heap.size w W) => contains_any f R cR n p.ranks W (HF.out.below hW) (hr.below hW) (by omega)
        rw [hout] at hco
        rw [hlen] at hk2 hco
        have hbb : Below w.heap.size w (wr.alloc (.cells #[.int .u32 (p.f : Int), .int .u32 (p.t : Int), .slice R n cR] 51)) := hbr.alloc hbr.size _
        have HCO := Lib.hid hco
        have HBB := Lib.hid hbb
        have t1 : ((n : Int) != (n : Int)) = false := by simp
        clear hc0 hc1 hc2 hr hmem hlen hout hp hco hbb hbr
        subst hAe
        go_wp2_with fail
        refine (HCO.out _ HBB.out).mono ?_
        rintro e w3 ⟨rfl, rfl⟩
        go_wp2_with fail
        refine ⟨⟨k + 1, by omega, by go_num, HBB.out⟩, by simp [intOf]; omega⟩
      · go_wp2_with fail
        go_ret
        exact ⟨ret_int (by rw [HRR.out]; simp), hbr⟩
  · have t1 : ((n : Int) != (nodes : Int)) = true := by simp; omega
    have HNN := Lib.hid hnn
    clear hnn
    go_loopw [32] (fun i wr => i = .int .i64 0 ∧ Below w.heap.size w wr) (fun i _ => 0)
    case atStart => exact ⟨rfl, HB2.out⟩
    case round =>
      obtain ⟨rfl, hbr⟩ := hrel
      obtain ⟨b, off, R, cR, hAe, hb, hc0, hc1, hc2, hr, -⟩ := HA.out.at_ h0
      have hk0 := (hbr.cell (p := ⟨b, off + 0 * 3, none⟩) hb).trans hc0
      have hk1 := (hbr.cell (p := ⟨b, off + 0 * 3 + 1, none⟩) hb).trans hc1
      have hk2 := (hbr.cell (p := ⟨b, off + 0 * 3 + 2, none⟩) hb).trans hc2
      have hlen := H.out.len _ (List.getElem_mem h0)
      rw [hlen] at hk2
      rw [Nat.zero_mul, Nat.add_zero] at hk0 hk1 hk2
      have hbb := fun o => hbr.alloc hbr.size o
      have HBB := Lib.hid hbb
      clear hc0 hc1 hc2 hr hlen hbb hbr
      subst hAe
      go_wp2_with fail
      go_ret
      exact ⟨ret_int (by rw [HRR.out, if_neg HNN.out]), HBB.out _⟩

/-- A certificate, as numbers. -/
structure CertT where
  verdict : Nat
  parts : List PartT
  dest : Nat
  trace : List Nat
/-- A value that reads as a certificate. -/
def CertAt (w : World) (v : Value) (c : CertT) : Prop := ∃ A B cA cB, v = .agg #[.int .i64 (c.verdict : Int), .slice A c.parts.length cA, .int .u32 (c.dest : Int), .slice B c.trace.length cB] ∧ PartsAt w A c.parts ∧ Lies w B (nums c.trace)
theorem CertAt.below {w w' : World} {v : Value} {c : CertT} (h : CertAt w v c) (hb : Below w.heap.size w w') : CertAt w' v c := by
  obtain ⟨A, B, cA, cB, e, h1, h2⟩ := h
  exact ⟨A, B, cA, cB, e, h1.below hb, h2.below hb⟩
/-- A certificate that may be, of a network of n nodes. -/
def CertOk (n : Nat) (c : CertT) : Prop := (c.verdict = 1 ∧ PartsOk n c.parts ∧ c.dest = 0 ∧ c.trace = []) ∨ (c.verdict = 2 ∧ c.parts = [] ∧ c.dest < 4294967296 ∧ TraceOk c.trace ∧ c.trace.length ≤ n ∧ ∀ x ∈ c.trace, x < n)
/-- What cert.May tells of it, for another number of nodes. -/
def cmayE (n nodes : Nat) (c : CertT) : Int := if c.verdict = 1 then (if n = nodes then 0 else 1) else loopsE nodes c.trace
theorem cmayE_self {n : Nat} {c : CertT} (h : CertOk n c) : cmayE n n c = 0 := by
  rcases h with ⟨h1, _⟩ | ⟨h1, _, _, _, h2, h3⟩
  · unfold cmayE; rw [if_pos h1, if_pos rfl]
  · unfold cmayE loopsE
    rw [if_neg (by omega), if_neg (by omega), outB_all h3]; rfl
set_option maxHeartbeats 1000000 in
theorem cmay_any (v : Value) (n nodes : Nat) (c : CertT) (w : World) (hv : CertAt w v c) (h : CertOk n c) (hn : n ≤ 256) :
    Calls Tryz.prog 24 #[v, .int .i64 (nodes : Int)] w fun e w' => e = .returned (.int .i64 (cmayE n nodes c)) ∧ Below w.heap.size w w' := by
  obtain ⟨A, B, cA, cB, rfl, hA, hB⟩ := hv
  have hb0 : Below w.heap.size w ((w.alloc (.cells #[.int .i64 (c.verdict : Int), .slice A c.parts.length cA, .int .u32 (c.dest : Int), .slice B c.trace.length cB] 31)).alloc (.cells #[.int .i64 (nodes : Int)] 3)) := ((Below.refl _ _).alloc (Nat.le_refl _) _).alloc (by simp) _
  have hof : OutFn ((w.alloc (.cells #[.int .i64 (c.verdict : Int), .slice A c.parts.length cA, .int .u32 (c.dest : Int), .slice B c.trace.length cB] 31)).alloc (.cells #[.int .i64 (nodes : Int)] 3)) (.func (.func 57) #[] #[.pointer (some ⟨w.heap.size + 1, 0, none⟩)]) nodes := by
    refine ⟨w.heap.size + 1, rfl, by simp, ?_⟩
    simp
  rcases h with ⟨h1, h2, h3, h4⟩ | ⟨h1, h2, h3, h4, h5, h6⟩
  · have hc := fun W h1 h2 => loopFree_any (.func (.func 57) #[] #[.pointer (some ⟨w.heap.size + 1, 0, none⟩)]) A B cA cB n nodes c.parts W h1 h2 (by assumption) hn
    have e : cmayE n nodes c = if n = nodes then 0 else 1 := by unfold cmayE; rw [if_pos h1]
    rw [e]
    have hl : c.trace.length = 0 := by rw [h4]; rfl
    rw [h1, h3, hl] at hb0 hof ⊢
    generalize (if n = nodes then (0 : Int) else 1) = r at *
    have HC := Lib.hid hc
    have HB0 := Lib.hid hb0
    have HOF := Lib.hid hof
    have HA := Lib.hid hA
    clear hc hb0 hof h2 e h1 h3 h4 hl hA hB
    go_enter Tryz.func24, Tryz.ntmps24
    go_wp2_with fail
    refine (HC.out _ HOF.out (HA.out.below HB0.out)).mono ?_
    rintro e w2 ⟨rfl, hb2⟩
    go_wp2_with fail
    go_ret
    exact ⟨rfl, HB0.out.trans (hb2.mono HB0.out.size)⟩
  · have hc := fun W h1 h2 => loops_any (.func (.func 57) #[] #[.pointer (some ⟨w.heap.size + 1, 0, none⟩)]) A B cA cB c.dest nodes c.trace W h1 h2 h4
    have e : cmayE n nodes c = loopsE nodes c.trace := by unfold cmayE; rw [if_neg (by omega)]
    rw [e]
    have hl : c.parts.length = 0 := by rw [h2]; rfl
    rw [h1, hl] at hb0 hof ⊢
    generalize loopsE nodes c.trace = r at *
    have HC := Lib.hid hc
    have HB0 := Lib.hid hb0
    have HOF := Lib.hid hof
    have HB := Lib.hid hB
    clear hc hb0 hof h2 e h1 h3 h4 hl hA hB h5 h6
    go_enter Tryz.func24, Tryz.ntmps24
    go_wp2_with fail
    refine (HC.out _ HOF.out (HB.out.below HB0.out)).mono ?_
    rintro e w2 ⟨rfl, hb2⟩
    go_wp2_with fail
    go_ret
    exact ⟨rfl, HB0.out.trans (hb2.mono HB0.out.size)⟩
end Go.Proofs.YtpjoefekhgmlhaaGreat.Tp

namespace Go.Proofs.YtpjoefekhgmlhaaGreat.Tp
open Go.RowKit Mem

theorem WAt.len {base : Nat} {W : World} {g : Nat} {S : Option Addr} {n cp : Nat} {xs : List Nat} (h : WAt base W g S n cp xs) : n = xs.length := by
  have := h.own.1; rw [bytes_len] at this; omega
theorem WAt.ownLow {base : Nat} {W : World} {g : Nat} {S : Option Addr} {n cp : Nat} {xs : List Nat} (h : WAt base W g S n cp xs) : ∀ b, (Value.slice S n cp).ownBlock = some b → base ≤ b ∧ b < W.heap.size := fun b hb => h.own.lt b hb
theorem rowB_one (size x : Nat) : rowB size [x] = be size x := by simp [rowB]
theorem rowB_two (size x y : Nat) : rowB size [x, y] = be size x ++ be size y := by simp [rowB]
theorem nums_ints (l : List Nat) : Gr.ints (l.map fun x : Nat => (x : Int)) = nums l := by simp [Gr.ints]
theorem wnum1 (base g : Nat) (S : Option Addr) (n cp : Nat) (xs : List Nat) (x size : Nat) (W : World) (hW : WAt base W g S n cp xs) (hs : size = 1 ∨ size = 2 ∨ size = 4) (hb : x < 256 ^ size) (hx : xs.length ≤ 10000000) :
    Calls Tryz.prog 75 #[.pointer (some ⟨g, 0, none⟩), .int .i64 (size : Int), .slice (some ⟨W.heap.size, 0, none⟩) 1 1] (W.alloc (.cells #[.int .i64 (x : Int)] 3)) (WPost base W g (Value.slice S n cp).ownBlock (xs ++ be size x)) := by
  have hal : Below W.heap.size W (W.alloc (.cells #[.int .i64 (x : Int)] 3)) := (Below.refl _ _).alloc (Nat.le_refl _) _
  have := wnum_any base g S n cp xs (some ⟨W.heap.size, 0, none⟩) 1 [x] size _ (hW.below hal) (Lies.new W #[.int .i64 (x : Int)] 3) (by simp) hs (by simpa using hb) (by rw [hW.len]; exact hx)
  rw [rowB_one] at this
  exact this.mono fun _ _ ⟨S', n', cp', h1, h2, h3⟩ => ⟨S', n', cp', h1, h2, (Near.of_below hal).trans h3⟩
theorem wnum2 (base g : Nat) (S : Option Addr) (n cp : Nat) (xs : List Nat) (x y size : Nat) (W : World) (hW : WAt base W g S n cp xs) (hs : size = 1 ∨ size = 2 ∨ size = 4) (hb : x < 256 ^ size) (hb2 : y < 256 ^ size) (hx : xs.length ≤ 10000000) :
    Calls Tryz.prog 75 #[.pointer (some ⟨g, 0, none⟩), .int .i64 (size : Int), .slice (some ⟨W.heap.size, 0, none⟩) 2 2] (W.alloc (.cells #[.int .i64 (x : Int), .int .i64 (y : Int)] 3)) (WPost base W g (Value.slice S n cp).ownBlock (xs ++ (be size x ++ be size y))) := by
  have hal : Below W.heap.size W (W.alloc (.cells #[.int .i64 (x : Int), .int .i64 (y : Int)] 3)) := (Below.refl _ _).alloc (Nat.le_refl _) _
  have := wnum_any base g S n cp xs (some ⟨W.heap.size, 0, none⟩) 2 [x, y] size _ (hW.below hal) (Lies.new W #[.int .i64 (x : Int), .int .i64 (y : Int)] 3) (by simp) hs (by simp; exact ⟨hb, hb2⟩) (by rw [hW.len]; exact hx)
  rw [rowB_two] at this
  exact this.mono fun _ _ ⟨S', n', cp', h1, h2, h3⟩ => ⟨S', n', cp', h1, h2, (Near.of_below hal).trans h3⟩
theorem wgroup1 (base g : Nat) (S : Option Addr) (n cp : Nat) (xs : List Nat) (x : Nat) (W : World) (hW : WAt base W g S n cp xs) (hb : x < 16384) (hx : xs.length ≤ 10000000) :
    Calls Tryz.prog 76 #[.pointer (some ⟨g, 0, none⟩), .slice (some ⟨W.heap.size, 0, none⟩) 1 1] (W.alloc (.cells #[.int .i64 (x : Int)] 3)) (WPost base W g (Value.slice S n cp).ownBlock (xs ++ gp x)) := by
  have hal : Below W.heap.size W (W.alloc (.cells #[.int .i64 (x : Int)] 3)) := (Below.refl _ _).alloc (Nat.le_refl _) _
  have hg := hW.row.lt
  have := wgroup_any base g S n cp xs (some ⟨W.heap.size, 0, none⟩) 1 [x] _ (hW.below hal) ⟨Lies.new W #[.int .i64 (x : Int)] 3, fun _ a ha e => by
      injection ha with ha
      rw [← ha] at e
      have := (hW.ownLow _ e).2
      exact absurd this (Nat.lt_irrefl _)⟩ (fun _ a ha e => by
      injection ha with ha
      rw [← ha] at e
      have : W.heap.size = g := e
      omega) (by simp) (by simpa using hb) (by rw [hW.len]; exact hx)
  rw [show [x].flatMap gp = gp x by simp] at this
  exact this.mono fun _ _ ⟨S', n', cp', h1, h2, h3⟩ => ⟨S', n', cp', h1, h2, (Near.of_below hal).trans h3⟩
/-- Numbers of a slice that lies below the base. -/
theorem wgroupL (base g : Nat) (S : Option Addr) (n cp : Nat) (xs : List Nat) (A : Option Addr) (c : Nat) (l : List Nat) (W W0 : World) (hW : WAt base W g S n cp xs) (hA : Lies W0 A (nums l)) (hB : Below W0.heap.size W0 W) (hbase : W0.heap.size ≤ base) (hl : l.length ≤ 10000) (hb : ∀ x ∈ l, x < 16384) (hx : xs.length ≤ 10000000) :
    Calls Tryz.prog 76 #[.pointer (some ⟨g, 0, none⟩), .slice A l.length c] W (WPost base W g (Value.slice S n cp).ownBlock (xs ++ l.flatMap gp)) := by
  have hblk : 0 < l.length → ∀ a, A = some a → a.block < W0.heap.size := fun h0 a ha => by
    obtain ⟨b, off, e, hlt, _⟩ := hA (by simpa using h0)
    rw [ha] at e
    injection e with e
    rw [e]; exact hlt
  have hlow := hW.low
  exact wgroup_any base g S n cp xs A c l W hW ⟨by rw [nums_ints]; exact hA.below hB, fun h0 a ha e => by
    have h1 := hblk (by simpa [Gr.ints] using h0) a ha
    have h2 := (hW.ownLow _ e).1
    omega⟩ (fun h0 a ha e => by
    have h1 := hblk h0 a ha
    omega) hl hb (by rw [hW.len]; exact hx)

/-- A certificate's bytes, between magic and sum. -/
def partB (p : PartT) : List Nat := (be 4 p.f ++ be 4 p.t) ++ p.ranks.flatMap gp
def headB (n : Nat) (c : CertT) : List Nat := be 1 c.verdict ++ gp n
def partsUpto (n : Nat) (c : CertT) (k : Nat) : List Nat := headB n c ++ gp c.parts.length ++ (c.parts.take k).flatMap partB
def certIn (n : Nat) (c : CertT) : List Nat := if c.verdict = 1 then headB n c ++ gp c.parts.length ++ c.parts.flatMap partB else headB n c ++ be 4 c.dest ++ gp c.trace.length ++ c.trace.flatMap gp
def certB (n : Nat) (c : CertT) : List Nat := frameB 1129468977 (certIn n c)
theorem partsUpto_next {n : Nat} {c : CertT} {k : Nat} (h : k < c.parts.length) : partsUpto n c (k + 1) = (partsUpto n c k ++ (be 4 c.parts[k].f ++ be 4 c.parts[k].t)) ++ c.parts[k].ranks.flatMap gp := by
  unfold partsUpto
  rw [List.take_succ_eq_append_getElem h, List.flatMap_append]
  simp [partB]
theorem partsUpto_all (n : Nat) (c : CertT) (h : c.verdict = 1) : partsUpto n c c.parts.length = certIn n c := by
  unfold partsUpto certIn; rw [List.take_of_length_le (Nat.le_refl _), if_pos h]
theorem partsUpto_few {n : Nat} {c : CertT} (hv : c.verdict = 1) {M : Nat} (h : (certIn n c).length ≤ M) (k : Nat) : (partsUpto n c k).length ≤ M := by
  have e : certIn n c = partsUpto n c k ++ (c.parts.drop k).flatMap partB := by
    unfold certIn partsUpto
    rw [if_pos hv, List.append_assoc _ ((c.parts.take k).flatMap partB), ← List.flatMap_append, List.take_append_drop]
  rw [e, List.length_append] at h
  omega
theorem be_lt' {size n : Nat} (h : size = 1 ∨ size = 2 ∨ size = 4) (hn : n < 256 ^ size) : ∀ b ∈ be size n, b < 256 := be_lt h hn
theorem flat_gp_lt {l : List Nat} (h : ∀ x ∈ l, x < 16384) : ∀ b ∈ l.flatMap gp, b < 256 := fun b hb => by
  obtain ⟨x, hx, hb⟩ := List.mem_flatMap.1 hb
  exact gp_lt (h x hx) b hb
theorem certIn_lt {n : Nat} {c : CertT} (h : CertOk n c) (hn : n ≤ 256) : ∀ b ∈ certIn n c, b < 256 := by
  intro b hb
  have hhead : c.verdict < 256 → ∀ b ∈ headB n c, b < 256 := fun hv b hb => by
    unfold headB at hb
    rcases List.mem_append.1 hb with hb | hb
    · exact be_lt (by omega) (by omega) b hb
    · exact gp_lt (by omega) b hb
  rcases h with ⟨e1, hps, -, -⟩ | ⟨e1, -, hd, htr, hln, hlt⟩
  · unfold certIn at hb
    rw [if_pos e1] at hb
    rcases List.mem_append.1 hb with hb | hb
    · rcases List.mem_append.1 hb with hb | hb
      · exact hhead (by omega) b hb
      · have := hps.meets.few; exact gp_lt (by omega) b hb
    · obtain ⟨p, hp, hb⟩ := List.mem_flatMap.1 hb
      have hnum := hps.meets.num p hp
      unfold partB at hb
      rcases List.mem_append.1 hb with hb | hb
      · rcases List.mem_append.1 hb with hb | hb
        · exact be_lt (by omega) (by omega) b hb
        · exact be_lt (by omega) (by omega) b hb
      · exact flat_gp_lt (fun x hx => by have := hps.rank p hp x hx; omega) b hb
  · unfold certIn at hb
    rw [if_neg (by omega)] at hb
    rcases List.mem_append.1 hb with hb | hb
    · rcases List.mem_append.1 hb with hb | hb
      · rcases List.mem_append.1 hb with hb | hb
        · exact hhead (by omega) b hb
        · exact be_lt (by omega) (by omega) b hb
      · exact gp_lt (by omega) b hb
    · exact flat_gp_lt (fun x hx => by have := hlt x hx; omega) b hb
end Go.Proofs.YtpjoefekhgmlhaaGreat.Tp

namespace Go.Proofs.YtpjoefekhgmlhaaGreat.Tp
open Go.RowKit Mem

set_option maxRecDepth 100000 in
set_option maxHeartbeats 4000000 in
theorem cput_any (n : Nat) (v : Value) (c : CertT) (w : World) (hv : CertAt w v c) (h : CertOk n c) (hn : n ≤ 256) (hM : (certIn n c).length ≤ 1000000) :
    Calls Tryz.prog 34 #[v, .int .i64 (n : Int)] w (VPost w (bytes (certB n c)) 0) := by
  have hcm := fun W (hW : Below w.heap.size w W) => cmay_any v n n c W (hv.below hW) h hn
  rw [cmayE_self h] at hcm
  obtain ⟨A, B, cA, cB, rfl, hA, hB⟩ := hv
  obtain ⟨wa, hwa⟩ : ∃ wa, wa = w.alloc (.cells #[.int .i64 (c.verdict : Int), .slice A c.parts.length cA, .int .u32 (c.dest : Int), .slice B c.trace.length cB] 31) := ⟨_, rfl⟩
  have sa : wa.heap.size = w.heap.size + 1 := by rw [hwa]; simp
  have ba : Below w.heap.size w wa := by rw [hwa]; exact (Below.refl _ _).alloc (Nat.le_refl _) _
  have hz : ∀ i u, #[.int .i64 (c.verdict : Int), .slice A c.parts.length cA, .int .u32 (c.dest : Int), .slice B c.trace.length cB][i]? = some u → wa.cell? ⟨w.heap.size, i, none⟩ = some u := fun i u hu => by
    rw [hwa, cell_of_row _ _ i _ _ (0, 0) (heap_alloc_new w _)]; exact hu
  have hcma := hcm wa ba
  have hfp := fun B k W (hB : Lies W B (bytes (certIn n c))) => fput_any B k (certIn n c) 1129468977 W (by omega) hB (certIn_lt h hn) hM
  have hcb : frameB 1129468977 (certIn n c) = certB n c := rfl
  rw [hcb] at hfp
  have t0 : decide ((n : Int) < 0) = false := by rw [decide_eq_false_iff_not]; omega
  have t1 : decide ((n : Int) > 256) = false := by rw [decide_eq_false_iff_not]; omega
  obtain ⟨cin, hcin⟩ : ∃ cin, cin = certIn n c := ⟨_, rfl⟩
  rw [← hcin] at hfp hM
  have HW := Lib.hid hwa
  have HCM := Lib.hid hcma
  have HFP := Lib.hid hfp
  have HBA := Lib.hid ba
  have HZ := Lib.hid hz
  have HCIN := Lib.hid hcin
  have HOK := Lib.hid h
  have HA := Lib.hid hA
  have HB := Lib.hid hB
  clear hcm hwa hcma ba hz hfp hcb hcin h hA hB
  go_enter Tryz.func34, Tryz.ntmps34
  go_wp2_with fail
  rw [← HW.out]
  refine (HCM.out).mono ?_
  rintro e w2 ⟨rfl, hb2⟩
  have hbw2 := HBA.out.trans (hb2.mono HBA.out.size)
  have g2 : w.heap.size < w2.heap.size := by have := hb2.size; omega
  have HZ2 : Hid (∀ W, Below w2.heap.size w2 W → W.cell? ⟨w.heap.size, 0, none⟩ = some (.int .i64 (c.verdict : Int)) ∧ W.cell? ⟨w.heap.size, 1, none⟩ = some (.slice A c.parts.length cA) ∧ W.cell? ⟨w.heap.size, 2, none⟩ = some (.int .u32 (c.dest : Int)) ∧ W.cell? ⟨w.heap.size, 3, none⟩ = some (.slice B c.trace.length cB)) := Lib.hid fun W hW => by
    have hx := fun i u hu => ((hW.cell (p := ⟨w.heap.size, i, none⟩) g2).trans (hb2.cell (p := ⟨w.heap.size, i, none⟩) (by show w.heap.size < wa.heap.size; omega))).trans (HZ.out i u hu)
    exact ⟨hx 0 _ rfl, hx 1 _ rfl, hx 2 _ rfl, hx 3 _ rfl⟩
  obtain ⟨w3, hw3⟩ : ∃ w3, w3 = w2.alloc (.cells #[.slice none 0 0, .int .i64 0] 140) := ⟨_, rfl⟩
  have h3 : Below w2.heap.size w2 w3 := by rw [hw3]; exact (Below.refl _ _).alloc (Nat.le_refl _) _
  have hwt3 : WAt w2.heap.size w3 w2.heap.size none 0 0 [] := ⟨by rw [hw3]; exact VRow.new w2 #[.slice none 0 0, .int .i64 0] _, World.ownsRow_nil _ _ _ _, Nat.le_refl _, fun e => by cases e⟩
  obtain ⟨hx0, hx1, hx2, hx3⟩ := HZ2.out w2 (Below.refl _ _)
  have hv1 : c.verdict < 256 := by rcases HOK.out with ⟨e1, _⟩ | ⟨e1, _⟩ <;> omega
  have hw1 := wnum1 w2.heap.size w2.heap.size none 0 0 [] c.verdict 1 w3 hwt3 (by omega) (by omega) (by simp)
  have s3 : w3.heap.size = w2.heap.size + 1 := by rw [hw3]; simp
  rw [s3] at hw1
  have HW3 := Lib.hid hw3
  have HB2 := Lib.hid hbw2
  have H3 := Lib.hid h3
  have HW1 := Lib.hid hw1
  clear hb2 hbw2 hw3 h3 hwt3 hw1 hv1 s3 HCM HW HZ HBA
  go_wp2_with fail
  rw [← HW3.out]
  clear hx0 hx1 hx2 hx3
  refine (HW1.out).mono ?_
  rintro e w4 ⟨S4, n4, c4, rfl, hW4, hN4⟩
  have H4 : Hid (Below w2.heap.size w2 w4) := Lib.hid (H3.out.trans (hN4.below (Nat.le_refl _) (fun b hb => by cases hb) H3.out.size))
  have hw := wgroup1 w2.heap.size w2.heap.size S4 n4 c4 _ n w4 hW4 (by omega) (by simp [be])
  have HWG := Lib.hid hw
  have hl4 := hW4.ownLow
  have HO4 := Lib.hid hl4
  obtain ⟨hx0, hx1, hx2, hx3⟩ := HZ2.out w4 H4.out
  clear hN4 hW4 hw HW1 H3 hl4
  go_wp2_with fail
  clear hx0 hx1 hx2 hx3
  refine (HWG.out).mono ?_
  rintro e w5 ⟨S5, n5, c5, rfl, hW5, hN5⟩
  have H5 : Hid (Below w2.heap.size w2 w5) := Lib.hid (H4.out.trans (hN5.below (Nat.le_refl _) (fun b hb => (HO4.out b hb).1) H4.out.size))
  have hhd : [] ++ be 1 c.verdict ++ gp n = headB n c := rfl
  rw [hhd] at hW5
  clear hhd
  obtain ⟨hx0, hx1, hx2, hx3⟩ := HZ2.out w5 H5.out
  have hO5 := hW5.ownLow
  have HO5 := Lib.hid hO5
  have hhl : (headB n c).length ≤ 3 := by unfold headB; rw [List.length_append]; have := gp_len n; simp [be]; omega
  clear hN5 HWG H4 HO4 hO5
  rcases HOK.out with ⟨e1, hps, -, -⟩ | ⟨e1, -, hd, htr, hln, hlt⟩
  · have tv1 : ((c.verdict : Int) == 1) = true := by rw [e1]; rfl
    have hpf := hps.meets.few
    have hw := wgroup1 w2.heap.size w2.heap.size S5 n5 c5 _ c.parts.length w5 hW5 (by omega) (by omega)
    have HWG := Lib.hid hw
    have HPS := Lib.hid hps
    have HE1 := Lib.hid e1
    clear hW5 hw hps e1 HOK
    go_wp2_with fail
    clear hx0 hx1 hx2 hx3
    refine (HWG.out).mono ?_
    rintro e w6 ⟨S6, n6, c6, rfl, hW6, hN6⟩
    have H6 : Hid (Below w2.heap.size w2 w6) := Lib.hid (H5.out.trans (hN6.below (Nat.le_refl _) (fun b hb => (HO5.out b hb).1) H5.out.size))
    have hp0 : headB n c ++ gp c.parts.length = partsUpto n c 0 := by simp [partsUpto]
    rw [hp0] at hW6
    have HW6 := Lib.hid hW6
    have hfew : ∀ k, (partsUpto n c k).length ≤ 1000000 := partsUpto_few HE1.out (by rw [← HCIN.out]; exact hM)
    have HFEW := Lib.hid hfew
    obtain ⟨hx0, hx1, hx2, hx3⟩ := HZ2.out w6 H6.out
    clear hW6 hN6 HWG H5 HO5 hp0 hfew
    go_wp2_with fail
    go_loopw [45] (fun i wr => ∃ (k : Nat) (S : Option Addr) (m cp : Nat), k ≤ c.parts.length ∧ i = .int .i64 k ∧ Hid (WAt w2.heap.size wr w2.heap.size S m cp (partsUpto n c k)) ∧ Hid (Below w2.heap.size w2 wr)) (fun i _ => c.parts.length - (intOf i).toNat)
    case atStart => exact ⟨0, S6, n6, c6, by omega, rfl, HW6, H6⟩
    case round =>
      clear HW6 H6 hx0 hx1 hx2 hx3
      obtain ⟨k, S, m, cp, hk, rfl, HWr, HBr⟩ := hrel
      by_cases hlt : k < c.parts.length
      · obtain ⟨b, off, Rr, cR, hAe, hbb, hc0, hc1, hc2, hr, -, -⟩ := HA.out.at_ hlt
        have hbw := HB2.out.trans (HBr.out.mono HB2.out.size)
        have hk0 := (hbw.cell (p := ⟨b, off + k * 3, none⟩) hbb).trans hc0
        have hk1 := (hbw.cell (p := ⟨b, off + k * 3 + 1, none⟩) hbb).trans hc1
        have hk2 := (hbw.cell (p := ⟨b, off + k * 3 + 2, none⟩) hbb).trans hc2
        have hnx := partsUpto_next (n := n) hlt
        have hmem := List.getElem_mem hlt
        have hnum := HPS.out.meets.num _ hmem
        have hlen := HPS.out.len _ hmem
        have hrank := HPS.out.rank _ hmem
        obtain ⟨p, hp⟩ : ∃ p, p = c.parts[k] := ⟨_, rfl⟩
        rw [← hp] at hk0 hk1 hk2 hnx hnum hlen hrank hr
        obtain ⟨w5', hw5⟩ : ∃ w5', w5' = wr.alloc (.cells #[.int .u32 (p.f : Int), .int .u32 (p.t : Int), .slice Rr p.ranks.length cR] 51) := ⟨_, rfl⟩
        have h5 : Below wr.heap.size wr w5' := by rw [hw5]; exact (Below.refl _ _).alloc (Nat.le_refl _) _
        have s5 : w5'.heap.size = wr.heap.size + 1 := by rw [hw5]; simp
        have hq2 : w5'.cell? ⟨wr.heap.size, 2, none⟩ = some (.slice Rr p.ranks.length cR) := by rw [hw5, cell_of_row _ _ 2 _ _ (0, 0) (heap_alloc_new wr _)]; rfl
        have hW5 := HWr.out.below h5
        have hglt := HWr.out.row.lt
        have holt := HWr.out.ownLow
        have hwn := wnum2 w2.heap.size w2.heap.size S m cp _ p.f p.t 4 w5' hW5 (by omega) (by omega) (by omega) (by have := HFEW.out k; omega)
        rw [s5] at hwn
        have HWN := Lib.hid hwn
        have HW5 := Lib.hid hw5
        have H5 := Lib.hid h5
        have HQ2 := Lib.hid hq2
        have HOLT := Lib.hid holt
        have HNX := Lib.hid hnx
        have HR := Lib.hid hr
        have hf1 := hnum.1
        have hf2 := hnum.2
        have HRK : Hid (p.ranks.length ≤ 10000 ∧ ∀ x ∈ p.ranks, x < 16384) := Lib.hid ⟨by omega, fun x hx => by have := hrank x hx; omega⟩
        clear hc0 hc1 hc2 hr hbw hnx hmem hnum hlen hrank hp hw5 h5 hq2 hW5 holt hwn
        subst hAe
        go_wp2_with fail
        rw [← HW5.out]
        clear hk0 hk1 hk2
        refine (HWN.out).mono ?_
        rintro e w7 ⟨S7, n7, c7, rfl, hW7, hN7⟩
        have hz2 : w7.cell? ⟨wr.heap.size, 2, none⟩ = some (.slice Rr p.ranks.length cR) := by
          rw [World.cell?_of_block (w := w5') (hN7.block wr.heap.size (by omega) (by omega) (fun e => by have := (HOLT.out _ e).2; omega))]
          exact HQ2.out
        have H7 : Hid (Below w2.heap.size w2 w7) := Lib.hid (HBr.out.trans (((H5.out.mono (by omega)).trans (hN7.below (Nat.le_refl _) (fun b hb => (HOLT.out b hb).1) (by omega)))))
        have hl7 := hW7.len
        have hwg := wgroupL w2.heap.size w2.heap.size S7 n7 c7 _ Rr cR p.ranks w7 w hW7 HR.out (HB2.out.trans (H7.out.mono HB2.out.size)) HB2.out.size HRK.out.1 HRK.out.2 (by
          have := HFEW.out (k + 1)
          rw [HNX.out, List.length_append] at this
          omega)
        rw [← HNX.out] at hwg
        have HWG := Lib.hid hwg
        have HO7 := Lib.hid hW7.ownLow
        clear hW7 hN7 hwg hl7 HWN HW5 H5 HQ2 HOLT
        go_wp2_with fail
        refine (HWG.out).mono ?_
        rintro e w8 ⟨S8, n8, c8, rfl, hW8, hN8⟩
        have H8 : Hid (Below w2.heap.size w2 w8) := Lib.hid (H7.out.trans (hN8.below (Nat.le_refl _) (fun b hb => (HO7.out b hb).1) H7.out.size))
        have HW8 := Lib.hid hW8
        clear hW8 hN8 hz2
        go_wp2_with fail
        refine ⟨⟨k + 1, S8, n8, c8, by omega, by go_num, HW8, H8⟩, by simp [intOf]; omega⟩
      · obtain rfl : k = c.parts.length := by omega
        have hy0 : wr.cell? ⟨w2.heap.size, 0, none⟩ = some (.slice S m cp) := HWr.out.row.cell 0 (by simp)
        have hy1 : wr.cell? ⟨w2.heap.size, 1, none⟩ = some (.int .i64 0) := HWr.out.row.cell 1 (by simp)
        have hmn : m = cin.length := by rw [HWr.out.len, partsUpto_all n c HE1.out, HCIN.out]
        have hfp := HFP.out S cp wr (by rw [HCIN.out, ← partsUpto_all n c HE1.out]; exact .of_own HWr.out.own)
        rw [← hmn] at hfp
        have HF := Lib.hid hfp
        clear hfp hmn
        go_wp2_with fail
        refine (HF.out).mono ?_
        rintro e w9 ⟨R9, m9, rfl, hL9, hb9, hm9, hm9'⟩
        have hbe := HB2.out.trans ((HBr.out.mono HB2.out.size).trans (hb9.mono (Nat.le_trans HB2.out.size HBr.out.size)))
        have HL9 := Lib.hid hL9
        have HBE := Lib.hid hbe
        clear hL9 hb9 hbe
        go_wp2_with fail
        go_ret2
        exact ⟨R9, m9, Gr.tup_ret (bytes_len _).symm, HL9.out, HBE.out, hm9, hm9'⟩
  · have tv1 : ((c.verdict : Int) == 1) = false := by rw [e1]; rfl
    have hw := wnum1 w2.heap.size w2.heap.size S5 n5 c5 _ c.dest 4 w5 hW5 (by omega) (by omega) (by omega)
    have HWG := Lib.hid hw
    have HE1 := Lib.hid e1
    have hfew := htr.few
    have HRK : Hid (c.trace.length ≤ 10000 ∧ ∀ x ∈ c.trace, x < 16384) := Lib.hid ⟨by omega, fun x hx => by have := hlt x hx; omega⟩
    have hxs : certIn n c = headB n c ++ be 4 c.dest ++ gp c.trace.length ++ c.trace.flatMap gp := by unfold certIn; rw [if_neg (by omega)]
    have HXS := Lib.hid hxs
    clear hW5 hw e1 HOK htr hln hlt hxs
    go_wp2_with fail
    clear hx0 hx1 hx2 hx3
    refine (HWG.out).mono ?_
    rintro e w6 ⟨S6, n6, c6, rfl, hW6, hN6⟩
    have H6 : Hid (Below w2.heap.size w2 w6) := Lib.hid (H5.out.trans (hN6.below (Nat.le_refl _) (fun b hb => (HO5.out b hb).1) H5.out.size))
    have hw := wgroup1 w2.heap.size w2.heap.size S6 n6 c6 _ c.trace.length w6 hW6 (by omega) (by rw [List.length_append]; simp [be]; omega)
    have HWH := Lib.hid hw
    have HO6 := Lib.hid hW6.ownLow
    obtain ⟨hx0, hx1, hx2, hx3⟩ := HZ2.out w6 H6.out
    clear hW6 hN6 hw HWG H5 HO5
    go_wp2_with fail
    clear hx0 hx1 hx2 hx3
    refine (HWH.out).mono ?_
    rintro e w7 ⟨S7, n7, c7, rfl, hW7, hN7⟩
    have H7 : Hid (Below w2.heap.size w2 w7) := Lib.hid (H6.out.trans (hN7.below (Nat.le_refl _) (fun b hb => (HO6.out b hb).1) H6.out.size))
    have hwg := wgroupL w2.heap.size w2.heap.size S7 n7 c7 _ B cB c.trace w7 w hW7 HB.out (HB2.out.trans (H7.out.mono HB2.out.size)) HB2.out.size HRK.out.1 HRK.out.2 (by
      rw [HCIN.out, HXS.out, List.length_append] at hM
      omega)
    rw [← HXS.out] at hwg
    have HWK := Lib.hid hwg
    have HO7 := Lib.hid hW7.ownLow
    obtain ⟨hx0, hx1, hx2, hx3⟩ := HZ2.out w7 H7.out
    clear hW7 hN7 hwg HWH H6 HO6
    go_wp2_with fail
    clear hx0 hx1 hx2 hx3
    refine (HWK.out).mono ?_
    rintro e w8 ⟨S8, n8, c8, rfl, hW8, hN8⟩
    have H8 : Hid (Below w2.heap.size w2 w8) := Lib.hid (H7.out.trans (hN8.below (Nat.le_refl _) (fun b hb => (HO7.out b hb).1) H7.out.size))
    have HW8 := Lib.hid hW8
    clear hW8 hN8 HWK H7 HO7
    have hy0 : w8.cell? ⟨w2.heap.size, 0, none⟩ = some (.slice S8 n8 c8) := HW8.out.row.cell 0 (by simp)
    have hy1 : w8.cell? ⟨w2.heap.size, 1, none⟩ = some (.int .i64 0) := HW8.out.row.cell 1 (by simp)
    have hmn : n8 = cin.length := by rw [HW8.out.len, HCIN.out]
    have hfp := HFP.out S8 c8 w8 (by rw [HCIN.out]; exact .of_own HW8.out.own)
    rw [← hmn] at hfp
    have HF := Lib.hid hfp
    clear hfp hmn
    go_wp2_with fail
    refine (HF.out).mono ?_
    rintro e w9 ⟨R9, m9, rfl, hL9, hb9, hm9, hm9'⟩
    have hbe := HB2.out.trans ((H8.out.mono HB2.out.size).trans (hb9.mono (Nat.le_trans HB2.out.size H8.out.size)))
    have HL9 := Lib.hid hL9
    have HBE := Lib.hid hbe
    clear hL9 hb9 hbe
    go_wp2_with fail
    go_ret2
    exact ⟨R9, m9, Gr.tup_ret (bytes_len _).symm, HL9.out, HBE.out, hm9, hm9'⟩
end Go.Proofs.YtpjoefekhgmlhaaGreat.Tp

namespace Go.Proofs.YtpjoefekhgmlhaaGreat.Tp
open Go.RowKit Mem

/-- A reader without an error, in block g, with the bytes l left; these lie where they lay in w0. -/
structure RAt (w0 W : World) (g nodes : Nat) (B : Option Addr) (d : Nat) (l : List Nat) : Prop where
  row : VRow W g [.slice B l.length d, .int .i64 (nodes : Int), .int .i64 0]
  lies : Lies w0 B (bytes l)
  byte : ∀ b ∈ l, b < 256
  cap : l.length ≤ d
  max : d ≤ 9223372036854775807
theorem RAt.near {w0 W W' : World} {g nodes : Nat} {B : Option Addr} {d : Nat} {l : List Nat} (h : RAt w0 W g nodes B d l) (hb : Below W.heap.size W W') : RAt w0 W' g nodes B d l := ⟨h.row.below hb h.row.lt, h.lies, h.byte, h.cap, h.max⟩
/-- A number is told, and the reader has gone on; nothing else has turned. -/
def RPost (w0 W : World) (g nodes : Nat) (v : Int) (l : List Nat) (e : Ending) (W' : World) : Prop :=
  ∃ B d, e = .returned (.int .i64 v) ∧ RAt w0 W' g nodes B d l ∧ Near none none g W W'

set_option maxRecDepth 100000 in
set_option maxHeartbeats 1000000 in
theorem rnum_any (w0 W : World) (g nodes : Nat) (B : Option Addr) (d size v : Nat) (pre l : List Nat) (hR : RAt w0 W g nodes B d (pre ++ l)) (hB : Below w0.heap.size w0 W) (hs : size = 1 ∨ size = 2 ∨ size = 4) (hp : pre.length = size) (hv : ofBe pre = v) :
    Calls Tryz.prog 36 #[.pointer (some ⟨g, 0, none⟩), .int .i64 (size : Int)] W (RPost w0 W g nodes (v : Int) l) := by
  have hlen : (pre ++ l).length = size + l.length := by rw [List.length_append, hp]
  have hcap := hR.cap
  have hmax := hR.max
  obtain ⟨N, hN⟩ : ∃ N, N = (pre ++ l).length := ⟨_, rfl⟩
  have hrow := hR.row
  rw [← hN] at hrow hcap hlen
  have htk := takeN B N d (pre ++ l) size v W (hR.lies.below hB) hN.symm (by omega) hR.byte hs (by omega) (by rw [List.take_append_of_le_length (by omega), List.take_of_length_le (by omega)]; exact hv)
  obtain ⟨B', hcut, hLc⟩ := cut_l bty bsz B N d size (size : Int) rfl (by omega) hcap
  have hL' := hLc w0 _ hR.lies (by rw [bytes_len, hN])
  have e1 : (bytes (pre ++ l)).drop size = bytes l := by rw [bytes_app, List.drop_append_of_le_length (by rw [bytes_len]; omega), List.drop_of_length_le (by rw [bytes_len]; omega), List.nil_append]
  rw [e1] at hL'
  have hsub : N - size = l.length := by omega
  rw [hsub] at hcut
  have hc0 : W.cell? ⟨g, 0, none⟩ = some (.slice B N d) := hrow.cell 0 (by simp)
  have hf0 := hrow.free 0 (by simp)
  have hc2 : W.cell? ⟨g, 2, none⟩ = some (.int .i64 0) := hrow.cell 2 (by simp)
  have hR' : RAt w0 (W.setCell ⟨g, 0, none⟩ (.slice B' l.length (d - size))) g nodes B' (d - size) l := ⟨hrow.set_ 0 _, hL', fun b hb => hR.byte b (by simp [hb]), by omega, by omega⟩
  have hnear : Near none none g W (W.setCell ⟨g, 0, none⟩ (.slice B' l.length (d - size))) := Near.set_ none g 0 W _
  have hsn : size ≤ N := by omega
  have HTK := Lib.hid htk
  have HR' := Lib.hid hR'
  have HNR := Lib.hid hnear
  clear htk hLc hL' e1 hsub hR' hnear hR hrow hN hlen hp hv hs hB
  go_enter Tryz.func36, Tryz.ntmps36
  go_wp2_with fail
  refine (HTK.out).mono ?_
  rintro e w' ⟨rfl, rfl⟩
  go_wp2_with fail
  go_ret
  exact ⟨B', d - size, rfl, HR'.out, HNR.out⟩

set_option maxRecDepth 100000 in
set_option maxHeartbeats 1000000 in
theorem rgroup_any (w0 W : World) (g nodes : Nat) (B : Option Addr) (d x : Nat) (l : List Nat) (hR : RAt w0 W g nodes B d (gp x ++ l)) (hB : Below w0.heap.size w0 W) (hx : x < 16384) :
    Calls Tryz.prog 41 #[.pointer (some ⟨g, 0, none⟩)] W (RPost w0 W g nodes (x : Int) l) := by
  obtain ⟨size, hp⟩ : ∃ size, size = (gp x).length := ⟨_, rfl⟩
  have hlen : (gp x ++ l).length = size + l.length := by rw [List.length_append, hp]
  have hcap := hR.cap
  have hmax := hR.max
  obtain ⟨N, hN⟩ : ∃ N, N = (gp x ++ l).length := ⟨_, rfl⟩
  have hrow := hR.row
  rw [← hN] at hrow hcap hlen
  have htk := gtake_split B N d x size l W hp.symm hN.symm hx (hR.lies.below hB) (by omega)
  obtain ⟨B', hcut, hLc⟩ := cut_l bty bsz B N d size (size : Int) rfl (by omega) hcap
  have hL' := hLc w0 _ hR.lies (by rw [bytes_len, hN])
  have e1 : (bytes (gp x ++ l)).drop size = bytes l := by rw [bytes_app, List.drop_append_of_le_length (by rw [bytes_len]; omega), List.drop_of_length_le (by rw [bytes_len]; omega), List.nil_append]
  rw [e1] at hL'
  have hsub : N - size = l.length := by omega
  rw [hsub] at hcut
  have hc0 : W.cell? ⟨g, 0, none⟩ = some (.slice B N d) := hrow.cell 0 (by simp)
  have hf0 := hrow.free 0 (by simp)
  have hc2 : W.cell? ⟨g, 2, none⟩ = some (.int .i64 0) := hrow.cell 2 (by simp)
  have hR' : RAt w0 (W.setCell ⟨g, 0, none⟩ (.slice B' l.length (d - size))) g nodes B' (d - size) l := ⟨hrow.set_ 0 _, hL', fun b hb => hR.byte b (by simp [hb]), by omega, by omega⟩
  have hnear : Near none none g W (W.setCell ⟨g, 0, none⟩ (.slice B' l.length (d - size))) := Near.set_ none g 0 W _
  have hsn : size ≤ N := by omega
  have HTK := Lib.hid htk
  have HR' := Lib.hid hR'
  have HNR := Lib.hid hnear
  clear htk hLc hL' e1 hsub hR' hnear hR hrow hN hlen hp hB
  go_enter Tryz.func41, Tryz.ntmps41
  go_wp2_with fail
  refine (HTK.out).mono ?_
  rintro e w' ⟨rfl, rfl⟩
  go_wp2_with fail
  go_ret
  exact ⟨B', d - size, rfl, HR'.out, HNR.out⟩

theorem rcount_any (w0 W : World) (g nodes : Nat) (B : Option Addr) (d x most : Nat) (l : List Nat) (hR : RAt w0 W g nodes B d (gp x ++ l)) (hB : Below w0.heap.size w0 W) (hx : x < 16384) (hm : x ≤ most) :
    Calls Tryz.prog 38 #[.pointer (some ⟨g, 0, none⟩), .int .i64 (most : Int)] W (RPost w0 W g nodes (x : Int) l) := by
  have hg := rgroup_any w0 W g nodes B d x l hR hB hx
  have t0 : decide ((x : Int) > (most : Int)) = false := by rw [decide_eq_false_iff_not]; omega
  have HG := Lib.hid hg
  clear hg hR hB
  go_enter Tryz.func38, Tryz.ntmps38
  go_wp2_with fail
  refine (HG.out).mono ?_
  rintro e w2 ⟨B2, d2, rfl, hR2, hN2⟩
  have HR2 := Lib.hid hR2
  have HN2 := Lib.hid hN2
  clear hR2 hN2
  go_wp2_with fail
  go_ret
  exact ⟨B2, d2, rfl, HR2.out, HN2.out⟩
end Go.Proofs.YtpjoefekhgmlhaaGreat.Tp
