/- CONTRACT of Trie.hang: a fork is put to a place. Conditions: a trie as put makes it, and a place on the rule's way. · CONTRACT of Trie.hang: a fork is put to a place, and joined to what was there. Conditions: a trie as put makes it, and a place on the rule's way. -/
import Derived.Test.YtpjoefekhgmlhaaGreatMb21
import Derived.Deep.DeepCutAuto
namespace Go.Proofs.YtpjoefekhgmlhaaGreat.Tp
open Go.RowKit Mem

theorem setP_app {F : List ForkT} {k : Option Nat} {p : Place} {f : ForkT} (hp : PlaceOk F p) : setP (F ++ [f]) k p = setP F k p ++ [f] := by
  cases p with
  | top => rfl
  | kid i b =>
    obtain ⟨f0, hf⟩ : ∃ f0, F[i]? = some f0 := ⟨_, List.getElem?_eq_getElem hp.1⟩
    rw [setP_kid hf, setP_kid (show (F ++ [f])[i]? = some f0 by rw [List.getElem?_append_left hp.1]; exact hf), List.set_append_left _ _ hp.1]
theorem getP_app {F : List ForkT} {top : Option Nat} {p : Place} {f : ForkT} (hp : PlaceOk F p) : getP (F ++ [f]) top p = getP F top p := by
  cases p with
  | top => rfl
  | kid i b =>
    obtain ⟨f0, hf⟩ : ∃ f0, F[i]? = some f0 := ⟨_, List.getElem?_eq_getElem hp.1⟩
    rw [getP_kid hf, getP_kid (show (F ++ [f])[i]? = some f0 by rw [List.getElem?_append_left hp.1]; exact hf)]
theorem PlaceOk.app {F : List ForkT} {p : Place} {f : ForkT} (hp : PlaceOk F p) : PlaceOk (F ++ [f]) p := by
  cases p with
  | top => trivial
  | kid i b => exact ⟨by have := hp.1; simp; omega, hp.2⟩
theorem addr_push {F : List ForkT} {p : Place} {t g : Nat} {G : Nat → Nat} (hp : PlaceOk F p) : addrP t (pushG G F.length g) p = addrP t G p := by
  cases p with
  | top => rfl
  | kid i b => unfold addrP; simp only; rw [push_old hp.1]
/-- A trie stands there, with one rule more. -/
def Hung3 (base : Nat) (W : World) (t : Nat) (rs : List RuleT) (sz : Nat) (e : Ending) (W' : World) : Prop := e = .returned (.tuple #[]) ∧ ∃ G F top sz', TrieAt base W' t G F top sz' ∧ TrieOk F top rs ∧ Below base W W' ∧ sz' ≤ sz + 2
theorem addr_low {base : Nat} {W : World} {t : Nat} {G : Nat → Nat} {F : List ForkT} {top : Option Nat} {sz : Nat} (h : TrieAt base W t G F top sz) {p : Place} (hp : PlaceOk F p) : base ≤ (addrP t G p).block := by
  cases p with
  | top => exact h.low.1
  | kid i b => exact h.low.2 i hp.1

set_option maxRecDepth 100000 in
set_option maxHeartbeats 2000000 in
theorem hang_none (base t g : Nat) (G : Nat → Nat) (F : List ForkT) (top : Option Nat) (sz : Nat) (rs : List RuleT) (r : RuleT) (p : Place) (w : World) (hT : TrieAt base w t G F top sz) (T : TrieOk F top rs) (hr : RulePre r) (hp : Path F top r p) (hg : VRow w g (fcells G (fork0 r))) (hgb : base ≤ g) (hgt : g ≠ t) (hgn : ∀ i, i < F.length → G i ≠ g) (hn : getP F top p = none) (hsz : sz ≤ 1000000) :
    Calls Tryz.prog 136 #[.pointer (some ⟨t, 0, none⟩), .pointer (some (addrP t G p)), .pointer (some ⟨g, 0, none⟩)] w (Hung3 base w t (rs ++ [r]) sz) := by
  have hok := hp.ok
  have hpush := hT.push hg (fun b k h => absurd h kid_fork) hgt hgb hgn
  have hset := hpush.setP (p := p) hok.app (some F.length) (fun i e => by injection e with e; simp; omega)
  rw [addr_push hok, ptr_new, setP_app hok] at hset
  have hsize := hset.size_ (sz + 1)
  have hbase := addr_low hT hok
  have hb1 := ((Below.refl base w).setCell hbase (.pointer (some ⟨g, 0, none⟩))).setCell (p := ⟨t, 1, none⟩) hT.low.1 (.int .i64 ((sz + 1 : Nat) : Int))
  obtain ⟨hc0, hf0⟩ := hT.place hok
  rw [hn] at hc0
  have hc1 := (hset.head.get (i := 1) rfl)
  have hfin : Hung3 base w t (rs ++ [r]) sz (.returned (.tuple #[])) ((w.setCell (addrP t G p) (.pointer (some ⟨g, 0, none⟩))).setCell ⟨t, 1, none⟩ (.int .i64 ((sz + 1 : Nat) : Int))) := ⟨rfl, _, _, _, _, hsize, put_none T hr hp hn, hb1, by omega⟩
  obtain ⟨pa, hpa⟩ : ∃ pa, pa = addrP t G p := ⟨_, rfl⟩
  rw [← hpa] at hc0 hf0 hc1 hfin ⊢
  obtain ⟨hs1, hs2⟩ := hc1
  have HF := Lib.hid hfin
  clear hok hpush hset hsize hbase hb1 hpa hfin hT T hr hp hg hgn
  go_enter Tryz.func136, Tryz.ntmps136
  go_wp2_with fail
  exact bodyPost_end (v := .tuple #[]) (by simp [results, Tryz.results136, go_sem]) rfl HF.out

theorem VRow.drew {w : World} {g : Nat} {xs : List Value} (h : VRow w g xs) : VRow w.drew g xs := ⟨h.lt, h.cell, h.free⟩
/-- What lies at a place, whatever it is. -/
def valAt (w : World) (p : Addr) : Value := (w.cell? p).getD undef
theorem valAt_of {w : World} {p : Addr} {v : Value} (h : w.cell? p = some v) : w.cell? p = some (valAt w p) := by unfold valAt; rw [h]; rfl
theorem getP_set {F new : List ForkT} {top k : Option Nat} {p : Place} (hp : PlaceOk F p) : getP (setP F k p ++ new) (setT top k p) p = k := by
  cases p with
  | top => rfl
  | kid i b =>
    obtain ⟨f0, hf⟩ : ∃ f0, F[i]? = some f0 := ⟨_, List.getElem?_eq_getElem hp.1⟩
    rw [setP_kid hf, getP_kid (show (F.set i (f0.setKid b k) ++ new)[i]? = some (f0.setKid b k) by
      rw [List.getElem?_append_left (by rw [List.length_set]; exact hp.1), List.getElem?_set_self hp.1])]
    exact setKid_same f0 b k
theorem setP_ok {F new : List ForkT} {k : Option Nat} {p : Place} (hp : PlaceOk F p) : PlaceOk (setP F k p ++ new) p := by
  cases p with
  | top => trivial
  | kid i b => exact ⟨by rw [List.length_append, setP_len]; have := hp.1; omega, hp.2⟩
theorem meet_above {a n b m : Nat} (ha : a < 4294967296) (hb : b < 4294967296) (hn : n ≤ 32) (h : agree a b n) (hm : n ≤ m) : meetN a n b m = n := by
  have := (le_common ha hb hn).2 h
  unfold meetN; omega
theorem low_self {a n : Nat} (h : a % wid n = 0) : lowN a n = a := by
  unfold lowN
  have := Nat.div_add_mod a (wid n)
  rw [h, Nat.mul_comm] at this
  exact this

/-- What is there when what was at the place has been put away, and is a fork: the words of the two other ways. -/
structure HangSt (base t g : Nat) (G : Nat → Nat) (F : List ForkT) (top : Option Nat) (sz : Nat) (r : RuleT) (p : Place) (o : Nat) (fo : ForkT) (W : World) : Prop where
  trie : TrieAt base W t (pushG G F.length g) (setP F (some F.length) p ++ [fork0 r]) (setT top (some F.length) p) (sz + 1)
  ga : W.cell? ⟨g, 0, none⟩ = some (.int .u32 (r.a : Int))
  gn : W.cell? ⟨g, 1, none⟩ = some (.int .i64 (r.len : Int))
  oa : W.cell? ⟨G o, 0, none⟩ = some (.int .u32 (fo.a : Int))
  on : W.cell? ⟨G o, 1, none⟩ = some (.int .i64 (fo.n : Int))
  pc : W.cell? (addrP t G p) = some (.pointer (some ⟨g, 0, none⟩))
  pf : W.frozen? (addrP t G p) = false
  below : Below base W W
theorem HangSt.below_ {base t g : Nat} {G : Nat → Nat} {F : List ForkT} {top : Option Nat} {sz : Nat} {r : RuleT} {p : Place} {o : Nat} {fo : ForkT} {W W' : World} (hg : g < W.heap.size) (ho : G o < W.heap.size) (hpl : (addrP t G p).block < W.heap.size) (h : HangSt base t g G F top sz r p o fo W) (hb : Below W.heap.size W W') : HangSt base t g G F top sz r p o fo W' :=
  ⟨h.trie.below hb, (hb.cell (p := ⟨g, 0, none⟩) hg).trans h.ga, (hb.cell (p := ⟨g, 1, none⟩) hg).trans h.gn, (hb.cell (p := ⟨G o, 0, none⟩) ho).trans h.oa, (hb.cell (p := ⟨G o, 1, none⟩) ho).trans h.on, (hb.cell hpl).trans h.pc, (hb.frozen hpl).trans h.pf, Below.refl _ _⟩
theorem hang_start {base t g : Nat} {G : Nat → Nat} {F : List ForkT} {top : Option Nat} {sz : Nat} {r : RuleT} {p : Place} {w : World} {o : Nat} {fo : ForkT} (hT : TrieAt base w t G F top sz) (hok : PlaceOk F p) (hp2 : p = .top ∨ ∃ i b, p = .kid i b ∧ (b = 0 ∨ b = 1)) (hg : VRow w g (fcells G (fork0 r))) (hgb : base ≤ g) (hgt : g ≠ t) (hgn : ∀ i, i < F.length → G i ≠ g) (hfo : F[o]? = some fo) :
    HangSt base t g G F top sz r p o fo ((w.setCell (addrP t G p) (.pointer (some ⟨g, 0, none⟩))).setCell ⟨t, 1, none⟩ (.int .i64 ((sz : Int) + 1))) := by
  have hpush := hT.push hg (fun b k h => absurd h kid_fork) hgt hgb hgn
  have hset := hpush.setP (p := p) hok.app (some F.length) (fun i e => by injection e with e; simp; omega)
  rw [addr_push hok, ptr_new, setP_app hok] at hset
  have hsize := hset.size_ (sz + 1)
  have ho : o < F.length := (List.getElem?_eq_some_iff.1 hfo).1
  have hgr := hsize.fork F.length (fork0 r) (by
    have := new_at (F := F) (p := p) (k := some F.length) (new := [fork0 r]) (i := 0)
    simpa using this)
  rw [push_new] at hgr
  obtain ⟨fo', hfo', hoa, hon, _⟩ := setP_get (k := some F.length) hfo hp2
  have hor := hsize.fork o fo' (by rw [List.getElem?_append_left (by rw [setP_len]; exact ho)]; exact hfo')
  rw [push_old ho] at hor
  have hpl := hsize.place (p := p) (setP_ok hok)
  rw [addr_push hok, getP_set hok, ptr_new] at hpl
  exact ⟨hsize, (hgr.get (i := 0) rfl).1, (hgr.get (i := 1) rfl).1, by rw [← hoa]; exact (hor.get (i := 0) rfl).1, by rw [← hon]; exact (hor.get (i := 1) rfl).1, hpl.1, hpl.2, Below.refl _ _⟩

set_option maxRecDepth 100000 in
set_option maxHeartbeats 4000000 in
theorem hang_above (base t g : Nat) (G : Nat → Nat) (F : List ForkT) (top : Option Nat) (sz : Nat) (rs : List RuleT) (r : RuleT) (p : Place) (w : World) (o : Nat) (fo : ForkT) (hT : TrieAt base w t G F top sz) (T : TrieOk F top rs) (hr : RulePre r) (hp : Path F top r p) (hg : VRow w g (fcells G (fork0 r))) (hgb : base ≤ g) (hgt : g ≠ t) (hgn : ∀ i, i < F.length → G i ≠ g) (hn : getP F top p = some o) (hfo : F[o]? = some fo) (hlt : r.len < fo.n) (hag : agree r.a fo.a r.len) (hsz : sz ≤ 1000000) (hbw : base ≤ w.heap.size) :
    Calls Tryz.prog 136 #[.pointer (some ⟨t, 0, none⟩), .pointer (some (addrP t G p)), .pointer (some ⟨g, 0, none⟩)] w (Hung3 base w t (rs ++ [r]) sz) := by
  have hok := hp.ok
  have hst := hang_start hT hok hp.two hg hgb hgt hgn hfo
  have hbase := addr_low hT hok
  have hb1 := ((Below.refl base w).setCell hbase (.pointer (some ⟨g, 0, none⟩))).setCell (p := ⟨t, 1, none⟩) hT.low.1 (.int .i64 ((sz : Int) + 1))
  obtain ⟨hc0, hf0⟩ := hT.place hok
  rw [hn] at hc0
  have ho : o < F.length := (List.getElem?_eq_some_iff.1 hfo).1
  have hspo := T.span o fo hfo
  have hmt := fun w => meet3_any r.a r.len fo.a fo.n hr.a hspo.1 w
  rw [meet_above hr.a hspo.1 hr.len hag (by omega), low_self hr.host] at hmt
  have hbit := fun w => bit_any fo.a r.len hspo.1 (by omega) w
  have hput := put_above T hr hp hn hfo hlt hag
  have hb2 := bitN_two fo.a r.len
  generalize bitN fo.a r.len = b at *
  have hplt : (addrP t G p).block < w.heap.size := by
    cases p with
    | top => exact hT.head.lt
    | kid i c => exact (hT.fork i _ (List.getElem?_eq_getElem hok.1)).lt
  have hglt := hg.lt
  have holt := (hT.fork o fo hfo).lt
  have htlt := hT.head.lt
  obtain ⟨W1, hW1⟩ : ∃ W1, W1 = (w.setCell (addrP t G p) (.pointer (some ⟨g, 0, none⟩))).setCell ⟨t, 1, none⟩ (.int .i64 ((sz : Int) + 1)) := ⟨_, rfl⟩
  have hW1s : W1.heap.size = w.heap.size := by rw [hW1]; simp
  have hc1 : (w.setCell (addrP t G p) (.pointer (some ⟨g, 0, none⟩))).cell? ⟨t, 1, none⟩ = some (.int .i64 (sz : Int)) ∧ (w.setCell (addrP t G p) (.pointer (some ⟨g, 0, none⟩))).frozen? ⟨t, 1, none⟩ = false := by
    have hpush := hT.push hg (fun b k h => absurd h kid_fork) hgt hgb hgn
    have hset := hpush.setP (p := p) hok.app (some F.length) (fun i e => by injection e with e; simp; omega)
    rw [addr_push hok, ptr_new, setP_app hok] at hset
    exact hset.head.get (i := 1) rfl
  rw [← hW1] at hst hb1
  obtain ⟨hs1, hs2⟩ := hc1
  have hKS : ∀ W, Below W1.heap.size W1 W → HangSt base t g G F top sz r p o fo W := fun W hW => hst.below_ (by omega) (by omega) (by omega) hW
  have HKS := Lib.hid hKS
  have hbW : base ≤ W1.heap.size := by omega
  have hgW : g < W1.heap.size := by omega
  clear hW1s
  have HB1 := Lib.hid hb1
  have HW1 := Lib.hid hW1
  have HMT := Lib.hid hmt
  have HBIT := Lib.hid hbit
  have HPUT := Lib.hid hput
  have HB2 := Lib.hid hb2
  obtain ⟨pa, hpa⟩ : ∃ pa, pa = addrP t G p := ⟨_, rfl⟩
  rw [← hpa] at hc0 hf0 hs1 hs2 HW1 ⊢
  have HPA := Lib.hid hpa
  obtain ⟨go, hgo⟩ : ∃ go, go = G o := ⟨_, rfl⟩
  have hc0' : w.cell? pa = some (.pointer (some ⟨go, 0, none⟩)) := by rw [hc0, hgo]; rfl
  have HGO := Lib.hid hgo
  have b0 : (0 : Int) ≤ (b : Int) := by omega
  have b1 : (b : Int) < 2 := by have := HB2.out; omega
  clear hok hst hbase hb1 hspo hmt hbit hput hb2 hW1 hKS hpa hgo hc0 hT T hr hp hg hgn hfo hn hag hlt
  go_enter Tryz.func136, Tryz.ntmps136
  go_wp2_with fail
  rw [← HW1.out]
  clear hc0' hf0 hs1 hs2
  have hK1 : ∀ W, Below W1.heap.size W1 W → (W.cell? ⟨g, 0, none⟩ = some (.int .u32 (r.a : Int)) ∧ W.cell? ⟨g, 1, none⟩ = some (.int .i64 (r.len : Int)) ∧ W.cell? ⟨go, 0, none⟩ = some (.int .u32 (fo.a : Int)) ∧ W.cell? ⟨go, 1, none⟩ = some (.int .i64 (fo.n : Int))) ∧ Below W1.heap.size W1 W := fun W hW => by
    have := HKS.out W hW
    rw [HGO.out]
    exact ⟨⟨this.ga, this.gn, this.oa, this.on⟩, hW⟩
  have KS := Lib.hid hK1
  clear hK1
  go_upto_region 4 with fail
  go_cut [7] (fun s7 wx => ∃ q : Nat, s7 = .pointer (some ⟨q, 0, none⟩) ∧ q < wx.heap.size ∧ wx.cell? ⟨q, 0, none⟩ = some (.int .u32 (r.a : Int)) ∧ wx.cell? ⟨q, 1, none⟩ = some (.int .i64 (r.len : Int)) ∧ Below W1.heap.size W1 wx)
  case first =>
    go_region_held3 (fun W => (W.cell? ⟨g, 0, none⟩ = some (.int .u32 (r.a : Int)) ∧ W.cell? ⟨g, 1, none⟩ = some (.int .i64 (r.len : Int)) ∧ W.cell? ⟨go, 0, none⟩ = some (.int .u32 (fo.a : Int)) ∧ W.cell? ⟨go, 1, none⟩ = some (.int .i64 (fo.n : Int))) ∧ Below W1.heap.size W1 W)
      ((refine KS.out _ ?_; first
        | exact below_drew (Below.refl _ _)
        | exact (below_drew (Below.refl W1.heap.size W1)).trans hb5
        | exact ((below_drew (Below.refl W1.heap.size W1)).trans hb5).alloc hb5.size _
        | exact (below_drew (Below.refl W1.heap.size W1)).alloc (Nat.le_refl _) _
        | exact ((below_drew (Below.refl W1.heap.size W1)).alloc (Nat.le_refl _) _).trans (hb5.mono (by simp))
        | exact ((((below_drew (Below.refl W1.heap.size W1)).alloc (Nat.le_refl _) _).trans (hb5.mono (by simp))).setCell (p := ⟨W1.heap.size, 0, none⟩) (Nat.le_refl _) _).setCell (p := ⟨W1.heap.size, 1, none⟩) (Nat.le_refl _) _))
      (first | (go_at_call 134; refine (HMT.out _).mono ?_; rintro e w5 ⟨rfl, hb5⟩; (try (have hv5 : VRow w5 W1.heap.size [.int .u32 0, .int .i64 0] := VRow.below (w := (W1.alloc (.cells #[.int .u32 0, .int .i64 0] 199)).drew) (VRow.new W1 #[.int .u32 0, .int .i64 0] 199).drew hb5 (by simp); have hq0 := (hv5.get (i := 0) rfl).1; have hq1 := (hv5.get (i := 1) rfl).1; have hq2 := (hv5.get (i := 0) rfl).2; have hq3 := (hv5.get (i := 1) rfl).2))))
    · have hv := VRow.new w5 #[.int .u32 (r.a : Int), .int .i64 (r.len : Int)] 199
      go_wp2_with fail
      go_meet
      exact ⟨w5.heap.size, rfl, hv.lt, (hv.get (i := 0) rfl).1, (hv.get (i := 1) rfl).1, ((below_drew (Below.refl W1.heap.size W1)).trans hb5).alloc hb5.size _⟩
    · have hv := (hv5.set_ 0 (.int .u32 (r.a : Int))).set_ 1 (.int .i64 (r.len : Int))
      have hbe := ((((below_drew (Below.refl W1.heap.size W1)).alloc (Nat.le_refl _) _).trans (hb5.mono (by simp))).setCell (p := ⟨W1.heap.size, 0, none⟩) (Nat.le_refl _) (.int .u32 (r.a : Int))).setCell (p := ⟨W1.heap.size, 1, none⟩) (Nat.le_refl _) (.int .i64 (r.len : Int))
      go_wp2_with fail
      go_meet
      exact ⟨W1.heap.size, rfl, hv.lt, (hv.get (i := 0) rfl).1, (hv.get (i := 1) rfl).1, hbe⟩
  case rest =>
    obtain ⟨q, rfl, hql, hq0, hq1, hbx⟩ := hcut
    have hS := HKS.out wc hbx
    have hga := hS.ga
    have hgn := hS.gn
    have HS := Lib.hid hS
    have HBX := Lib.hid hbx
    clear hS hbx KS
    go_wp2_with fail
    go_big_quiet (fail)
    obtain ⟨w6, hw6⟩ : ∃ w6, w6 = wc.drewN nq := ⟨_, rfl⟩
    rw [← hw6]
    have hb6 : Below wc.heap.size wc w6 := by rw [hw6]; exact below_drawn (Below.refl _ _) nq
    have hB6 := HBX.out.trans (hb6.mono HBX.out.size)
    have hS6 := HKS.out w6 hB6
    have ha6 := hS6.oa
    have hp6 := hS6.pc
    rw [← HPA.out] at hp6
    rw [← HGO.out] at ha6
    have hq6 := (hb6.cell (p := ⟨q, 1, none⟩) hql).trans hq1
    have hkr := hS6.trie.fork F.length (fork0 r) (by
      have := new_at (F := F) (p := p) (k := some F.length) (new := [fork0 r]) (i := 0)
      simpa using this)
    rw [push_new] at hkr
    obtain ⟨hk6, hkf6⟩ := hkr.get (fcells_kid HB2.out)
    have hT6 := hS6.trie.setP (p := .kid F.length b) ⟨by rw [List.length_append, setP_len]; simp, HB2.out⟩ (some o) (fun i e => by injection e with e; rw [List.length_append, setP_len]; omega)
    have hadr : addrP t (pushG G F.length g) (.kid F.length b) = ⟨g, 7 + b, none⟩ := by unfold addrP; simp only; rw [push_new]
    have hptr : ptrV (pushG G F.length g) (some o) = .pointer (some ⟨go, 0, none⟩) := by simp only [ptrV, Option.map_some]; rw [push_old ho, HGO.out]
    rw [hadr, hptr] at hT6
    have hsetF : setP (setP F (some F.length) p ++ [fork0 r]) (some o) (.kid F.length b) = setP F (some F.length) p ++ [(fork0 r).setKid b (some o)] := by
      have hn := new_at (F := F) (p := p) (k := some F.length) (new := [fork0 r]) (i := 0)
      rw [setP_kid (f := fork0 r) (by simpa using hn), List.set_append_right _ _ (by rw [setP_len]; exact Nat.le_refl _), setP_len]
      simp
    rw [hsetF] at hT6
    have hBf := ((HB1.out.trans (hB6.mono hbW)).setCell (p := ⟨g, 7 + b, none⟩) hgb (.pointer (some ⟨go, 0, none⟩)))
    have HFIN : Hid (Hung3 base w t (rs ++ [r]) sz (.returned (.tuple #[])) (w6.setCell ⟨g, 7 + b, none⟩ (.pointer (some ⟨go, 0, none⟩))).drew) := Lib.hid ⟨rfl, _, _, _, _, hT6.below (below_drew (Below.refl _ _)), HPUT.out, below_drew hBf, by omega⟩
    obtain ⟨kv, hkv⟩ : ∃ kv, kv = ptrV (pushG G F.length g) ((fork0 r).kid b) := ⟨_, rfl⟩
    rw [← hkv] at hk6
    clear hw6 hb6 hB6 hS6 hkr hT6 hadr hptr hsetF hBf hkv hq0 hq1 hga hgn HBX HS HKS HB1 HW1 HMT HPUT
    go_wp2_with fail
    go_region_with (first | (go_at_call 135; refine (HBIT.out _).mono ?_; rintro e w' ⟨rfl, rfl⟩))
    all_goals
      clear ha6 hp6 hq6 hk6 hkf6
      go_wp2_with fail
      exact bodyPost_end (v := .tuple #[]) (by simp [results, Tryz.results136, go_sem]) rfl HFIN.out
end Go.Proofs.YtpjoefekhgmlhaaGreat.Tp

namespace Go.Proofs.YtpjoefekhgmlhaaGreat.Tp
open Go.RowKit Mem

theorem meet_join {a n b m : Nat} (ha : a < 4294967296) (hb : b < 4294967296) (hn : n ≤ 32) (hm : m ≤ 32) (h1 : ¬ (n ≤ m ∧ agree a b n)) (h2 : ¬ (m ≤ n ∧ agree b a m)) :
    meetN a n b m < n ∧ meetN a n b m < m ∧ agree a b (meetN a n b m) ∧ bitN a (meetN a n b m) ≠ bitN b (meetN a n b m) := by
  have hcl := common_le a b
  have hk : meetN a n b m ≤ common a b := by unfold meetN; omega
  have hk2 : meetN a n b m ≤ n ∧ meetN a n b m ≤ m := by unfold meetN; omega
  have hag : agree a b (meetN a n b m) := (le_common ha hb (by omega)).1 hk
  have hn1 : meetN a n b m ≠ n := fun e => h1 ⟨by omega, by rw [← e]; exact hag⟩
  have hm1 : meetN a n b m ≠ m := fun e => h2 ⟨by omega, by rw [← e]; exact hag.symm⟩
  have hc : meetN a n b m = common a b := by unfold meetN at *; omega
  refine ⟨by omega, by omega, hag, fun e => ?_⟩
  have := (le_common ha hb (by omega)).2 (agree_succ hag e (by omega))
  omega
theorem setP_twice {F new : List ForkT} {k k' : Option Nat} {p : Place} (hp : PlaceOk F p) : setP (setP F k p ++ new) k' p = setP F k' p ++ new := by
  cases p with
  | top => rfl
  | kid i b =>
    obtain ⟨f0, hf⟩ : ∃ f0, F[i]? = some f0 := ⟨_, List.getElem?_eq_getElem hp.1⟩
    rw [setP_kid hf, setP_kid hf, setP_kid (f := f0.setKid b k) (show (F.set i (f0.setKid b k) ++ new)[i]? = some (f0.setKid b k) by
      rw [List.getElem?_append_left (by rw [List.length_set]; exact hp.1), List.getElem?_set_self hp.1]),
      List.set_append_left _ _ (by rw [List.length_set]; exact hp.1), List.set_set]
    congr 2
    unfold ForkT.setKid
    split <;> rfl
theorem setKid_last {A : List ForkT} {x y : ForkT} {b n : Nat} {k : Option Nat} (hn : A.length + 1 = n) : setP (A ++ [x, y]) k (.kid n b) = A ++ [x, y.setKid b k] := by
  subst hn
  rw [setP_kid (f := y) (by simp), List.set_append_right _ _ (by omega)]
  congr 1
  rw [show A.length + 1 - A.length = 1 by omega]
  rfl
theorem addr_push2 {F : List ForkT} {p : Place} {t g n : Nat} {G : Nat → Nat} (hp : PlaceOk F p) (hn : F.length ≤ n) : addrP t (pushG G n g) p = addrP t G p := by
  cases p with
  | top => rfl
  | kid i b =>
    have := hp.1
    unfold addrP; simp only; rw [push_old (by omega)]
theorem setT_twice {top k k' : Option Nat} {p : Place} : setT (setT top k p) k' p = setT top k' p := by cases p <;> rfl

set_option maxRecDepth 100000 in
set_option maxHeartbeats 4000000 in
theorem hang_join (base t g : Nat) (G : Nat → Nat) (F : List ForkT) (top : Option Nat) (sz : Nat) (rs : List RuleT) (r : RuleT) (p : Place) (w : World) (o : Nat) (fo : ForkT) (hT : TrieAt base w t G F top sz) (T : TrieOk F top rs) (hr : RulePre r) (hp : Path F top r p) (hg : VRow w g (fcells G (fork0 r))) (hgb : base ≤ g) (hgt : g ≠ t) (hgn : ∀ i, i < F.length → G i ≠ g) (hn : getP F top p = some o) (hfo : F[o]? = some fo) (hlt : ¬ (r.len ≤ fo.n ∧ agree r.a fo.a r.len)) (hgt2 : ¬ (fo.n ≤ r.len ∧ agree fo.a r.a fo.n)) (hsz : sz ≤ 1000000) (hbw : base ≤ w.heap.size) :
    Calls Tryz.prog 136 #[.pointer (some ⟨t, 0, none⟩), .pointer (some (addrP t G p)), .pointer (some ⟨g, 0, none⟩)] w (Hung3 base w t (rs ++ [r]) sz) := by
  have hok := hp.ok
  have hst := hang_start hT hok hp.two hg hgb hgt hgn hfo
  have hbase := addr_low hT hok
  have hb1 := ((Below.refl base w).setCell hbase (.pointer (some ⟨g, 0, none⟩))).setCell (p := ⟨t, 1, none⟩) hT.low.1 (.int .i64 ((sz : Int) + 1))
  obtain ⟨hc0, hf0⟩ := hT.place hok
  rw [hn] at hc0
  have ho : o < F.length := (List.getElem?_eq_some_iff.1 hfo).1
  have hspo := T.span o fo hfo
  have hmt := fun w => meet3_any r.a r.len fo.a fo.n hr.a hspo.1 w
  obtain ⟨hm1, hm2, hag, hne⟩ := meet_join hr.a hspo.1 hr.len hspo.2.1 hlt hgt2
  have hput := put_join T hr hp hn hfo hm2 hm1 hag hne
  have hmr := hr.len
  generalize meetN r.a r.len fo.a fo.n = m at *
  have hbit1 := fun w => bit_any r.a m hr.a (by omega) w
  have hbit2 := fun w => bit_any fo.a m hspo.1 (by omega) w
  have hbb1 := bitN_two r.a m
  have hbb2 := bitN_two fo.a m
  have hlo4 : lowN r.a m < 4294967296 := Nat.lt_of_le_of_lt (Nat.div_mul_le_self _ _) hr.a
  generalize lowN r.a m = lo at *
  generalize bitN fo.a m = b2 at *
  generalize bitN r.a m = b1 at *
  have hplt : (addrP t G p).block < w.heap.size := by
    cases p with
    | top => exact hT.head.lt
    | kid i c => exact (hT.fork i _ (List.getElem?_eq_getElem hok.1)).lt
  have hglt := hg.lt
  have holt := (hT.fork o fo hfo).lt
  have htlt := hT.head.lt
  obtain ⟨W1, hW1⟩ : ∃ W1, W1 = (w.setCell (addrP t G p) (.pointer (some ⟨g, 0, none⟩))).setCell ⟨t, 1, none⟩ (.int .i64 ((sz : Int) + 1)) := ⟨_, rfl⟩
  have hW1s : W1.heap.size = w.heap.size := by rw [hW1]; simp
  have hc1 : (w.setCell (addrP t G p) (.pointer (some ⟨g, 0, none⟩))).cell? ⟨t, 1, none⟩ = some (.int .i64 (sz : Int)) ∧ (w.setCell (addrP t G p) (.pointer (some ⟨g, 0, none⟩))).frozen? ⟨t, 1, none⟩ = false := by
    have hpush := hT.push hg (fun b k h => absurd h kid_fork) hgt hgb hgn
    have hset := hpush.setP (p := p) hok.app (some F.length) (fun i e => by injection e with e; simp; omega)
    rw [addr_push hok, ptr_new, setP_app hok] at hset
    exact hset.head.get (i := 1) rfl
  rw [← hW1] at hst hb1
  obtain ⟨hs1, hs2⟩ := hc1
  have hKS : ∀ W, Below W1.heap.size W1 W → HangSt base t g G F top sz r p o fo W := fun W hW => hst.below_ (by omega) (by omega) (by omega) hW
  have HKS := Lib.hid hKS
  have hbW : base ≤ W1.heap.size := by omega
  have hgW : g < W1.heap.size := by omega
  have htW : t < W1.heap.size := by omega
  have hpW : (addrP t G p).block < W1.heap.size := by omega
  have HBASE := Lib.hid hbase
  have HOK2 := Lib.hid hok
  have HTWO := Lib.hid hp.two
  have HFO := Lib.hid hfo
  have htb : base ≤ t := hT.low.1
  clear hW1s
  have HB1 := Lib.hid hb1
  have HW1 := Lib.hid hW1
  have HMT := Lib.hid hmt
  have HBIT1 := Lib.hid hbit1
  have HBIT2 := Lib.hid hbit2
  have HPUT := Lib.hid hput
  have HC1 := Lib.hid hbb1
  have HC2 := Lib.hid hbb2
  obtain ⟨pa, hpa⟩ : ∃ pa, pa = addrP t G p := ⟨_, rfl⟩
  rw [← hpa] at hc0 hf0 hs1 hs2 HW1 ⊢
  have HPA := Lib.hid hpa
  obtain ⟨go, hgo⟩ : ∃ go, go = G o := ⟨_, rfl⟩
  have hc0' : w.cell? pa = some (.pointer (some ⟨go, 0, none⟩)) := by rw [hc0, hgo]; rfl
  have HGO := Lib.hid hgo
  have i10 : (0 : Int) ≤ (b1 : Int) := by omega
  have i11 : (b1 : Int) < 2 := by have := HC1.out; omega
  have i20 : (0 : Int) ≤ (b2 : Int) := by omega
  have i21 : (b2 : Int) < 2 := by have := HC2.out; omega
  have hmne : ((m : Int) == (r.len : Int)) = false := by rw [beq_eq_false_iff_ne]; omega
  have hmne2 : (m == r.len) = false := by rw [beq_eq_false_iff_ne]; omega
  clear hok hst hbase hb1 hspo hmt hbit1 hbit2 hput hbb1 hbb2 hW1 hKS hpa hgo hc0 hT T hr hp hg hgn hfo hn hag hlt hgt2 hne
  go_enter Tryz.func136, Tryz.ntmps136
  go_wp2_with fail
  rw [← HW1.out]
  clear hc0' hf0 hs1 hs2
  have hK1 : ∀ W, Below W1.heap.size W1 W → (W.cell? ⟨g, 0, none⟩ = some (.int .u32 (r.a : Int)) ∧ W.cell? ⟨g, 1, none⟩ = some (.int .i64 (r.len : Int)) ∧ W.cell? ⟨go, 0, none⟩ = some (.int .u32 (fo.a : Int)) ∧ W.cell? ⟨go, 1, none⟩ = some (.int .i64 (fo.n : Int))) ∧ Below W1.heap.size W1 W := fun W hW => by
    have := HKS.out W hW
    rw [HGO.out]
    exact ⟨⟨this.ga, this.gn, this.oa, this.on⟩, hW⟩
  have KS := Lib.hid hK1
  clear hK1
  go_upto_region 4 with fail
  go_cut [7] (fun s7 wx => ∃ q : Nat, s7 = .pointer (some ⟨q, 0, none⟩) ∧ q < wx.heap.size ∧ W1.heap.size ≤ q ∧ wx.cell? ⟨q, 0, none⟩ = some (.int .u32 (lo : Int)) ∧ wx.cell? ⟨q, 1, none⟩ = some (.int .i64 (m : Int)) ∧ Below W1.heap.size W1 wx)
  case first =>
    go_region_held3 (fun W => (W.cell? ⟨g, 0, none⟩ = some (.int .u32 (r.a : Int)) ∧ W.cell? ⟨g, 1, none⟩ = some (.int .i64 (r.len : Int)) ∧ W.cell? ⟨go, 0, none⟩ = some (.int .u32 (fo.a : Int)) ∧ W.cell? ⟨go, 1, none⟩ = some (.int .i64 (fo.n : Int))) ∧ Below W1.heap.size W1 W)
      ((refine KS.out _ ?_; first
        | exact below_drew (Below.refl _ _)
        | exact (below_drew (Below.refl W1.heap.size W1)).trans hb5
        | exact ((below_drew (Below.refl W1.heap.size W1)).trans hb5).alloc hb5.size _
        | exact (below_drew (Below.refl W1.heap.size W1)).alloc (Nat.le_refl _) _
        | exact ((below_drew (Below.refl W1.heap.size W1)).alloc (Nat.le_refl _) _).trans (hb5.mono (by simp))
        | exact ((((below_drew (Below.refl W1.heap.size W1)).alloc (Nat.le_refl _) _).trans (hb5.mono (by simp))).setCell (p := ⟨W1.heap.size, 0, none⟩) (Nat.le_refl _) _).setCell (p := ⟨W1.heap.size, 1, none⟩) (Nat.le_refl _) _))
      (first | (go_at_call 134; refine (HMT.out _).mono ?_; rintro e w5 ⟨rfl, hb5⟩; (try (have hv5 : VRow w5 W1.heap.size [.int .u32 0, .int .i64 0] := VRow.below (w := (W1.alloc (.cells #[.int .u32 0, .int .i64 0] 199)).drew) (VRow.new W1 #[.int .u32 0, .int .i64 0] 199).drew hb5 (by simp); have hq0 := (hv5.get (i := 0) rfl).1; have hq1 := (hv5.get (i := 1) rfl).1; have hq2 := (hv5.get (i := 0) rfl).2; have hq3 := (hv5.get (i := 1) rfl).2))))
    · have hv := VRow.new w5 #[.int .u32 (lo : Int), .int .i64 (m : Int)] 199
      go_wp2_with fail
      go_meet
      exact ⟨w5.heap.size, rfl, hv.lt, hb5.size, (hv.get (i := 0) rfl).1, (hv.get (i := 1) rfl).1, ((below_drew (Below.refl W1.heap.size W1)).trans hb5).alloc hb5.size _⟩
    · have hv := (hv5.set_ 0 (.int .u32 (lo : Int))).set_ 1 (.int .i64 (m : Int))
      have hbe := ((((below_drew (Below.refl W1.heap.size W1)).alloc (Nat.le_refl _) _).trans (hb5.mono (by simp))).setCell (p := ⟨W1.heap.size, 0, none⟩) (Nat.le_refl _) (.int .u32 (lo : Int))).setCell (p := ⟨W1.heap.size, 1, none⟩) (Nat.le_refl _) (.int .i64 (m : Int))
      go_wp2_with fail
      go_meet
      exact ⟨W1.heap.size, rfl, hv.lt, Nat.le_refl _, (hv.get (i := 0) rfl).1, (hv.get (i := 1) rfl).1, hbe⟩
  case rest =>
    obtain ⟨q, rfl, hql, hqW, hq0, hq1, hbx⟩ := hcut
    have hS := HKS.out wc hbx
    have hga := hS.ga
    have hgn := hS.gn
    have HS := Lib.hid hS
    have HBX := Lib.hid hbx
    clear hS hbx KS
    go_wp2_with fail
    go_big_quiet (fail)
    obtain ⟨w6, hw6⟩ : ∃ w6, w6 = wc.drewN nq := ⟨_, rfl⟩
    rw [← hw6]
    have hb6 : Below wc.heap.size wc w6 := by rw [hw6]; exact below_drawn (Below.refl _ _) nq
    have hB6 := HBX.out.trans (hb6.mono HBX.out.size)
    have hq6 := (hb6.cell (p := ⟨q, 0, none⟩) hql).trans hq0
    have hr6 := (hb6.cell (p := ⟨q, 1, none⟩) hql).trans hq1
    have hql6 : q < w6.heap.size := Nat.lt_of_lt_of_le hql hb6.size
    have HB6 := Lib.hid hB6
    clear hq0 hq1 hga hgn HBX HS hw6 hb6 hB6 hql
    obtain ⟨w7, hw7⟩ : ∃ w7, w7 = w6.alloc (.cells #[.int .u32 (lo : Int), .int .i64 (m : Int), .int .u32 0, .int .i64 0, .int .i64 0, .int .i64 0, .bool false, .pointer none, .pointer none] 202) := ⟨_, rfl⟩
    have hb7 : Below w6.heap.size w6 w7 := by rw [hw7]; exact (Below.refl _ _).alloc (Nat.le_refl _) _
    have hj7 : VRow w7 w6.heap.size (fcells G (join0 lo m)) := by rw [hw7]; exact VRow.new w6 #[.int .u32 (lo : Int), .int .i64 (m : Int), .int .u32 0, .int .i64 0, .int .i64 0, .int .i64 0, .bool false, .pointer none, .pointer none] _
    have HB7 := Lib.hid (HB6.out.trans (hb7.mono HB6.out.size))
    have hr7 := (hb7.cell (p := ⟨q, 1, none⟩) hql6).trans hr6
    have HJ7 := Lib.hid hj7
    have HW7 := Lib.hid hw7
    have hjW : W1.heap.size ≤ w6.heap.size := HB6.out.size
    clear hw7 hb7 hj7
    go_upto_region 7 with fail
    rw [← HW7.out]
    clear hq6 hr6
    have hS7 := HKS.out w7 HB7.out
    have hg7 := hS7.ga
    obtain ⟨kv, hkv⟩ : ∃ kv, kv = ptrV G ((join0 lo m).kid b1) := ⟨_, rfl⟩
    obtain ⟨hk7, hkf7⟩ := HJ7.out.get (fcells_kid (G := G) (f := join0 lo m) HC1.out)
    rw [← hkv] at hk7
    have HS7 := Lib.hid hS7
    clear hS7 hkv
    go_cut [8] (fun s8 wx => s8 = .pointer (some ⟨w6.heap.size, 0, none⟩) ∧ wx = (w7.setCell ⟨w6.heap.size, 7 + b1, none⟩ (.pointer (some ⟨g, 0, none⟩))).drew)
    case first =>
      go_region_with (first | (go_at_call 135; refine (HBIT1.out _).mono ?_; rintro e w' ⟨rfl, rfl⟩))
      all_goals
        go_wp2_with fail
        go_meet
        exact ⟨rfl, rfl⟩
    case rest =>
      obtain ⟨rfl, rfl⟩ := hcut
      have HQ7 := Lib.hid hr7
      clear hg7 hr7 hk7 hkf7
      obtain ⟨w8, hw8⟩ : ∃ w8, w8 = (w7.setCell ⟨w6.heap.size, 7 + b1, none⟩ (.pointer (some ⟨g, 0, none⟩))).drew := ⟨_, rfl⟩
      rw [← hw8]
      have hlen1 : (setP F (some F.length) p ++ [fork0 r]).length = F.length + 1 := by rw [List.length_append, setP_len]; rfl
      have hjt : w6.heap.size ≠ t := by omega
      have hjg : ∀ i, i < (setP F (some F.length) p ++ [fork0 r]).length → pushG G F.length g i ≠ w6.heap.size := fun i hi e => by
        obtain ⟨f, hf⟩ : ∃ f, (setP F (some F.length) p ++ [fork0 r])[i]? = some f := ⟨_, List.getElem?_eq_getElem hi⟩
        have h1 := (HKS.out W1 (Below.refl _ _)).trie.fork i f hf
        have h2 := h1.lt
        omega
      have hpush := HS7.out.trie.push (g := w6.heap.size) (f := join0 lo m) (by
        have := HJ7.out
        exact this) (fun b k h => absurd h kid_join) hjt (by omega) hjg
      rw [hlen1, List.append_assoc] at hpush
      have hset1 := hpush.setP (p := .kid (F.length + 1) b1) ⟨by simp [setP_len], HC1.out⟩ (some F.length) (fun i e => by injection e with e; simp [setP_len]; omega)
      have hadr : ∀ b, addrP t (pushG (pushG G F.length g) (F.length + 1) w6.heap.size) (.kid (F.length + 1) b) = ⟨w6.heap.size, 7 + b, none⟩ := fun b => by unfold addrP; simp only; rw [push_new]
      have hptr : ptrV (pushG (pushG G F.length g) (F.length + 1) w6.heap.size) (some F.length) = .pointer (some ⟨g, 0, none⟩) := by simp only [ptrV, Option.map_some]; rw [push_old (by omega), push_new]
      have hptro : ptrV (pushG (pushG G F.length g) (F.length + 1) w6.heap.size) (some o) = .pointer (some ⟨go, 0, none⟩) := by simp only [ptrV, Option.map_some]; rw [push_old (by omega), push_old ho, HGO.out]
      rw [hadr, hptr] at hset1
      have hT8 := hset1.below (W' := w8) (by rw [hw8]; exact below_drew (Below.refl _ _))
      rw [show setP F (some F.length) p ++ ([fork0 r] ++ [join0 lo m]) = setP F (some F.length) p ++ [fork0 r, join0 lo m] from rfl, setKid_last (by rw [setP_len])] at hT8
      rw [show setT (setT top (some F.length) p) (some F.length) (.kid (F.length + 1) b1) = setT top (some F.length) p from rfl] at hT8
      have hb78 : Below w6.heap.size w7 w8 := by rw [hw8]; exact below_drew ((Below.refl _ _).setCell (p := ⟨w6.heap.size, 7 + b1, none⟩) (Nat.le_refl _) _)
      have hq8 : w8.cell? ⟨q, 1, none⟩ = some (.int .i64 (m : Int)) := (hb78.cell (p := ⟨q, 1, none⟩) hql6).trans HQ7.out
      have hok2 : PlaceOk (setP F (some F.length) p ++ [fork0 r, ((join0 lo m).setKid b1 (some F.length))]) p := setP_ok HOK2.out
      have hpl8 := hT8.place hok2
      rw [addr_push2 HOK2.out (by omega), addr_push HOK2.out, getP_set HOK2.out, hptr, ← HPA.out] at hpl8
      obtain ⟨hp8, hpf8⟩ := hpl8
      have hT9 := hT8.setP hok2 (some (F.length + 1)) (fun i e => by injection e with e; simp [setP_len]; omega)
      rw [addr_push2 HOK2.out (by omega), addr_push HOK2.out, ← HPA.out, ptr_new, setP_twice HOK2.out, setT_twice] at hT9
      have ht9 : (w8.setCell pa (.pointer (some ⟨w6.heap.size, 0, none⟩))).cell? ⟨t, 1, none⟩ = some (.int .i64 ((sz : Int) + 1)) := (hT9.head.get (i := 1) rfl).1
      have htf9 : (w8.setCell pa (.pointer (some ⟨w6.heap.size, 0, none⟩))).frozen? ⟨t, 1, none⟩ = false := (hT9.head.get (i := 1) rfl).2
      have hT10 := hT9.size_ (sz + 2)
      obtain ⟨w9, hw9⟩ : ∃ w9, w9 = (w8.setCell pa (.pointer (some ⟨w6.heap.size, 0, none⟩))).setCell ⟨t, 1, none⟩ (.int .i64 ((sz : Int) + 1 + 1)) := ⟨_, rfl⟩
      rw [show (.int .i64 ((sz + 2 : Nat) : Int) : Value) = .int .i64 ((sz : Int) + 1 + 1) from rfl, ← hw9] at hT10
      have hok3 : PlaceOk (setP F (some (F.length + 1)) p ++ [fork0 r, ((join0 lo m).setKid b1 (some F.length))]) p := setP_ok HOK2.out
      have hpl9 := hT10.place hok3
      rw [addr_push2 HOK2.out (by omega), addr_push HOK2.out, getP_set HOK2.out, ptr_new, ← HPA.out] at hpl9
      have hp9 := hpl9.1
      have hq9 : w9.cell? ⟨q, 1, none⟩ = some (.int .i64 (m : Int)) := by
        have hne1 : (⟨t, 1, none⟩ : Addr) ≠ ⟨q, 1, none⟩ := by intro e; injection e with e _ _; omega
        have hne2 : pa ≠ ⟨q, 1, none⟩ := by
          intro e
          have h1 := hpW
          rw [← HPA.out, e] at h1
          exact absurd h1 (by show ¬ q < W1.heap.size; omega)
        rw [hw9, World.cell?_setCell_other (h := hne1), World.cell?_setCell_other (h := hne2)]
        exact hq8
      obtain ⟨fo', hfo', hoa, hon, _⟩ := setP_get (k := some (F.length + 1)) HFO.out HTWO.out
      have hor := hT10.fork o fo' (by rw [List.getElem?_append_left (by rw [setP_len]; exact ho)]; exact hfo')
      rw [push_old (by omega), push_old ho, ← HGO.out] at hor
      have ho9 : w9.cell? ⟨go, 0, none⟩ = some (.int .u32 (fo.a : Int)) := by rw [← hoa]; exact (hor.get (i := 0) rfl).1
      have hjr := hT10.fork (F.length + 1) ((join0 lo m).setKid b1 (some F.length)) (by rw [List.getElem?_append_right (by rw [setP_len]; omega), setP_len]; simp)
      rw [push_new] at hjr
      obtain ⟨hk9, hkf9⟩ := hjr.get (fcells_kid (G := pushG (pushG G F.length g) (F.length + 1) w6.heap.size) (f := (join0 lo m).setKid b1 (some F.length)) HC2.out)
      obtain ⟨kv9, hkv9⟩ : ∃ kv9, kv9 = ptrV (pushG (pushG G F.length g) (F.length + 1) w6.heap.size) (((join0 lo m).setKid b1 (some F.length)).kid b2) := ⟨_, rfl⟩
      rw [← hkv9] at hk9
      have hT11 := hT10.setP (p := .kid (F.length + 1) b2) ⟨by simp [setP_len], HC2.out⟩ (some o) (fun i e => by injection e with e; simp [setP_len]; omega)
      rw [hadr, hptro, setKid_last (by rw [setP_len]), show setT (setT top (some (F.length + 1)) p) (some o) (.kid (F.length + 1) b2) = setT top (some (F.length + 1)) p from rfl] at hT11
      have hBa : Below base w w8 := (HB1.out.trans (HB7.out.mono hbW)).trans (hb78.mono (by omega))
      have hBp : base ≤ pa.block := by rw [HPA.out]; exact HBASE.out
      have hBb : Below base w w9 := by rw [hw9]; exact (hBa.setCell hBp _).setCell (p := ⟨t, 1, none⟩) htb _
      have hBc := hBb.setCell (p := ⟨w6.heap.size, 7 + b2, none⟩) (show base ≤ w6.heap.size by omega) (.pointer (some ⟨go, 0, none⟩))
      have HFIN : Hid (Hung3 base w t (rs ++ [r]) sz (.returned (.tuple #[])) (w9.setCell ⟨w6.heap.size, 7 + b2, none⟩ (.pointer (some ⟨go, 0, none⟩))).drew) := Lib.hid ⟨rfl, _, _, _, _, hT11.below (below_drew (Below.refl _ _)), HPUT.out, below_drew hBc, by omega⟩
      have HW9 := Lib.hid hw9
      clear hBa hBb hBc hT11 hkv9 hjr hor hfo' hoa hon hq8 hpl9 hT10 hT9 hw9 hT8 hset1 hpush hadr hptr hptro hb78 hjg hlen1 hok2 hok3 hw8
      clear HBASE HOK2 HTWO HFO HPUT HS7 HKS HB1 HB6 HB7 HJ7 HW7 HQ7
      go_wp2_with fail
      rw [← HW9.out]
      clear ht9 htf9 hp8 hpf8
      go_region_with (first | (go_at_call 135; refine (HBIT2.out _).mono ?_; rintro e w' ⟨rfl, rfl⟩))
      all_goals
        clear hp9 hq9 ho9 hk9 hkf9
        go_wp2_with fail
        exact bodyPost_end (v := .tuple #[]) (by simp [results, Tryz.results136, go_sem]) rfl HFIN.out
end Go.Proofs.YtpjoefekhgmlhaaGreat.Tp
