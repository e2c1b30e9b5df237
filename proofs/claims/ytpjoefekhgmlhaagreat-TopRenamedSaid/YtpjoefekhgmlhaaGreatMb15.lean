/- CONTRACTS of netfile.putAll of rules, netfile.putNode, netfile.putAll of nodes, netfile.Put. · CONTRACTS of netfile.takeRule, netfile.takeAll of rules, netfile.takeNode, netfile.takeAll of nodes, netfile.Take, of what netfile.Put makes. -/
import Derived.Test.YtpjoefekhgmlhaaGreatMb14
namespace Go.Proofs.YtpjoefekhgmlhaaGreat.Tp
open Go.RowKit Mem

theorem gput_ownN (n : Nat) (ni : Int) (e : ni = (n : Int)) (hn : n < 16384) (w : World) : Calls Tryz.prog 66 #[.int .i64 ni] w (OPost w (bytes (gp n)) 0) := by
  subst e; exact gput_own n hn w
def rulesB (l : List RuleT) : List Nat := gp l.length ++ l.flatMap ruleB
theorem flat_len (l : List RuleT) : (l.flatMap ruleB).length = l.length * 8 := by
  induction l with
  | nil => rfl
  | cons r l ih => rw [List.flatMap_cons, List.length_append, ih, ruleB_len, List.length_cons]; omega

set_option maxRecDepth 100000 in
set_option maxHeartbeats 1000000 in
theorem prules_any (A : Option Addr) (c : Nat) (l : List RuleT) (w : World) (hA : RulesAt w A l) (h : ∀ r ∈ l, RuleFits r) (hl : l.length ≤ 4096) :
    Calls Tryz.prog 67 #[.slice A l.length c, .func (.func 68) #[] #[]] w (VPost w (bytes (rulesB l)) 0) := by
  obtain ⟨gl, hgl⟩ : ∃ gl, gl = gp l.length := ⟨_, rfl⟩
  have hgp := gput_own l.length (by omega) w
  have hg2 := gp_len l.length
  rw [← hgl] at hgp hg2
  obtain ⟨G, hG⟩ : ∃ G, G = gl.length := ⟨_, rfl⟩
  rw [← hG] at hg2
  obtain ⟨hg1, hg2⟩ := hg2
  obtain ⟨fb, hfb⟩ : ∃ fb, fb = rulesB l := ⟨_, rfl⟩
  have hfr : fb = gl ++ l.flatMap ruleB := by rw [hfb, hgl]; rfl
  have hfl : fb.length = G + l.length * 8 := by rw [hfr, List.length_append, flat_len, ← hG]
  rw [← hfb]
  have hrp := fun r (hr : RuleFits r) W => rput_any r hr W
  have HGP := Lib.hid hgp
  have HG := Lib.hid hG
  have HFR := Lib.hid hfr
  have HFL := Lib.hid hfl
  have HRP := Lib.hid hrp
  have H := Lib.hid h
  have HA := Lib.hid hA
  clear hgl hgp hG hfb hfr hfl hrp h hA
  go_enter Tryz.func67, Tryz.ntmps67
  go_wp2_with fail
  refine (HGP.out).mono ?_
  rintro e w2 ⟨R, m, rfl, hown, hb2, hm1, hm2⟩
  rw [bytes_len, ← HG.out] at hown
  have HO := Lib.hid hown
  have HB2 := Lib.hid hb2
  clear hown hb2
  rw [bytes_len, ← HG.out]
  go_wp2_with fail
  go_loopw [6, 23] (fun s i wr => ∃ k : Nat, k ≤ l.length ∧ i = .int .i64 k ∧ wr.ownsRow w.heap.size 5 1 s (G + k * 8) (bytes (gl ++ (l.take k).flatMap ruleB)) ∧ Below w.heap.size w wr) (fun _ i _ => l.length - (intOf i).toNat)
  case atStart => exact ⟨0, by omega, rfl, by simpa using HO.out, HB2.out⟩
  case round =>
    clear HO HB2
    obtain ⟨k, hk, rfl, hown, hbr⟩ := hrel
    obtain ⟨S, cp, rfl, hc1, hc2⟩ := own_form hown
    by_cases hlt : k < l.length
    · obtain ⟨b, off, hAe, hb, hc0, hc1', hc2', hc3⟩ := RulesAt.at_ HA.out hlt
      have hd0 := (hbr.cell (p := ⟨b, off + k * 4, none⟩) hb).trans hc0
      have hd1 := (hbr.cell (p := ⟨b, off + k * 4 + 1, none⟩) hb).trans hc1'
      have hd2 := (hbr.cell (p := ⟨b, off + k * 4 + 2, none⟩) hb).trans hc2'
      have hd3 := (hbr.cell (p := ⟨b, off + k * 4 + 3, none⟩) hb).trans hc3
      have hnx : gl ++ (l.take (k + 1)).flatMap ruleB = gl ++ (l.take k).flatMap ruleB ++ ruleB l[k] := by rw [List.take_succ_eq_append_getElem hlt, List.flatMap_append, List.append_assoc]; simp
      have hfit := H.out _ (List.getElem_mem hlt)
      obtain ⟨r, hr⟩ : ∃ r, r = l[k] := ⟨_, rfl⟩
      rw [← hr] at hd0 hd1 hd2 hd3 hnx hfit
      obtain ⟨w3, hw3⟩ : ∃ w3, w3 = wr.alloc (.cells #[.int .u32 (r.a : Int), .int .i64 (r.len : Int), .int .i64 (r.act : Int), .int .i64 (r.next : Int)] 43) := ⟨_, rfl⟩
      have h3 : Below wr.heap.size wr w3 := by rw [hw3]; exact (Below.refl _ _).alloc (Nat.le_refl _) _
      have hq : ∀ i u, #[.int .u32 (r.a : Int), .int .i64 (r.len : Int), .int .i64 (r.act : Int), .int .i64 (r.next : Int)][i]? = some u → w3.cell? ⟨wr.heap.size, i, none⟩ = some u := fun i u hu => by
        rw [hw3, cell_of_row _ _ i _ _ (0, 0) (heap_alloc_new wr _)]; exact hu
      have hq0 : w3.cell? ⟨wr.heap.size, 0, none⟩ = some (.int .u32 (r.a : Int)) := hq 0 _ rfl
      have hq1 : w3.cell? ⟨wr.heap.size, 1, none⟩ = some (.int .i64 (r.len : Int)) := hq 1 _ rfl
      have hq2 : w3.cell? ⟨wr.heap.size, 2, none⟩ = some (.int .i64 (r.act : Int)) := hq 2 _ rfl
      have hq3 : w3.cell? ⟨wr.heap.size, 3, none⟩ = some (.int .i64 (r.next : Int)) := hq 3 _ rfl
      have hput := HRP.out r hfit w3
      have hown3 := own_below hown h3
      have hbr3 := hbr.trans (h3.mono hbr.size)
      have HNX := Lib.hid hnx
      have HPUT := Lib.hid hput
      have HW3 := Lib.hid hw3
      have HOWN3 := Lib.hid hown3
      have HBR3 := Lib.hid hbr3
      clear hc0 hc1' hc2' hc3 hr hnx hfit hw3 h3 hq hput hown hown3 hbr hbr3
      subst hAe
      go_wp2_with fail
      rw [← HW3.out]
      clear hd0 hd1 hd2 hd3
      refine (HPUT.out).mono ?_
      rintro e w4 ⟨R4, m4, rfl, hL4, hb4, _, _⟩
      have hown4 := own_below HOWN3.out hb4
      have hb4w := HBR3.out.trans (hb4.mono HBR3.out.size)
      have HB4 := Lib.hid hb4w
      have HL4 := Lib.hid hL4
      have hln : (bytes (ruleB r)).length = 8 := rfl
      rw [hln]
      clear hb4 hb4w hL4 hq0 hq1 hq2 hq3 hln HW3 HOWN3 HBR3 HPUT
      go_wp2_with (at_builtin; refine wpList_app rfl (.tmp 36) (.tmp 37) _ rfl Tryz.underlying45 byte_info rfl (by omega) (by omega) w w4 HB4.out _ _ _ _ rfl hown4 R4 8 m4 _ rfl rfl HL4.out (bytes_one _) (by omega) ?_; intro S5 c5 w5 hown5 hc5 hc5' hb5 _)
      refine ⟨⟨k + 1, by omega, by go_num, ?_, hb5⟩, by simp [intOf]; omega⟩
      rw [HNX.out, bytes_app, show G + (k + 1) * 8 = G + k * 8 + 8 by omega]
      exact hown5
    · obtain rfl : k = l.length := by omega
      rw [List.take_of_length_le (Nat.le_refl _), ← HFR.out] at hown
      go_wp2_with fail
      go_ret2
      exact ⟨S, cp, Gr.tup_ret (by rw [bytes_len, HFL.out]), .of_own hown, hbr, by rw [bytes_len, HFL.out]; exact hc1, hc2⟩

def nodeB (l : List RuleT) : List Nat := sectB 84 (rulesB l)
theorem rulesB_len (l : List RuleT) : (rulesB l).length ≤ 2 + l.length * 8 := by
  unfold rulesB; rw [List.length_append, flat_len]; have := gp_len l.length; omega
theorem nodeB_len (l : List RuleT) : (nodeB l).length ≤ 5 + l.length * 8 := by
  unfold nodeB sectB; rw [List.length_append, List.length_append]; have := rulesB_len l; have := gp_len (rulesB l).length; simp; omega
set_option maxHeartbeats 400000 in
theorem pnode_any (A : Option Addr) (c : Nat) (l : List RuleT) (w : World) (hA : RulesAt w A l) (h : ∀ r ∈ l, RuleFits r) (hl : l.length ≤ 2000) :
    Calls Tryz.prog 31 #[.slice A l.length c] w (VPost w (bytes (nodeB l)) 0) := by
  have hpr := prules_any A c l w hA h (by omega)
  have hbl := rulesB_len l
  have hse := fun B k W (hB : Lies W B (bytes (rulesB l))) => section_any B k 84 (rulesB l) W hB (by omega) (by omega)
  have hnb : sectB 84 (rulesB l) = nodeB l := rfl
  rw [hnb] at hse
  obtain ⟨rb, hrb⟩ : ∃ rb, rb = rulesB l := ⟨_, rfl⟩
  rw [← hrb] at hpr hse
  have HPR := Lib.hid hpr
  have HSE := Lib.hid hse
  clear hpr hse hA h hrb hnb hbl
  go_enter Tryz.func31, Tryz.ntmps31
  go_wp2_with fail
  refine (HPR.out).mono ?_
  rintro e w2 ⟨R, m, rfl, hL, hb2, _, _⟩
  have HL := Lib.hid hL
  have HB2 := Lib.hid hb2
  rw [bytes_len]
  clear hL hb2
  go_wp2_with fail
  refine (HSE.out R m _ HL.out).mono ?_
  rintro e w3 ⟨R3, m3, rfl, hL3, hb3, hc3, hc3'⟩
  go_wp2_with fail
  go_ret2
  exact ⟨R3, m3, Gr.tup_ret (bytes_len _).symm, hL3, HB2.out.trans (hb3.mono HB2.out.size), hc3, hc3'⟩

def nodesB (net : List (List RuleT)) : List Nat := gp net.length ++ net.flatMap nodeB
/-- The bytes of the first k nodes. -/
def netUpto (net : List (List RuleT)) (k : Nat) : List Nat := (net.take k).flatMap nodeB
theorem netUpto_succ {net : List (List RuleT)} {k : Nat} (h : k < net.length) : netUpto net (k + 1) = netUpto net k ++ nodeB net[k] := by
  unfold netUpto
  rw [List.take_succ_eq_append_getElem h, List.flatMap_append]
  simp
theorem upto_len (net : List (List RuleT)) : (net.flatMap nodeB).length ≤ 5 * net.length + 8 * (net.map List.length).sum := by
  induction net with
  | nil => simp
  | cons l net ih =>
    rw [List.flatMap_cons, List.length_append, List.map_cons, List.sum_cons, List.length_cons]
    have := nodeB_len l
    omega
theorem sum_take (ns : List Nat) (k : Nat) : (ns.take k).sum ≤ ns.sum := by
  have := List.take_append_drop k ns
  have h2 : ns.sum = (ns.take k).sum + (ns.drop k).sum := by rw [← List.sum_append, this]
  omega
theorem netUpto_few {net : List (List RuleT)} (h : NetOk net) (k : Nat) : (netUpto net k).length ≤ 40000 := by
  have h1 := upto_len (net.take k)
  have h2 := h.nodes
  have h3 := h.rules
  have h4 := sum_take (net.map List.length) k
  rw [← List.map_take] at h4
  have h5 : (net.take k).length ≤ net.length := by simp; omega
  unfold netUpto
  omega
theorem fits_of {nodes : Nat} {r : RuleT} (h : RuleOk nodes r) (hn : nodes ≤ 256) : RuleFits r := by
  have h1 := h.a; have h2 := h.len
  rcases h.act with ⟨h3, h4⟩ | ⟨h3, h4⟩
  · exact ⟨h1, by omega, by omega, by omega⟩
  · exact ⟨h1, by omega, by omega, by omega⟩

set_option maxRecDepth 100000 in
set_option maxHeartbeats 1000000 in
theorem pnodes_any (A : Option Addr) (c : Nat) (net : List (List RuleT)) (w : World) (hA : NetAt w A net) (h : NetOk net) (hs : ∀ l ∈ net, l.length ≤ 2000) :
    Calls Tryz.prog 30 #[.slice A net.length c, .func (.func 31) #[] #[]] w (VPost w (bytes (nodesB net)) 0) := by
  have hnn := h.nodes
  obtain ⟨gl, hgl⟩ : ∃ gl, gl = gp net.length := ⟨_, rfl⟩
  have hgp := gput_own net.length (by omega) w
  have hg2 := gp_len net.length
  rw [← hgl] at hgp hg2
  obtain ⟨G, hG⟩ : ∃ G, G = gl.length := ⟨_, rfl⟩
  rw [← hG] at hg2
  obtain ⟨hg1, hg2⟩ := hg2
  obtain ⟨fb, hfb⟩ : ∃ fb, fb = nodesB net := ⟨_, rfl⟩
  have hfr : fb = gl ++ netUpto net net.length := by rw [hfb, hgl]; unfold netUpto; rw [List.take_of_length_le (Nat.le_refl _)]; rfl
  rw [← hfb]
  have hfew := netUpto_few h
  have hpn := fun B k (l : List RuleT) (hl : l ∈ net) W (hB : RulesAt W B l) => pnode_any B k l W hB (fun r hr => fits_of ((h.table l hl).rule r hr) hnn) (hs l hl)
  have HGP := Lib.hid hgp
  have HG := Lib.hid hG
  have HFR := Lib.hid hfr
  have HFEW := Lib.hid hfew
  have HPN := Lib.hid hpn
  have HA := Lib.hid hA
  clear hgl hgp hG hfb hfr hfew hpn h hs hA
  go_enter Tryz.func30, Tryz.ntmps30
  go_wp2_with fail
  refine (HGP.out).mono ?_
  rintro e w2 ⟨R, m, rfl, hown, hb2, hm1, hm2⟩
  rw [bytes_len, ← HG.out] at hown
  have HO := Lib.hid hown
  have HB2 := Lib.hid hb2
  clear hown hb2
  rw [bytes_len, ← HG.out]
  go_wp2_with fail
  go_loopw [6, 23] (fun s i wr => ∃ k N : Nat, k ≤ net.length ∧ i = .int .i64 k ∧ Hid (N = G + (netUpto net k).length) ∧ wr.ownsRow w.heap.size 5 1 s N (bytes (gl ++ netUpto net k)) ∧ Below w.heap.size w wr) (fun _ i _ => net.length - (intOf i).toNat)
  case atStart => exact ⟨0, G, by omega, rfl, Lib.hid (by simp [netUpto]), by simpa [netUpto] using HO.out, HB2.out⟩
  case round =>
    clear HO HB2
    obtain ⟨k, N, hk, rfl, HN, hown, hbr⟩ := hrel
    have hNf : N ≤ 50000 := by have := HFEW.out k; have := HN.out; omega
    obtain ⟨S, cp, rfl, hc1, hc2⟩ := own_form hown
    by_cases hlt : k < net.length
    · obtain ⟨b, off, B, cB, hAe, hb, hcell, hrules, hcB, hcB'⟩ := HA.out.at_ hlt
      have hcw := (hbr.cell (p := ⟨b, off + k, none⟩) hb).trans hcell
      have hnx : gl ++ netUpto net (k + 1) = gl ++ netUpto net k ++ nodeB net[k] := by rw [netUpto_succ hlt, List.append_assoc]
      have hnl := netUpto_succ hlt
      have hmem := List.getElem_mem hlt
      have hfk := HFEW.out (k + 1)
      have hput := HPN.out B cB _ hmem wr (hrules.below hbr)
      obtain ⟨l, hl⟩ : ∃ l, l = net[k] := ⟨_, rfl⟩
      rw [← hl] at hcw hnx hput hnl
      obtain ⟨M, hM⟩ : ∃ M, M = (nodeB l).length := ⟨_, rfl⟩
      have hM2 : (netUpto net (k + 1)).length = (netUpto net k).length + M := by rw [hnl, List.length_append, hM]
      have hMf : M ≤ 50000 := by omega
      have HNX := Lib.hid hnx
      have HPUT := Lib.hid hput
      have HOWN := Lib.hid hown
      have HBR := Lib.hid hbr
      have HM := Lib.hid hM
      have HM2 := Lib.hid hM2
      clear hcell hrules hl hnx hput hown hbr hnl hM hM2 hfk
      subst hAe
      go_wp2_with fail
      clear hcw
      refine (HPUT.out).mono ?_
      rintro e w4 ⟨R4, m4, rfl, hL4, hb4, _, _⟩
      have hown4 := own_below HOWN.out hb4
      have hb4w := HBR.out.trans (hb4.mono HBR.out.size)
      have HB4 := Lib.hid hb4w
      have HL4 := Lib.hid hL4
      rw [bytes_len, ← HM.out]
      clear hb4 hb4w hL4 HOWN HBR HPUT
      go_wp2_with (at_builtin; refine wpList_app rfl (.tmp 36) (.tmp 37) _ rfl Tryz.underlying45 byte_info rfl (by omega) (by omega) w w4 HB4.out _ _ _ _ rfl hown4 R4 M m4 _ rfl (by rw [bytes_len, HM.out, Nat.mul_one]) HL4.out (bytes_one _) (by omega) ?_; intro S5 c5 w5 hown5 hc5 hc5' hb5 _)
      refine ⟨⟨k + 1, N + M, by omega, by go_num, Lib.hid (by rw [HM2.out, HN.out]; omega), ?_, hb5⟩, by simp [intOf]; omega⟩
      rw [HNX.out, bytes_app]
      exact hown5
    · obtain rfl : k = net.length := by omega
      rw [← HFR.out] at hown
      have hN2 : fb.length = N := by rw [HFR.out, List.length_append, ← HG.out, HN.out]
      have HN2 := Lib.hid hN2
      clear hN2
      go_wp2_with fail
      go_ret2
      exact ⟨S, cp, Gr.tup_ret (by rw [bytes_len, HN2.out]), .of_own hown, hbr, by rw [bytes_len, HN2.out]; exact hc1, hc2⟩

theorem gp_byte {n : Nat} (hn : n < 16384) : ∀ b ∈ gp n, b < 256 := gp_lt hn
theorem rulesB_lt {l : List RuleT} (h : ∀ r ∈ l, RuleFits r) (hl : l.length ≤ 2000) : ∀ b ∈ rulesB l, b < 256 := by
  intro b hb
  unfold rulesB at hb
  rcases List.mem_append.1 hb with hb | hb
  · exact gp_lt (by omega) b hb
  · obtain ⟨r, hr, hb⟩ := List.mem_flatMap.1 hb
    exact ruleB_lt (h r hr) b hb
theorem nodeB_lt {l : List RuleT} (h : ∀ r ∈ l, RuleFits r) (hl : l.length ≤ 2000) : ∀ b ∈ nodeB l, b < 256 := by
  intro b hb
  unfold nodeB sectB at hb
  rcases List.mem_append.1 hb with hb | hb
  · rcases List.mem_append.1 hb with hb | hb
    · simp at hb; omega
    · have := rulesB_len l; exact gp_lt (by omega) b hb
  · exact rulesB_lt h hl b hb
theorem nodesB_lt {net : List (List RuleT)} (h : NetOk net) (hs : ∀ l ∈ net, l.length ≤ 2000) : ∀ b ∈ nodesB net, b < 256 := by
  intro b hb
  unfold nodesB at hb
  rcases List.mem_append.1 hb with hb | hb
  · exact gp_lt (by have := h.nodes; omega) b hb
  · obtain ⟨l, hl, hb⟩ := List.mem_flatMap.1 hb
    exact nodeB_lt (fun r hr => fits_of ((h.table l hl).rule r hr) h.nodes) (hs l hl) b hb
theorem nodesB_few {net : List (List RuleT)} (h : NetOk net) : (nodesB net).length ≤ 50000 := by
  unfold nodesB
  have := netUpto_few h net.length
  unfold netUpto at this
  rw [List.take_of_length_le (Nat.le_refl _)] at this
  have := gp_len net.length
  rw [List.length_append]
  omega
/-- A network's bytes. -/
def netB (net : List (List RuleT)) : List Nat := frameB 1179206193 (nodesB net)
set_option maxHeartbeats 400000 in
theorem nput_any (A : Option Addr) (c : Nat) (net : List (List RuleT)) (w : World) (hA : NetAt w A net) (h : NetOk net) (hs : ∀ l ∈ net, l.length ≤ 2000) :
    Calls Tryz.prog 12 #[.agg #[.slice A net.length c]] w (VPost w (bytes (netB net)) 0) := by
  have hb0 : Below w.heap.size w (w.alloc (.cells #[.slice A net.length c] 24)) := (Below.refl _ _).alloc (Nat.le_refl _) _
  have hnm := nmay_any A c net _ (hA.below hb0) h
  have hpn := fun W (hW : Below w.heap.size w W) => pnodes_any A c net W (hA.below hW) h hs
  have hfp := fun B k W (hB : Lies W B (bytes (nodesB net))) => fput_any B k (nodesB net) 1179206193 W (by omega) hB (nodesB_lt h hs) (by have := nodesB_few h; omega)
  have hnb : frameB 1179206193 (nodesB net) = netB net := rfl
  rw [hnb] at hfp
  obtain ⟨nb, hnb2⟩ : ∃ nb, nb = nodesB net := ⟨_, rfl⟩
  rw [← hnb2] at hpn hfp
  have HNM := Lib.hid hnm
  have HPN := Lib.hid hpn
  have HFP := Lib.hid hfp
  have HB0 := Lib.hid hb0
  clear hnm hpn hfp hb0 hA h hs hnb hnb2
  go_enter Tryz.func12, Tryz.ntmps12
  go_wp2_with fail
  refine (HNM.out).mono ?_
  rintro e w2 ⟨rfl, hb2⟩
  have hx := box_cell w w2 24 #[.slice A net.length c] hb2 0 _ rfl
  have hb2w := HB0.out.trans (hb2.mono HB0.out.size)
  have HB2 := Lib.hid hb2w
  clear hb2 hb2w HNM HB0
  go_wp2_with fail
  refine (HPN.out _ HB2.out).mono ?_
  rintro e w3 ⟨R, m, rfl, hL, hb3, _, _⟩
  have hb3w := HB2.out.trans (hb3.mono HB2.out.size)
  have HB3 := Lib.hid hb3w
  have HL := Lib.hid hL
  rw [bytes_len]
  clear hL hb3 hb3w HB2 hx HPN
  go_wp2_with fail
  refine (HFP.out R m _ HL.out).mono ?_
  rintro e w4 ⟨R4, m4, rfl, hL4, hb4, hc4, hc4'⟩
  go_wp2_with fail
  go_ret2
  exact ⟨R4, m4, Gr.tup_ret (bytes_len _).symm, hL4, HB3.out.trans (hb4.mono HB3.out.size), hc4, hc4'⟩
end Go.Proofs.YtpjoefekhgmlhaaGreat.Tp

namespace Go.Proofs.YtpjoefekhgmlhaaGreat.Tp
open Go.RowKit Mem

/-- A rule is told, and what is behind it (where it lay). -/
def TakeRulePost (w : World) (A : Option Addr) (r : RuleT) (rest : List Nat) (e : Ending) (w' : World) : Prop := ∃ B d, e = .returned (.tuple #[rv r, .slice B rest.length d, .int .i64 0]) ∧ (∀ W, Lies W A (bytes (ruleB r ++ rest)) → Lies W B (bytes rest)) ∧ Below w.heap.size w w' ∧ rest.length ≤ d ∧ d ≤ 9223372036854775807

set_option maxRecDepth 100000 in
set_option maxHeartbeats 1000000 in
theorem takeRule_any (A : Option Addr) (n c : Nat) (r : RuleT) (rest : List Nat) (w : World) (h : RuleFits r) (hn : rest.length + 8 = n) (hA : Lies w A (bytes (ruleB r ++ rest))) (hb : ∀ b ∈ rest, b < 256) (hc : n ≤ c) (hc2 : c ≤ 9223372036854775807) :
    Calls Tryz.prog 109 #[.slice A n c] w (TakeRulePost w A r rest) := by
  obtain ⟨wa, hwa⟩ : ∃ wa, wa = w.alloc (.cells #[.int .u32 0, .int .i64 0, .int .i64 0, .int .i64 0] 43) := ⟨_, rfl⟩
  have hb0 : Below w.heap.size w wa := by rw [hwa]; exact (Below.refl _ _).alloc (Nat.le_refl _) _
  have hr0 : VRow wa w.heap.size [.int .u32 0, .int .i64 0, .int .i64 0, .int .i64 0] := by rw [hwa]; exact VRow.new w #[.int .u32 0, .int .i64 0, .int .i64 0, .int .i64 0] 43
  have hrt := rtake_any A n c r rest wa h hn (hA.below hb0) hb hc hc2
  obtain ⟨A', hcut, hLc⟩ := cut_l bty bsz A n c 8 8 rfl (by omega) hc
  have e1 : (bytes (ruleB r ++ rest)).drop 8 = bytes rest := rfl
  have hL' : ∀ W, Lies W A (bytes (ruleB r ++ rest)) → Lies W A' (bytes rest) := fun W hW => by
    have := hLc W _ hW (by rw [bytes_len, List.length_append, ruleB_len]; omega)
    rwa [e1] at this
  have hn8 : n - 8 = rest.length := by omega
  rw [hn8] at hcut
  have h8 : 8 ≤ n := by omega
  have hrd : rest.length ≤ c - 8 := by omega
  have hcd : c - 8 ≤ 9223372036854775807 := by omega
  have HW := Lib.hid hwa
  have HB0 := Lib.hid hb0
  have HR0 := Lib.hid hr0
  have HRT := Lib.hid hrt
  have HL' := Lib.hid hL'
  clear hwa hb0 hr0 hrt hLc hL' e1 hn8 hA hb h hn
  go_enter Tryz.func109, Tryz.ntmps109
  go_wp2_with fail
  rw [← HW.out]
  refine (HRT.out).mono ?_
  rintro e w2 ⟨rfl, hb2⟩
  have hr2 := HR0.out.below hb2 HR0.out.lt
  have hbw2 := HB0.out.trans (hb2.mono HB0.out.size)
  have hc0 := hr2.cell 0 (by simp)
  have hc1 := hr2.cell 1 (by simp)
  have hc2' := hr2.cell 2 (by simp)
  have hc3 := hr2.cell 3 (by simp)
  have hf0 := hr2.free 0 (by simp)
  have hf1 := hr2.free 1 (by simp)
  have hf2 := hr2.free 2 (by simp)
  have hf3 := hr2.free 3 (by simp)
  simp only [List.getElem_cons_zero, List.getElem_cons_succ] at hc0 hc1 hc2' hc3
  have hs := hr2.set4 (.int .u32 (r.a : Int)) (.int .i64 (r.len : Int)) (.int .i64 (r.act : Int)) (.int .i64 (r.next : Int))
  have hbs := below4 hbw2 (Nat.le_refl _) (.int .u32 (r.a : Int)) (.int .i64 (r.len : Int)) (.int .i64 (r.act : Int)) (.int .i64 (r.next : Int))
  have HS := Lib.hid hs
  have HBS := Lib.hid hbs
  clear hs hbs hr2 hbw2 hb2
  go_wp2_with fail
  clear hc0 hc1 hc2' hc3 hf0 hf1 hf2 hf3
  have hc0 := HS.out.cell 0 (by simp)
  have hc1 := HS.out.cell 1 (by simp)
  have hc2' := HS.out.cell 2 (by simp)
  have hc3 := HS.out.cell 3 (by simp)
  have hf0 := HS.out.free 0 (by simp)
  have hf1 := HS.out.free 1 (by simp)
  have hf2 := HS.out.free 2 (by simp)
  have hf3 := HS.out.free 3 (by simp)
  simp only [List.getElem_cons_zero, List.getElem_cons_succ] at hc0 hc1 hc2' hc3
  obtain ⟨w3, hw3⟩ : ∃ w3, w3 = (((w2.setCell ⟨w.heap.size, 0, none⟩ (.int .u32 (r.a : Int))).setCell ⟨w.heap.size, 1, none⟩ (.int .i64 (r.len : Int))).setCell ⟨w.heap.size, 2, none⟩ (.int .i64 (r.act : Int))).setCell ⟨w.heap.size, 3, none⟩ (.int .i64 (r.next : Int)) := ⟨_, rfl⟩
  rw [← hw3] at HS HBS hc0 hc1 hc2' hc3 hf0 hf1 hf2 hf3 ⊢
  have HS2 : Hid _ := Lib.hid (HS.out.set4 (.int .u32 (r.a : Int)) (.int .i64 (r.len : Int)) (.int .i64 (r.act : Int)) (.int .i64 (r.next : Int)))
  have HBS2 : Hid _ := Lib.hid (below4 HBS.out (Nat.le_refl _) (.int .u32 (r.a : Int)) (.int .i64 (r.len : Int)) (.int .i64 (r.act : Int)) (.int .i64 (r.next : Int)))
  clear hw3
  go_region
  clear hc0 hc1 hc2' hc3 hf0 hf1 hf2 hf3
  obtain ⟨w4, hw4⟩ : ∃ w4, w4 = ((((w3.setCell ⟨w.heap.size, 0, none⟩ (.int .u32 (r.a : Int))).setCell ⟨w.heap.size, 1, none⟩ (.int .i64 (r.len : Int))).setCell ⟨w.heap.size, 2, none⟩ (.int .i64 (r.act : Int))).setCell ⟨w.heap.size, 3, none⟩ (.int .i64 (r.next : Int))).drew := ⟨_, rfl⟩
  have hs4 : VRow w4 w.heap.size [.int .u32 (r.a : Int), .int .i64 (r.len : Int), .int .i64 (r.act : Int), .int .i64 (r.next : Int)] := by rw [hw4]; exact ⟨HS2.out.lt, HS2.out.cell, HS2.out.free⟩
  have hb4 : Below w.heap.size w w4 := by rw [hw4]; exact below_drew HBS2.out
  rw [← hw4]
  have HB4 := Lib.hid hb4
  have hz0 := hs4.cell 0 (by simp)
  have hz1 := hs4.cell 1 (by simp)
  have hz2 := hs4.cell 2 (by simp)
  have hz3 := hs4.cell 3 (by simp)
  simp only [List.getElem_cons_zero, List.getElem_cons_succ] at hz0 hz1 hz2 hz3
  clear hs4 hb4 hw4
  go_wp2_with fail
  refine bodyPost_ret (v := .tuple #[.agg #[.int .u32 (r.a : Int), .int .i64 (r.len : Int), .int .i64 (r.act : Int), .int .i64 (r.next : Int)], .slice A' rest.length (c - 8), .int .i64 0]) (by simp [results, Tryz.results109, go_sem, hz0, hz1, hz2, hz3]) rfl ⟨A', c - 8, rfl, HL'.out, HB4.out, hrd, hcd⟩

theorem gtake_split (A : Option Addr) (N c : Nat) (n : Nat) (g : Nat) (rest : List Nat) (w : World) (hg : (gp n).length = g) (hN : (gp n ++ rest).length = N) (hn : n < 16384) (hA : Lies w A (bytes (gp n ++ rest))) (hl : N ≤ 9223372036854775807) :
    Calls Tryz.prog 80 #[.slice A N c] w fun e w' => e = .returned (.tuple #[.int .i64 (n : Int), .int .i64 (g : Int), .int .i64 0]) ∧ w = w' := by
  subst hg; exact gtake_anyN A N c n rest w hN hn hA hl
theorem rule_info : (Tryz.prog.info? 43).map (fun i => (i.zero, i.size, i.bytes)) = some (some (.agg #[.int .u32 0, .int .i64 0, .int .i64 0, .int .i64 0]), 4, 32) := by kernel_rfl
theorem rcs_snoc (l : List RuleT) (r : RuleT) : rcs (l ++ [r]) = rcs l ++ rc r := by simp [rcs]
/-- Rules are told: the call's own. -/
def RulesPost (w : World) (l : List RuleT) (e : Ending) (w' : World) : Prop := ∃ R m, e = .returned (.tuple #[.slice R l.length m, .int .i64 0]) ∧ RulesAt w' R l ∧ Below w.heap.size w w' ∧ l.length ≤ m ∧ m ≤ 9223372036854775807 ∧ Gr.New w R

set_option maxRecDepth 100000 in
set_option maxHeartbeats 2000000 in
theorem trules_any (A : Option Addr) (n c : Nat) (l : List RuleT) (w : World) (h : ∀ r ∈ l, RuleFits r) (hl : l.length ≤ 4096) (hn : (rulesB l).length = n) (hA : Lies w A (bytes (rulesB l))) (hc : n ≤ c) (hc2 : c ≤ 9223372036854775807) :
    Calls Tryz.prog 108 #[.slice A n c, .int .i64 4096, .func (.func 109) #[] #[]] w (RulesPost w l) := by
  obtain ⟨g, hg⟩ : ∃ g, g = (gp l.length).length := ⟨_, rfl⟩
  have hg2 := gp_len l.length
  rw [← hg] at hg2
  obtain ⟨hg1, hg2⟩ := hg2
  have hnn : n = g + l.length * 8 := by rw [← hn]; unfold rulesB; rw [List.length_append, flat_len, hg]
  have hgt := gtake_split A n c l.length g (l.flatMap ruleB) w hg.symm hn (by omega) hA (by omega)
  obtain ⟨A1, hcut, hLc⟩ := cut_l bty bsz A n c g (g : Int) rfl (by omega) hc
  have hL1 := hLc w _ hA (by rw [bytes_len, hn])
  have e1 : (bytes (rulesB l)).drop g = bytes (l.flatMap ruleB) := by unfold rulesB; rw [bytes_app, hg, List.drop_append_of_le_length (by rw [bytes_len]; omega), List.drop_of_length_le (by rw [bytes_len]; omega), List.nil_append]
  rw [e1] at hL1
  have hn1 : n - g = l.length * 8 := by omega
  rw [hn1] at hcut
  have hbl : ∀ k, ∀ b ∈ (l.drop k).flatMap ruleB, b < 256 := fun k b hb => by
    obtain ⟨r, hr, hb⟩ := List.mem_flatMap.1 hb
    exact ruleB_lt (h r (List.mem_of_mem_drop hr)) b hb
  have hcg : l.length * 8 ≤ c - g := by omega
  have hcg2 : c - g ≤ 9223372036854775807 := by omega
  have hgn : g ≤ n := by omega
  have t0 : decide ((l.length : Int) > 4096) = false := by rw [decide_eq_false_iff_not]; omega
  have HGT := Lib.hid hgt
  have HL1 := Lib.hid hL1
  have HBL := Lib.hid hbl
  have H := Lib.hid h
  clear hg hn hnn hgt hLc hL1 e1 hn1 hA hbl h
  go_enter Tryz.func108, Tryz.ntmps108
  go_wp2_with fail
  refine (HGT.out).mono ?_
  rintro e w' ⟨rfl, rfl⟩
  clear HGT
  go_wp2_with fail
  go_loopw [0, 11, 31] (fun x s i wr => ∃ (k : Nat) (B : Option Addr) (d : Nat), k ≤ l.length ∧ i = .int .i64 k ∧ x = .slice B ((l.length - k) * 8) d ∧ (l.length - k) * 8 ≤ d ∧ d ≤ 9223372036854775807 ∧ Hid (Lies w B (bytes ((l.drop k).flatMap ruleB))) ∧ wr.ownsRow w.heap.size 43 4 s k (rcs (l.take k)) ∧ Below w.heap.size w wr) (fun _ _ i _ => l.length - (intOf i).toNat)
  case atStart => exact ⟨0, A1, c - g, by omega, rfl, rfl, by omega, hcg2, HL1, World.ownsRow_nil _ _ _ _, Below.refl _ _⟩
  case round =>
    clear HL1
    obtain ⟨k, B, d, hk, rfl, rfl, hd, hd2, HL, hown, hbr⟩ := hrel
    obtain ⟨S, cp, rfl, hc1', hc2'⟩ := own_form hown
    by_cases hlt : k < l.length
    · have hsp : (l.drop k).flatMap ruleB = ruleB l[k] ++ (l.drop (k + 1)).flatMap ruleB := by rw [List.drop_eq_getElem_cons hlt, List.flatMap_cons]
      have hnx := rcs_snoc (l.take k) l[k]
      rw [← List.take_succ_eq_append_getElem hlt] at hnx
      have hfit := H.out _ (List.getElem_mem hlt)
      have hb2 := HBL.out (k + 1)
      have hL := HL.out
      rw [hsp] at hL
      obtain ⟨r, hr⟩ : ∃ r, r = l[k] := ⟨_, rfl⟩
      rw [← hr] at hnx hfit hL
      obtain ⟨rest, hrest⟩ : ∃ rest, rest = (l.drop (k + 1)).flatMap ruleB := ⟨_, rfl⟩
      have hrl : rest.length = (l.length - (k + 1)) * 8 := by rw [hrest, flat_len, List.length_drop]
      rw [← hrest] at hL hb2
      have htr := takeRule_any B ((l.length - k) * 8) d r rest wr hfit (by omega) (hL.below hbr) hb2 hd hd2
      have HTR := Lib.hid htr
      have HL2 := Lib.hid hL
      have HNX := Lib.hid hnx
      have HOWN := Lib.hid hown
      have HBR := Lib.hid hbr
      have HRL := Lib.hid hrl
      have HREST := Lib.hid hrest
      clear hsp hnx hfit hb2 hL hr hrest hrl htr hown hbr HL
      go_wp2_with fail
      refine (HTR.out).mono ?_
      rintro e w4 ⟨B4, d4, rfl, hL4, hb4, hd4, hd4'⟩
      rw [HRL.out] at hd4
      have hL4w := hL4 w HL2.out
      have hown4 := own_below HOWN.out hb4
      have hb4w := HBR.out.trans (hb4.mono HBR.out.size)
      obtain ⟨w5, hw5⟩ : ∃ w5, w5 = w4.alloc (.cells #[.int .u32 (r.a : Int), .int .i64 (r.len : Int), .int .i64 (r.act : Int), .int .i64 (r.next : Int)] 43) := ⟨_, rfl⟩
      have h5 : Below w4.heap.size w4 w5 := by rw [hw5]; exact (Below.refl _ _).alloc (Nat.le_refl _) _
      have s5 : w5.heap.size = w4.heap.size + 1 := by rw [hw5]; simp
      have hq : ∀ i u, #[.int .u32 (r.a : Int), .int .i64 (r.len : Int), .int .i64 (r.act : Int), .int .i64 (r.next : Int)][i]? = some u → w5.cell? ⟨w4.heap.size, i, none⟩ = some u := fun i u hu => by
        rw [hw5, cell_of_row _ _ i _ _ (0, 0) (heap_alloc_new w4 _)]; exact hu
      have hq0 : w5.cell? ⟨w4.heap.size, 0, none⟩ = some (.int .u32 (r.a : Int)) := hq 0 _ rfl
      have hq1 : w5.cell? ⟨w4.heap.size, 1, none⟩ = some (.int .i64 (r.len : Int)) := hq 1 _ rfl
      have hq2 : w5.cell? ⟨w4.heap.size, 2, none⟩ = some (.int .i64 (r.act : Int)) := hq 2 _ rfl
      have hq3 : w5.cell? ⟨w4.heap.size, 3, none⟩ = some (.int .i64 (r.next : Int)) := hq 3 _ rfl
      have h6 : Below w5.heap.size w5 (w5.alloc (.cells #[.int .u32 (r.a : Int), .int .i64 (r.len : Int), .int .i64 (r.act : Int), .int .i64 (r.next : Int)] 43)) := (Below.refl _ _).alloc (Nat.le_refl _) _
      have hown6 := own_below (own_below hown4 h5) h6
      have hb5w := hb4w.trans (h5.mono hb4w.size)
      have hb6w := hb5w.trans (h6.mono hb5w.size)
      have hone := Lies.new w5 #[.int .u32 (r.a : Int), .int .i64 (r.len : Int), .int .i64 (r.act : Int), .int .i64 (r.next : Int)] 43
      rw [s5] at hone
      rw [hw5] at hone hb6w hown6 hq0 hq1 hq2 hq3
      have HONE := Lib.hid hone
      have HB6 := Lib.hid hb6w
      have HL4 := Lib.hid hL4w
      have hkk : k ≤ 4096 := by omega
      clear hL4 hL4w hown4 hb4 hb4w hw5 s5 h5 hq h6 hb5w hb6w hone HTR HOWN HBR HL2
      go_wp2_with (at_builtin; refine wpList_app rfl (.tmp 43) (.tmp 45) _ rfl Tryz.underlying44 rule_info rfl (by omega) (by omega) w _ HB6.out _ _ _ _ rfl hown6 _ 1 1 _ rfl rfl HONE.out (by intro u hu; simp at hu; rcases hu with rfl | rfl | rfl | rfl <;> rfl) (by omega) ?_; intro S7 c7 w7 hown7 hc7 hc7' hb7 hg7)
      refine ⟨⟨k + 1, B4, d4, by omega, by go_num, by rw [HRL.out], hd4, hd4', Lib.hid (by rw [← HREST.out]; exact HL4.out), ?_, hb7⟩, by simp [intOf]; omega⟩
      rw [HNX.out]
      exact hown7
    · obtain rfl : k = l.length := by omega
      rw [List.take_of_length_le (Nat.le_refl _)] at hown
      have t1 : decide (((l.length - l.length) * 8 : Nat) > (0 : Int)) = false := by rw [decide_eq_false_iff_not]; omega
      go_wp2_with fail
      go_ret2
      exact ⟨S, cp, rfl, .of_own hown, hbr, hc1', hc2', new_of hown⟩
end Go.Proofs.YtpjoefekhgmlhaaGreat.Tp
