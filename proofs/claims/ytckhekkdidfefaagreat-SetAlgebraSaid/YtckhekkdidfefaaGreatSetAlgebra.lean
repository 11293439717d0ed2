/- reliquarylaw08.SetAlgebra, walked: true. (Layer 08.) -/
import Derived.Test.YtckhekkdidfefaaGreatSetAw
import Derived.Test.YtckhekkdidfefaaGreatSetS7
import Derived.Test.YtckhekkdidfefaaGreatSetAlg
import Derived.Test.YtckhekkdidfefaaGreatStrs
namespace Go.Proofs.YtckhekkdidfefaaGreat.Set
set_option linter.unusedVariables false
open Go.RowKit Go.Sort Go.Lib
/-- A set of texts, wherever its parts lie; n things. -/
def HasSet (g : Nat) (l : List ByteArray) (n : Nat) (W : World) : Prop := (∃ kv vv, StrSet W 0 g kv vv l) ∧ l.length = n ∧ n ≤ 1000
theorem HasSet.later {g n : Nat} {l : List ByteArray} {W W' : World} (h : HasSet g l n W) (hb : Below W.heap.size W W') : HasSet g l n W' := by
  obtain ⟨⟨kv, vv, hs⟩, hn⟩ := h
  exact ⟨⟨kv, vv, hs.later hb⟩, hn⟩
theorem h_of (v : Value) (l : List ByteArray) (w : World) (h : StrAt w v l) (hn : l.length ≤ 300) :
    Calls Tryz.prog 6 #[v] w fun e w' => ∃ g m n, e = .returned (.pointer (some ⟨g, 0, none⟩)) ∧ IsOf l m ∧ n ≤ 300 ∧ HasSet g m n w' ∧ Below w.heap.size w w' := by
  refine (of_string v l w h (by omega)).mono ?_
  rintro e w' ⟨g, kv, vv, m, rfl, hm, hs, hb⟩
  have := isOf_len hm
  exact ⟨g, m, m.length, rfl, hm, by omega, ⟨⟨kv, vv, hs.mono (Nat.zero_le _)⟩, rfl, by omega⟩, hb⟩
theorem h_len {g n : Nat} {l : List ByteArray} {w : World} (h : HasSet g l n w) :
    Calls Tryz.prog 10 #[.pointer (some ⟨g, 0, none⟩)] w fun e w' => e = .returned (.int .i64 (n : Int)) ∧ w = w' := by
  obtain ⟨⟨kv, vv, hs⟩, rfl, -⟩ := h
  exact len_string 0 g kv vv l w hs
theorem h_meet {ga gb na nb : Nat} {la lb : List ByteArray} {w : World} (ha : HasSet ga la na w) (hb : HasSet gb lb nb w) :
    Calls Tryz.prog 12 #[.pointer (some ⟨ga, 0, none⟩), .pointer (some ⟨gb, 0, none⟩)] w fun e w' => ∃ g m n, e = .returned (.pointer (some ⟨g, 0, none⟩)) ∧ m = la.filter (partOf lb true) ∧ n ≤ na ∧ HasSet g m n w' ∧ Below w.heap.size w w' := by
  obtain ⟨⟨kva, vva, hsa⟩, rfl, hna⟩ := ha
  obtain ⟨⟨kvb, vvb, hsb⟩, rfl, hnb⟩ := hb
  refine (meet_string 0 ga 0 gb kva vva kvb vvb la lb w hsa hsb (by omega) (by omega)).mono ?_
  rintro e w' ⟨g, kv, vv, rfl, hs, hb⟩
  have := List.length_filter_le (partOf lb true) la
  exact ⟨g, _, _, rfl, rfl, this, ⟨⟨kv, vv, hs.mono (Nat.zero_le _)⟩, rfl, by omega⟩, hb⟩
theorem h_minus {ga gb na nb : Nat} {la lb : List ByteArray} {w : World} (ha : HasSet ga la na w) (hb : HasSet gb lb nb w) :
    Calls Tryz.prog 13 #[.pointer (some ⟨ga, 0, none⟩), .pointer (some ⟨gb, 0, none⟩)] w fun e w' => ∃ g m n, e = .returned (.pointer (some ⟨g, 0, none⟩)) ∧ m = la.filter (partOf lb false) ∧ n ≤ na ∧ HasSet g m n w' ∧ Below w.heap.size w w' := by
  obtain ⟨⟨kva, vva, hsa⟩, rfl, hna⟩ := ha
  obtain ⟨⟨kvb, vvb, hsb⟩, rfl, hnb⟩ := hb
  refine (minus_string 0 ga 0 gb kva vva kvb vvb la lb w hsa hsb (by omega) (by omega)).mono ?_
  rintro e w' ⟨g, kv, vv, rfl, hs, hb⟩
  have := List.length_filter_le (partOf lb false) la
  exact ⟨g, _, _, rfl, rfl, this, ⟨⟨kv, vv, hs.mono (Nat.zero_le _)⟩, rfl, by omega⟩, hb⟩
theorem h_within {ga gb na nb : Nat} {la lb : List ByteArray} {w : World} (ha : HasSet ga la na w) (hb : HasSet gb lb nb w) :
    Calls Tryz.prog 14 #[.pointer (some ⟨ga, 0, none⟩), .pointer (some ⟨gb, 0, none⟩)] w fun e w' => ∃ n : Nat, e = .returned (.bool ((n : Int) == 0)) ∧ n = (la.filter (partOf lb false)).length ∧ Below w.heap.size w w' := by
  obtain ⟨⟨kva, vva, hsa⟩, rfl, hna⟩ := ha
  obtain ⟨⟨kvb, vvb, hsb⟩, rfl, hnb⟩ := hb
  refine (within_string 0 ga 0 gb kva vva kvb vvb la lb w hsa hsb (by omega) (by omega)).mono ?_
  rintro e w' ⟨rfl, hb⟩
  exact ⟨_, rfl, rfl, hb⟩
theorem h_sub {ga gb na nb : Nat} {la lb : List ByteArray} {w : World} (ha : HasSet ga la na w) (hb : HasSet gb lb nb w) (h : ∀ x ∈ la, x ∈ lb) :
    Calls Tryz.prog 14 #[.pointer (some ⟨ga, 0, none⟩), .pointer (some ⟨gb, 0, none⟩)] w fun e w' => e = .returned (.bool true) ∧ Below w.heap.size w w' := by
  refine (h_within ha hb).mono ?_
  rintro e w' ⟨n, rfl, hn, hb⟩
  rw [minus_nil h] at hn
  subst hn
  exact ⟨rfl, hb⟩
theorem h_union {ga gb na nb : Nat} {la lb : List ByteArray} {w : World} (ha : HasSet ga la na w) (hb : HasSet gb lb nb w) (hn : na + nb ≤ 1000) :
    Calls Tryz.prog 11 #[.pointer (some ⟨ga, 0, none⟩), .pointer (some ⟨gb, 0, none⟩)] w fun e w' => ∃ g m n, e = .returned (.pointer (some ⟨g, 0, none⟩)) ∧ IsOf (la ++ lb) m ∧ HasSet g m n w' ∧ Below w.heap.size w w' := by
  obtain ⟨⟨kva, vva, hsa⟩, rfl, hna⟩ := ha
  obtain ⟨⟨kvb, vvb, hsb⟩, rfl, hnb⟩ := hb
  refine (union_string 0 ga 0 gb kva vva kvb vvb la lb w hsa hsb (by omega) (by omega)).mono ?_
  rintro e w' ⟨g, kv, vv, m, rfl, hm, hs, hb⟩
  have := isOf_len hm
  rw [List.length_append] at this
  exact ⟨g, m, _, rfl, hm, ⟨⟨kv, vv, hs.mono (Nat.zero_le _)⟩, rfl, by omega⟩, hb⟩
set_option maxRecDepth 100000 in
set_option maxHeartbeats 8000000 in
theorem algebra (va vb : Value) (a b : List ByteArray) (w : World) (ha : StrAt w va a) (hb : StrAt w vb b) :
    Calls Tryz.prog 4 #[va, vb] w fun e w' => e = .returned (.bool true) ∧ Below w.heap.size w w' := by
  have HA := Lib.hid (And.intro ha hb)
  obtain ⟨na, hna⟩ : ∃ na, na = a.length := ⟨_, rfl⟩
  obtain ⟨nb, hnb⟩ : ∃ nb, nb = b.length := ⟨_, rfl⟩
  obtain ⟨aoa, capa, rfl, -, -, -⟩ := ha
  obtain ⟨aob, capb, rfl, -, -, -⟩ := hb
  rw [← hna, ← hnb] at HA ⊢
  have HN := Lib.hid (And.intro hna hnb)
  clear hna hnb
  go_enter Tryz.func4, Tryz.ntmps4
  go_wp2_with fail
  refine (awake_ w).mono ?_
  rintro e W1 ⟨rfl, hb1⟩
  have H1 := Lib.hid (And.intro (HA.out.1.later hb1) (And.intro (HA.out.2.later hb1) hb1))
  clear hb1 HA
  cases d1 : decide (300 < (na : Int))
  case true =>
    go_wp2_with fail
    go_ret
    exact ⟨rfl, H1.out.2.2⟩
  case false =>
  cases d2 : decide (300 < (nb : Int))
  case true =>
    go_wp2_with fail
    go_ret
    exact ⟨rfl, H1.out.2.2⟩
  case false =>
  have hna : a.length ≤ 300 := by rw [← HN.out.1]; have := of_decide_eq_false d1; omega
  have hnb : b.length ≤ 300 := by rw [← HN.out.2]; have := of_decide_eq_false d2; omega
  have HNN := Lib.hid (And.intro hna hnb)
  clear hna hnb
  go_wp2_with fail
  refine (h_of _ a W1 H1.out.1 HNN.out.1).mono ?_
  rintro e W2 ⟨gs, la, ns, rfl, hla, hns, hs, hb⟩
  have H2 := Lib.hid (And.intro hs (And.intro (H1.out.2.1.later hb) (H1.out.2.2.trans (hb.mono H1.out.2.2.size))))
  have HLA := Lib.hid (And.intro hla.1 hns)
  clear hs hb hla H1 hns
  go_wp2_with fail
  refine (h_of _ b W2 H2.out.2.1 HNN.out.2).mono ?_
  rintro e W3 ⟨gt, lb, nt, rfl, hlb, hnt, hs, hb⟩
  have H3 := Lib.hid (And.intro (show HasSet gs la ns W3 ∧ HasSet gt lb nt W3 from ⟨H2.out.1.later hb, hs⟩) (H2.out.2.2.trans (hb.mono H2.out.2.2.size)))
  have HLB := Lib.hid (And.intro hlb.1 hnt)
  clear hs hb hlb H2 hnt HNN HN
  go_wp2_with fail
  refine (h_union (H3.out.1.1) (H3.out.1.2) (by have := HLA.out.2; have := HLB.out.2; omega)).mono ?_
  rintro e W4 ⟨gu, lu, nu, rfl, hm, hs, hb⟩
  have HU := Lib.hid hm
  have H4 := Lib.hid (And.intro (show HasSet gs la ns W4 ∧ HasSet gt lb nt W4 ∧ HasSet gu lu nu W4 from ⟨H3.out.1.1.later hb, H3.out.1.2.later hb, hs⟩) (H3.out.2.trans (hb.mono H3.out.2.size)))
  clear hs hb hm H3
  go_wp2_with fail
  refine (h_meet (H4.out.1.1) (H4.out.1.2.1)).mono ?_
  rintro e W5 ⟨gm, lm, nm, rfl, hm, hn, hs, hb⟩
  have HM := Lib.hid (And.intro hm hn)
  have H5 := Lib.hid (And.intro (show HasSet gs la ns W5 ∧ HasSet gt lb nt W5 ∧ HasSet gu lu nu W5 ∧ HasSet gm lm nm W5 from ⟨H4.out.1.1.later hb, H4.out.1.2.1.later hb, H4.out.1.2.2.later hb, hs⟩) (H4.out.2.trans (hb.mono H4.out.2.size)))
  clear hs hb hm hn H4
  go_wp2_with fail
  refine (h_minus (H5.out.1.1) (H5.out.1.2.1)).mono ?_
  rintro e W6 ⟨gd, ld, nd, rfl, hm, hn, hs, hb⟩
  have HD := Lib.hid (And.intro hm hn)
  have H6 := Lib.hid (And.intro (show HasSet gs la ns W6 ∧ HasSet gt lb nt W6 ∧ HasSet gu lu nu W6 ∧ HasSet gm lm nm W6 ∧ HasSet gd ld nd W6 from ⟨H5.out.1.1.later hb, H5.out.1.2.1.later hb, H5.out.1.2.2.1.later hb, H5.out.1.2.2.2.later hb, hs⟩) (H5.out.2.trans (hb.mono H5.out.2.size)))
  clear hs hb hm hn H5
  have nS : la.length = ns := (H6.out.1.1).2.1
  have nT : lb.length = nt := (H6.out.1.2.1).2.1
  have nU : lu.length = nu := (H6.out.1.2.2.1).2.1
  have nM : lm.length = nm := (H6.out.1.2.2.2.1).2.1
  have nD : ld.length = nd := (H6.out.1.2.2.2.2).2.1
  have q1 : nu + nm = ns + nt := by have := union_len HLA.out.1 HLB.out.1 HU.out; rw [← HM.out.1, nS, nT, nU, nM] at this; exact this
  have q2 : nd + nm = ns := by have := parts_len la lb; rw [← HM.out.1, ← HD.out.1, nS, nM, nD] at this; exact this
  have hns : ns ≤ 300 := HLA.out.2
  have hnt : nt ≤ 300 := HLB.out.2
  have HQ := Lib.hid (And.intro q1 q2)
  have e1 : ((nu : Int) != (ns : Int) + (nt : Int) - (nm : Int)) = false := by rw [bne_eq_false_iff_eq]; omega
  have e2 : ((nd : Int) + (nm : Int) != (ns : Int)) = false := by rw [bne_eq_false_iff_eq]; omega
  have hnm : nm ≤ 300 := Nat.le_trans HM.out.2 HLA.out.2
  have hnd : nd ≤ 300 := Nat.le_trans HD.out.2 HLA.out.2
  clear nS nT nU nM nD q1 q2
  go_wp2_with fail
  refine (h_len (H6.out.1.2.2.1)).mono ?_
  rintro e W ⟨rfl, rfl⟩
  go_wp2_with fail
  refine (h_len (H6.out.1.1)).mono ?_
  rintro e W ⟨rfl, rfl⟩
  go_wp2_with fail
  refine (h_len (H6.out.1.2.1)).mono ?_
  rintro e W ⟨rfl, rfl⟩
  go_wp2_with fail
  refine (h_len (H6.out.1.2.2.2.1)).mono ?_
  rintro e W ⟨rfl, rfl⟩
  go_wp2_with fail
  refine (h_len (H6.out.1.2.2.2.2)).mono ?_
  rintro e W ⟨rfl, rfl⟩
  go_wp2_with fail
  refine (h_len (H6.out.1.2.2.2.1)).mono ?_
  rintro e W ⟨rfl, rfl⟩
  go_wp2_with fail
  refine (h_len (H6.out.1.1)).mono ?_
  rintro e W ⟨rfl, rfl⟩
  go_wp2_with fail
  refine (h_meet (H6.out.1.2.2.2.2) (H6.out.1.2.1)).mono ?_
  rintro e W7 ⟨gz, lz, nz, rfl, hm, hn, hs, hb⟩
  have HZ := Lib.hid (And.intro hm hn)
  have H7 := Lib.hid (And.intro (show HasSet gs la ns W7 ∧ HasSet gt lb nt W7 ∧ HasSet gu lu nu W7 ∧ HasSet gm lm nm W7 ∧ HasSet gd ld nd W7 ∧ HasSet gz lz nz W7 from ⟨H6.out.1.1.later hb, H6.out.1.2.1.later hb, H6.out.1.2.2.1.later hb, H6.out.1.2.2.2.1.later hb, H6.out.1.2.2.2.2.later hb, hs⟩) (H6.out.2.trans (hb.mono H6.out.2.size)))
  clear hs hb hm hn H6
  obtain rfl : nz = 0 := by rw [← (H7.out.1.2.2.2.2.2).2.1, HZ.out.1, HD.out.1, minus_meet]; rfl
  go_wp2_with fail
  refine (h_len (H7.out.1.2.2.2.2.2)).mono ?_
  rintro e W ⟨rfl, rfl⟩
  go_wp2_with fail
  refine (h_sub (H7.out.1.1) (H7.out.1.2.2.1) (fun x hx => (HU.out.2 x).2 (List.mem_append_left _ hx))).mono ?_
  rintro e W8 ⟨rfl, hb⟩
  have H8 := Lib.hid (And.intro (show HasSet gs la ns W8 ∧ HasSet gt lb nt W8 ∧ HasSet gu lu nu W8 ∧ HasSet gm lm nm W8 ∧ HasSet gd ld nd W8 ∧ HasSet gz lz 0 W8 from ⟨H7.out.1.1.later hb, H7.out.1.2.1.later hb, H7.out.1.2.2.1.later hb, H7.out.1.2.2.2.1.later hb, H7.out.1.2.2.2.2.1.later hb, H7.out.1.2.2.2.2.2.later hb⟩) (H7.out.2.trans (hb.mono H7.out.2.size)))
  clear hb H7
  go_wp2_with fail
  refine (h_sub (H8.out.1.2.1) (H8.out.1.2.2.1) (fun x hx => (HU.out.2 x).2 (List.mem_append_right _ hx))).mono ?_
  rintro e W9 ⟨rfl, hb⟩
  have H9 := Lib.hid (And.intro (show HasSet gs la ns W9 ∧ HasSet gt lb nt W9 ∧ HasSet gu lu nu W9 ∧ HasSet gm lm nm W9 ∧ HasSet gd ld nd W9 ∧ HasSet gz lz 0 W9 from ⟨H8.out.1.1.later hb, H8.out.1.2.1.later hb, H8.out.1.2.2.1.later hb, H8.out.1.2.2.2.1.later hb, H8.out.1.2.2.2.2.1.later hb, H8.out.1.2.2.2.2.2.later hb⟩) (H8.out.2.trans (hb.mono H8.out.2.size)))
  clear hb H8
  go_wp2_with fail
  refine (h_sub (H9.out.1.2.2.2.1) (H9.out.1.1) (fun x hx => (mem_meet.1 (HM.out.1 ▸ hx)).1)).mono ?_
  rintro e W10 ⟨rfl, hb⟩
  have H10 := Lib.hid (And.intro (show HasSet gs la ns W10 ∧ HasSet gt lb nt W10 ∧ HasSet gu lu nu W10 ∧ HasSet gm lm nm W10 ∧ HasSet gd ld nd W10 ∧ HasSet gz lz 0 W10 from ⟨H9.out.1.1.later hb, H9.out.1.2.1.later hb, H9.out.1.2.2.1.later hb, H9.out.1.2.2.2.1.later hb, H9.out.1.2.2.2.2.1.later hb, H9.out.1.2.2.2.2.2.later hb⟩) (H9.out.2.trans (hb.mono H9.out.2.size)))
  clear hb H9
  go_wp2_with fail
  refine (h_sub (H10.out.1.2.2.2.1) (H10.out.1.2.1) (fun x hx => (mem_meet.1 (HM.out.1 ▸ hx)).2)).mono ?_
  rintro e W11 ⟨rfl, hb⟩
  have H11 := Lib.hid (And.intro (show HasSet gs la ns W11 ∧ HasSet gt lb nt W11 ∧ HasSet gu lu nu W11 ∧ HasSet gm lm nm W11 ∧ HasSet gd ld nd W11 ∧ HasSet gz lz 0 W11 from ⟨H10.out.1.1.later hb, H10.out.1.2.1.later hb, H10.out.1.2.2.1.later hb, H10.out.1.2.2.2.1.later hb, H10.out.1.2.2.2.2.1.later hb, H10.out.1.2.2.2.2.2.later hb⟩) (H10.out.2.trans (hb.mono H10.out.2.size)))
  clear hb H10
  go_wp2_with fail
  refine (h_union (H11.out.1.2.2.2.1) (H11.out.1.2.2.2.2.1) (by have h1 := HM.out.2; have h2 := HD.out.2; have := HLA.out.2; omega)).mono ?_
  rintro e W12 ⟨gk, lk, nk, rfl, hm, hs, hb⟩
  have HK := Lib.hid hm
  have H12 := Lib.hid (And.intro (show HasSet gs la ns W12 ∧ HasSet gt lb nt W12 ∧ HasSet gu lu nu W12 ∧ HasSet gm lm nm W12 ∧ HasSet gd ld nd W12 ∧ HasSet gz lz 0 W12 ∧ HasSet gk lk nk W12 from ⟨H11.out.1.1.later hb, H11.out.1.2.1.later hb, H11.out.1.2.2.1.later hb, H11.out.1.2.2.2.1.later hb, H11.out.1.2.2.2.2.1.later hb, H11.out.1.2.2.2.2.2.later hb, hs⟩) (H11.out.2.trans (hb.mono H11.out.2.size)))
  clear hs hb hm H11
  have HB := Lib.hid (fun x => back_is (la := la) (lb := lb) (lk := lk) (by have := HK.out; rw [HM.out.1, HD.out.1] at this; exact this) x)
  go_wp2_with fail
  refine (h_sub (H12.out.1.2.2.2.2.2.2) (H12.out.1.1) (fun x hx => (HB.out x).1 hx)).mono ?_
  rintro e W13 ⟨rfl, hb⟩
  have H13 := Lib.hid (And.intro (show HasSet gs la ns W13 ∧ HasSet gt lb nt W13 ∧ HasSet gu lu nu W13 ∧ HasSet gm lm nm W13 ∧ HasSet gd ld nd W13 ∧ HasSet gz lz 0 W13 ∧ HasSet gk lk nk W13 from ⟨H12.out.1.1.later hb, H12.out.1.2.1.later hb, H12.out.1.2.2.1.later hb, H12.out.1.2.2.2.1.later hb, H12.out.1.2.2.2.2.1.later hb, H12.out.1.2.2.2.2.2.1.later hb, H12.out.1.2.2.2.2.2.2.later hb⟩) (H12.out.2.trans (hb.mono H12.out.2.size)))
  clear hb H12
  go_wp2_with fail
  refine (h_sub (H13.out.1.1) (H13.out.1.2.2.2.2.2.2) (fun x hx => (HB.out x).2 hx)).mono ?_
  rintro e W14 ⟨rfl, hb⟩
  have H14 := Lib.hid (And.intro (show HasSet gs la ns W14 ∧ HasSet gt lb nt W14 ∧ HasSet gu lu nu W14 ∧ HasSet gm lm nm W14 ∧ HasSet gd ld nd W14 ∧ HasSet gz lz 0 W14 ∧ HasSet gk lk nk W14 from ⟨H13.out.1.1.later hb, H13.out.1.2.1.later hb, H13.out.1.2.2.1.later hb, H13.out.1.2.2.2.1.later hb, H13.out.1.2.2.2.2.1.later hb, H13.out.1.2.2.2.2.2.1.later hb, H13.out.1.2.2.2.2.2.2.later hb⟩) (H13.out.2.trans (hb.mono H13.out.2.size)))
  clear hb H13
  go_wp2_with fail
  refine (h_within (H14.out.1.1) (H14.out.1.2.1)).mono ?_
  rintro e W15 ⟨nw, rfl, hnw, hb⟩
  obtain rfl : nd = nw := by rw [hnw, ← HD.out.1]; exact (H14.out.1.2.2.2.2.1).2.1.symm
  clear hnw
  have H15 := Lib.hid (And.intro (show HasSet gs la ns W15 ∧ HasSet gt lb nt W15 ∧ HasSet gu lu nu W15 ∧ HasSet gm lm nm W15 ∧ HasSet gd ld nd W15 ∧ HasSet gz lz 0 W15 ∧ HasSet gk lk nk W15 from ⟨H14.out.1.1.later hb, H14.out.1.2.1.later hb, H14.out.1.2.2.1.later hb, H14.out.1.2.2.2.1.later hb, H14.out.1.2.2.2.2.1.later hb, H14.out.1.2.2.2.2.2.1.later hb, H14.out.1.2.2.2.2.2.2.later hb⟩) (H14.out.2.trans (hb.mono H14.out.2.size)))
  clear hb H14
  go_wp2_with fail
  refine (h_len (H15.out.1.2.2.2.2.1)).mono ?_
  rintro e W ⟨rfl, rfl⟩
  go_wp2_with fail
  go_ret
  exact ⟨rfl, H15.out.2⟩
theorem StrAt.of_row {w : World} {ao : Option Addr} {n cap : Nat} {ss : List ByteArray} (h : StrRow w ao n ss) (hc : n ≤ cap ∧ cap ≤ maxLen) : StrAt w (.slice ao n cap) ss := by
  obtain ⟨rfl, h1, h2, h3⟩ := h
  refine ⟨ao, cap, rfl, hc.1, hc.2, fun hn => ?_⟩
  obtain ⟨b, off, ha, hlt, hcell⟩ := h3 hn
  exact ⟨b, off, ha, hlt, fun i hi => by rw [hcell i hi, List.getD_eq_getElem?_getD, List.getElem?_eq_getElem hi]; rfl⟩
theorem algebra_any (a0 : Option Addr) (n0 c0 : Nat) (s0 : List ByteArray) (a1 : Option Addr) (n1 c1 : Nat) (s1 : List ByteArray) (w : World) (h0 : StrRow w a0 n0 s0) (k0 : n0 ≤ c0 ∧ c0 ≤ maxLen) (h1 : StrRow w a1 n1 s1) (k1 : n1 ≤ c1 ∧ c1 ≤ maxLen) :
    Calls Tryz.prog 4 #[.slice a0 n0 c0, .slice a1 n1 c1] w fun e w' => e = .returned (.bool true) ∧ Below w.heap.size w w' :=
  algebra _ _ _ _ w (StrAt.of_row h0 k0) (StrAt.of_row h1 k1)
end Go.Proofs.YtckhekkdidfefaaGreat.Set
