/- reliquarylaw08.SetJoins, walked: true. (Layer 08.) -/
import Derived.Test.YtckhekkdidfefaaSetAw
import Derived.Test.YtckhekkdidfefaaSetR2
import Derived.Test.YtckhekkdidfefaaInts
namespace Go.Proofs.Ytckhekkdidfefaa.Set
set_option linter.unusedVariables false
open Go.RowKit Go.Sort Go.Lib
/-- Where the law stands behind its four lists. -/
structure JoinSt (gs gt : Nat) (ks_ vs_ kt vt vx vy : Value) (la lb : List Int) (W : World) : Prop where
  s : IntSet W 0 gs ks_ vs_ la
  t : IntSet W 0 gt kt vt lb
  x : IntAt W vx la
  y : IntAt W vy lb
theorem JoinSt.later {gs gt : Nat} {ks_ vs_ kt vt vx vy : Value} {la lb : List Int} {W W' : World} (h : JoinSt gs gt ks_ vs_ kt vt vx vy la lb W) (hb : Below W.heap.size W W') : JoinSt gs gt ks_ vs_ kt vt vx vy la lb W' :=
  ⟨h.s.later hb, h.t.later hb, h.x.later hb, h.y.later hb⟩
set_option maxRecDepth 100000 in
set_option maxHeartbeats 4000000 in
theorem joins (va vb : Value) (a b : List Int) (w : World) (ha : IntAt w va a) (hb : IntAt w vb b) :
    Calls Try.prog 3 #[va, vb] w fun e w' => e = .returned (.bool true) ∧ Below w.heap.size w w' := by
  have HA := Lib.hid (And.intro ha hb)
  obtain ⟨na, hna⟩ : ∃ na, na = a.length := ⟨_, rfl⟩
  obtain ⟨nb, hnb⟩ : ∃ nb, nb = b.length := ⟨_, rfl⟩
  obtain ⟨aoa, capa, rfl, -, -, -⟩ := ha
  obtain ⟨aob, capb, rfl, -, -, -⟩ := hb
  rw [← hna, ← hnb] at HA ⊢
  have HN := Lib.hid (And.intro hna hnb)
  clear hna hnb
  go_enter Try.func3, Try.ntmps3
  go_wp2_with fail
  refine (awake_ w).mono ?_
  rintro e W1 ⟨rfl, hb1⟩
  have H1 := Lib.hid (And.intro (HA.out.1.later hb1) (And.intro (HA.out.2.later hb1) hb1))
  clear hb1 HA
  cases d1 : decide (300 < (na : Int))
  case true =>
    go_wp2_with fail
    go_ret
    exact ⟨rfl, H1.out.2.2⟩
  case false =>
  cases d2 : decide (300 < (nb : Int))
  case true =>
    go_wp2_with fail
    go_ret
    exact ⟨rfl, H1.out.2.2⟩
  case false =>
  have hna : a.length ≤ 300 := by rw [← HN.out.1]; have := of_decide_eq_false d1; omega
  have hnb : b.length ≤ 300 := by rw [← HN.out.2]; have := of_decide_eq_false d2; omega
  have HNN := Lib.hid (And.intro hna hnb)
  clear hna hnb
  go_wp2_with fail
  -- shelf.Of(a...)
  refine (of_int _ a W1 H1.out.1 (by have := HNN.out.1; omega)).mono ?_
  rintro e W2 ⟨gs, kvs, vvs, la, rfl, hla, hs, hb⟩
  have H2 := Lib.hid (And.intro (hs.mono (Nat.zero_le _)) (And.intro (H1.out.1.later hb) (And.intro (H1.out.2.1.later hb) (H1.out.2.2.trans (hb.mono H1.out.2.2.size)))))
  have HLA := Lib.hid (And.intro hla (isOf_len hla))
  clear hs hb hla H1
  go_wp2_with fail
  -- shelf.Of(b...)
  refine (of_int _ b W2 H2.out.2.2.1 (by have := HNN.out.2; omega)).mono ?_
  rintro e W3 ⟨gt, kvt, vvt, lb, rfl, hlb, hs, hb⟩
  have H3 := Lib.hid (And.intro (H2.out.1.later hb) (And.intro (hs.mono (Nat.zero_le _)) (And.intro (H2.out.2.1.later hb) (And.intro (H2.out.2.2.1.later hb) (H2.out.2.2.2.trans (hb.mono H2.out.2.2.2.size))))))
  have HLB := Lib.hid (And.intro hlb (isOf_len hlb))
  clear hs hb hlb H2
  go_wp2_with fail
  -- the lists
  refine (ref_of _ a W3 H3.out.2.2.1 (by have := HNN.out.1; omega)).mono ?_
  rintro e W4 ⟨vx, m, rfl, hm, hat, hb⟩
  obtain rfl := isOf_unique hm HLA.out.1
  have H4 := Lib.hid (And.intro (H3.out.1.later hb) (And.intro (H3.out.2.1.later hb) (And.intro hat (And.intro (H3.out.2.2.2.1.later hb) (H3.out.2.2.2.2.trans (hb.mono H3.out.2.2.2.2.size))))))
  clear hm hat hb H3
  go_wp2_with fail
  refine (ref_of _ b W4 H4.out.2.2.2.1 (by have := HNN.out.2; omega)).mono ?_
  rintro e W5 ⟨vy, m2, rfl, hm, hat, hb⟩
  obtain rfl := isOf_unique hm HLB.out.1
  have H5 := Lib.hid (And.intro (show JoinSt gs gt kvs vvs kvt vvt vx vy m m2 W5 from ⟨H4.out.1.later hb, H4.out.2.1.later hb, H4.out.2.2.1.later hb, hat⟩) (H4.out.2.2.2.2.trans (hb.mono H4.out.2.2.2.2.size)))
  have HL := Lib.hid (show m.length ≤ 300 ∧ m2.length ≤ 300 from ⟨Nat.le_trans HLA.out.2 HNN.out.1, Nat.le_trans HLB.out.2 HNN.out.2⟩)
  have HR := Lib.hid (And.intro HLA.out.1.1 HLB.out.1.1)
  obtain ⟨aox, nx, cx, rfl⟩ : ∃ ao n c, vx = .slice ao n c := by obtain ⟨ao, c, h, -⟩ := H5.out.1.x; exact ⟨_, _, _, h⟩
  obtain ⟨aoy, ny, cy, rfl⟩ : ∃ ao n c, vy = .slice ao n c := by obtain ⟨ao, c, h, -⟩ := H5.out.1.y; exact ⟨_, _, _, h⟩
  clear hm hat hb H4 HLA HLB HNN HN
  go_wp2_with fail
  refine (union_int _ gs _ gt kvs vvs kvt vvt m m2 W5 H5.out.1.s H5.out.1.t (by have := HL.out.1; omega) (by have := HL.out.2; omega)).mono ?_
  rintro e W6 ⟨gu, kvu, vvu, lu, rfl, hlu, hs, hb⟩
  have hul : lu.length ≤ 600 := by have h1 := isOf_len hlu; rw [List.length_append] at h1; have := HL.out; omega
  have HU := Lib.hid (And.intro hlu hul)
  clear hlu hul
  have H6 := Lib.hid (And.intro (H5.out.1.later hb) (And.intro (H5.out.2.trans (hb.mono H5.out.2.size)) hs))
  clear hs hb H5
  go_wp2_with fail
  refine (list_int _ gu kvu vvu lu W6 H6.out.2.2 (by have := HU.out.2; omega)).mono ?_
  rintro e W7 ⟨v1, rfl, hs, hb⟩
  have H7 := Lib.hid (And.intro (H6.out.1.later hb) (And.intro (H6.out.2.1.trans (hb.mono H6.out.2.1.size)) (IntAt.of_sl hs)))
  clear hs hb H6
  go_wp2_with fail
  refine (ref_union _ _ m m2 W7 H7.out.1.x H7.out.1.y HR.out.1 (by have := HL.out; omega)).mono ?_
  rintro e W8 ⟨v2, m3, rfl, hm, hat, hb⟩
  obtain rfl := isOf_unique hm HU.out.1
  clear hm
  have H8 := Lib.hid (And.intro (H7.out.1.later hb) (And.intro (H7.out.2.1.trans (hb.mono H7.out.2.1.size)) (And.intro (H7.out.2.2.later hb) hat)))
  clear hat hb H7
  go_wp2_with fail
  refine (ref_same v1 v2 m3 W8 H8.out.2.2.1 H8.out.2.2.2 (by have := HU.out.2; omega)).mono ?_
  rintro e W9 ⟨rfl, hb⟩
  have H9 := Lib.hid (And.intro (H8.out.1.later hb) (H8.out.2.1.trans (hb.mono H8.out.2.1.size)))
  clear hb H8 HU
  go_wp2_with fail
  refine (meet_int _ gs _ gt kvs vvs kvt vvt m m2 W9 H9.out.1.s H9.out.1.t (by have := HL.out.1; omega) (by have := HL.out.2; omega)).mono ?_
  rintro e W10 ⟨gu, kvu, vvu, rfl, hs, hb⟩
  have hul : (m.filter (partOf m2 true)).length ≤ 600 := by have h1 := List.length_filter_le (partOf m2 true) m; have := HL.out; omega
  have HU := Lib.hid hul
  clear hul
  have H10 := Lib.hid (And.intro (H9.out.1.later hb) (And.intro (H9.out.2.trans (hb.mono H9.out.2.size)) hs))
  clear hs hb H9
  go_wp2_with fail
  refine (list_int _ gu kvu vvu (m.filter (partOf m2 true)) W10 H10.out.2.2 (by have := HU.out; omega)).mono ?_
  rintro e W11 ⟨v1, rfl, hs, hb⟩
  have H11 := Lib.hid (And.intro (H10.out.1.later hb) (And.intro (H10.out.2.1.trans (hb.mono H10.out.2.1.size)) (IntAt.of_sl hs)))
  clear hs hb H10
  go_wp2_with fail
  refine (ref_meet _ _ m m2 W11 H11.out.1.x H11.out.1.y (by have := HL.out; omega) (by have := HL.out; omega)).mono ?_
  rintro e W12 ⟨v2, rfl, hat, hb⟩
  have H12 := Lib.hid (And.intro (H11.out.1.later hb) (And.intro (H11.out.2.1.trans (hb.mono H11.out.2.1.size)) (And.intro (H11.out.2.2.later hb) hat)))
  clear hat hb H11
  go_wp2_with fail
  refine (ref_same v1 v2 (m.filter (partOf m2 true)) W12 H12.out.2.2.1 H12.out.2.2.2 (by have := HU.out; omega)).mono ?_
  rintro e W13 ⟨rfl, hb⟩
  have H13 := Lib.hid (And.intro (H12.out.1.later hb) (H12.out.2.1.trans (hb.mono H12.out.2.1.size)))
  clear hb H12 HU
  go_wp2_with fail
  refine (minus_int _ gs _ gt kvs vvs kvt vvt m m2 W13 H13.out.1.s H13.out.1.t (by have := HL.out.1; omega) (by have := HL.out.2; omega)).mono ?_
  rintro e W14 ⟨gu, kvu, vvu, rfl, hs, hb⟩
  have hul : (m.filter (partOf m2 false)).length ≤ 600 := by have h1 := List.length_filter_le (partOf m2 false) m; have := HL.out; omega
  have HU := Lib.hid hul
  clear hul
  have H14 := Lib.hid (And.intro (H13.out.1.later hb) (And.intro (H13.out.2.trans (hb.mono H13.out.2.size)) hs))
  clear hs hb H13
  go_wp2_with fail
  refine (list_int _ gu kvu vvu (m.filter (partOf m2 false)) W14 H14.out.2.2 (by have := HU.out; omega)).mono ?_
  rintro e W15 ⟨v1, rfl, hs, hb⟩
  have H15 := Lib.hid (And.intro (H14.out.1.later hb) (And.intro (H14.out.2.1.trans (hb.mono H14.out.2.1.size)) (IntAt.of_sl hs)))
  clear hs hb H14
  go_wp2_with fail
  refine (ref_minus _ _ m m2 W15 H15.out.1.x H15.out.1.y (by have := HL.out; omega) (by have := HL.out; omega)).mono ?_
  rintro e W16 ⟨v2, rfl, hat, hb⟩
  have H16 := Lib.hid (And.intro (H15.out.1.later hb) (And.intro (H15.out.2.1.trans (hb.mono H15.out.2.1.size)) (And.intro (H15.out.2.2.later hb) hat)))
  clear hat hb H15
  go_wp2_with fail
  refine (ref_same v1 v2 (m.filter (partOf m2 false)) W16 H16.out.2.2.1 H16.out.2.2.2 (by have := HU.out; omega)).mono ?_
  rintro e W17 ⟨rfl, hb⟩
  have H17 := Lib.hid (And.intro (H16.out.1.later hb) (H16.out.2.1.trans (hb.mono H16.out.2.1.size)))
  clear hb H16 HU
  go_wp2_with fail
  refine (within_int _ gs _ gt kvs vvs kvt vvt m m2 W17 H17.out.1.s H17.out.1.t (by have := HL.out.1; omega) (by have := HL.out.2; omega)).mono ?_
  rintro e W18 ⟨rfl, hb⟩
  have H18 := Lib.hid (And.intro (H17.out.1.later hb) (H17.out.2.trans (hb.mono H17.out.2.size)))
  clear hb H17
  obtain ⟨k, hk⟩ : ∃ k, k = (m.filter (partOf m2 false)).length := ⟨_, rfl⟩
  rw [← hk]
  have HK := Lib.hid hk
  clear hk
  go_wp2_with fail
  refine (ref_minus _ _ m m2 W18 H18.out.1.x H18.out.1.y (by have := HL.out; omega) (by have := HL.out; omega)).mono ?_
  rintro e W19 ⟨v2, rfl, hat, hb⟩
  obtain ⟨a2, c2, rfl, -⟩ := hat
  rw [← HK.out]
  have H19 := Lib.hid (And.intro (H18.out.1.later hb) (H18.out.2.trans (hb.mono H18.out.2.size)))
  clear hb H18 HK
  go_wp2_with fail
  refine (list_int _ gs kvs vvs m W19 H19.out.1.s (by have := HL.out; omega)).mono ?_
  rintro e W20 ⟨v1, rfl, hs, hb⟩
  have H20 := Lib.hid (And.intro (H19.out.1.later hb) (And.intro (H19.out.2.trans (hb.mono H19.out.2.size)) (IntAt.of_sl hs)))
  clear hs hb H19
  go_wp2_with fail
  refine (ref_same v1 _ m W20 H20.out.2.2 H20.out.1.x (by have := HL.out; omega)).mono ?_
  rintro e W21 ⟨rfl, hb⟩
  have H21 := Lib.hid (And.intro (H20.out.1.later hb) (H20.out.2.1.trans (hb.mono H20.out.2.1.size)))
  clear hb H20
  go_wp2_with fail
  refine (list_int _ gt kvt vvt m2 W21 H21.out.1.t (by have := HL.out; omega)).mono ?_
  rintro e W22 ⟨v3, rfl, hs, hb⟩
  have H22 := Lib.hid (And.intro (H21.out.1.later hb) (And.intro (H21.out.2.trans (hb.mono H21.out.2.size)) (IntAt.of_sl hs)))
  clear hs hb H21
  go_wp2_with fail
  refine (ref_same v3 _ m2 W22 H22.out.2.2 H22.out.1.y (by have := HL.out; omega)).mono ?_
  rintro e W23 ⟨rfl, hb⟩
  have H23 := Lib.hid (H22.out.2.1.trans (hb.mono H22.out.2.1.size))
  clear hb H22
  go_wp2_with fail
  go_ret
  exact ⟨rfl, H23.out⟩
theorem IntAt.of_row {w : World} {ao : Option Addr} {n cap : Nat} {f : Nat → Int} (h : IntRow w ao n f) (hc : n ≤ cap ∧ cap ≤ maxLen) : IntAt w (.slice ao n cap) ((List.range n).map f) := by
  refine ⟨ao, cap, by simp, by simpa using hc.1, hc.2, fun hn => ?_⟩
  simp at hn
  obtain ⟨b, off, ha, hlt, hcell⟩ := h.2.2 hn
  exact ⟨b, off, ha, hlt, fun i hi => by simp at hi; rw [hcell i hi]; simp⟩
theorem joins_any (a0 : Option Addr) (n0 c0 : Nat) (f0 : Nat → Int) (a1 : Option Addr) (n1 c1 : Nat) (f1 : Nat → Int) (w : World) (h0 : IntRow w a0 n0 f0) (k0 : n0 ≤ c0 ∧ c0 ≤ maxLen) (h1 : IntRow w a1 n1 f1) (k1 : n1 ≤ c1 ∧ c1 ≤ maxLen) :
    Calls Try.prog 3 #[.slice a0 n0 c0, .slice a1 n1 c1] w fun e w' => e = .returned (.bool true) ∧ Below w.heap.size w w' :=
  joins _ _ _ _ w (IntAt.of_row h0 k0) (IntAt.of_row h1 k1)
end Go.Proofs.Ytckhekkdidfefaa.Set
