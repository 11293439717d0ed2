/- reliquarylaw08.awake, walked: true, and what lay stays. (Layer 08.) -/
import Derived.Test.YtckhekkdidfefaaSetM2
import Derived.Test.YtckhekkdidfefaaSetI7
namespace Go.Proofs.Ytckhekkdidfefaa.Set
set_option linter.unusedVariables false
open Go.RowKit Go.Sort Go.Lib
theorem aw1 : IsOf [3, 1, 3] ([1, 3] : List Int) := ⟨by unfold Rise; simp [El.lt], fun x => by simp; omega⟩
theorem aw1b : IsOf [2] ([2] : List Int) := ⟨by unfold Rise; simp, fun x => Iff.rfl⟩
theorem aw2 : ins 2 ([1, 3] : List Int) = [1, 2, 3] := rise_ext (ins_rise aw1.1) (by unfold Rise; simp [El.lt]) fun x => by rw [mem_ins]; simp; omega
theorem aw3 : ins 2 ([1, 2, 3] : List Int) = [1, 2, 3] := ins_of (by simp)
theorem aw4 : has ([1, 3] : List Int) 2 = false := has_false (by simp)
theorem aw5 : has ([1, 2, 3] : List Int) 2 = true := has_true (by simp)
theorem aw6 : ([1, 2, 3] : List Int).filter (partOf [2] false) = [1, 3] := by
  have h1 : has ([2] : List Int) 1 = false := has_false (by simp)
  have h2 : has ([2] : List Int) 2 = true := has_true (by simp)
  have h3 : has ([2] : List Int) 3 = false := has_false (by simp)
  simp [partOf, h1, h2, h3]
theorem aw7 (x : ByteArray) (y : Int) : mput x y [] = [(x, y)] := by rw [mput_out (by simp)]; rfl
theorem aw8 (x : ByteArray) (y : Int) : mget [(x, y)] x = y := by
  obtain ⟨h1, h2, h3⟩ := mget_in (L := [(x, y)]) (x := x) (by unfold Rise; simp [ks]) (by simp [ks])
  rw [h2]
  simp
theorem aw9 (x : ByteArray) (y : Int) : has (ks [(x, y)]) x = true := has_true (by simp [ks])
set_option maxRecDepth 100000 in
set_option maxHeartbeats 2000000 in
theorem awake_ (w : World) : Calls Try.prog 8 #[] w fun e w' => e = .returned (.bool true) ∧ Below w.heap.size w w' := by
  have H0 := Lib.hid (show ∃ W, W = w.alloc (.cells #[.int .i64 3, .int .i64 1, .int .i64 3] 3) ∧ BlkIs W w.heap.size 3 #[.int .i64 3, .int .i64 1, .int .i64 3] ∧ Below w.heap.size w W from
    ⟨_, rfl, BlkIs.new _ _ _, (Below.refl _ _).alloc (Nat.le_refl _) _⟩)
  go_enter Try.func8, Try.ntmps8
  go_wp2_with fail
  obtain ⟨W1, hW1, H1⟩ := H0.out
  rw [← hW1]
  have H1 := Lib.hid H1
  clear hW1 H0
  refine (of_int (.slice (some ⟨w.heap.size, 0, none⟩) 3 3) [3, 1, 3] W1 (IntAt.of_sl (base := 0) (SlIs.made H1.out.1 (Nat.zero_le _) rfl (by decide))) (by decide)).mono ?_
  rintro e W2 ⟨g, kv, vv, l, rfl, hl, hs, hb⟩
  obtain rfl := isOf_unique hl aw1
  have H2 := Lib.hid (And.intro (hs.mono H1.out.2.size) (H1.out.2.trans (hb.mono H1.out.2.size)))
  clear hl hs hb H1
  have L := Lib.hid (len_int _ g kv vv _ W2 H2.out.1)
  go_wp2_with fail
  refine L.out.mono ?_
  rintro e W ⟨rfl, rfl⟩
  clear L
  have P := Lib.hid (add_int _ g kv vv _ 2 W2 H2.out.1 (by decide))
  go_wp2_with fail
  refine P.out.mono ?_
  rintro e W3 ⟨kv3, vv3, rfl, hs, hch, hown⟩
  rw [aw2] at hs
  have hb3 : Below w.heap.size w W3 := H2.out.2.trans (hch.below H2.out.2.size fun k hk => (H2.out.1.own hk).1)
  have H3 := Lib.hid (And.intro hs hb3)
  clear P hs hch hown hb3 H2
  have P := Lib.hid (add_int _ g kv3 vv3 _ 2 W3 H3.out.1 (by decide))
  rw [aw4]
  go_wp2_with fail
  refine P.out.mono ?_
  rintro e W4 ⟨kv4, vv4, rfl, hs, hch, hown⟩
  rw [aw3] at hs
  have hb4 : Below w.heap.size w W4 := H3.out.2.trans (hch.below H3.out.2.size fun k hk => (H3.out.1.own hk).1)
  have H4 := Lib.hid (And.intro hs hb4)
  clear P hs hch hown hb4 H3
  have T := Lib.hid (at_int _ g kv4 vv4 _ 1 (by decide) W4 H4.out.1)
  rw [aw5]
  go_wp2_with fail
  refine T.out.mono ?_
  rintro e W ⟨rfl, rfl⟩
  clear T
  simp only [List.getElem_cons_succ, List.getElem_cons_zero]
  obtain ⟨W5, hW5⟩ : ∃ W5, W5 = W4.alloc (.cells #[.int .i64 2] 3) := ⟨_, rfl⟩
  have hb5 : Below W4.heap.size W4 W5 := by rw [hW5]; exact (Below.refl _ _).alloc (Nat.le_refl _) _
  have H5 := Lib.hid (show IntSet W5 w.heap.size g kv4 vv4 [1, 2, 3] ∧ BlkIs W5 W4.heap.size 3 #[.int .i64 2] ∧ Below w.heap.size w W5 from
    ⟨H4.out.1.later hb5, by rw [hW5]; exact BlkIs.new _ _ _, H4.out.2.trans (hb5.mono H4.out.2.size)⟩)
  have HW5 := Lib.hid hW5
  clear hW5 hb5
  go_wp2_with fail
  rw [← HW5.out]
  refine (of_int (.slice (some ⟨W4.heap.size, 0, none⟩) 1 1) [2] W5 (IntAt.of_sl (base := 0) (SlIs.made H5.out.2.1 (Nat.zero_le _) rfl (by decide))) (by decide)).mono ?_
  rintro e W6 ⟨g6, kv6, vv6, l, rfl, hl, hs, hb⟩
  obtain rfl := isOf_unique hl aw1b
  have H6 := Lib.hid (And.intro (H5.out.1.later hb) (And.intro hs (H5.out.2.2.trans (hb.mono H5.out.2.2.size))))
  clear hl hs hb H5 H4
  have M := Lib.hid (minus_int _ g _ g6 kv4 vv4 kv6 vv6 _ _ W6 H6.out.1 H6.out.2.1 (by decide) (by decide))
  go_wp2_with fail
  refine M.out.mono ?_
  rintro e W7 ⟨g7, kv7, vv7, rfl, hs, hb⟩
  rw [aw6] at hs
  have H7 := Lib.hid (And.intro hs (H6.out.2.2.trans (hb.mono H6.out.2.2.size)))
  clear hs hb H6 M
  go_wp2_with fail
  refine (map_new W7).mono ?_
  rintro e W8 ⟨g8, kv8, vv8, rfl, hs, hb⟩
  have HO := Lib.hid (fun k hk => (H7.out.1.own (k := k) hk).2)
  have HZ := Lib.hid (And.intro H7.out.2.size hb.size)
  have H8 := Lib.hid (And.intro (H7.out.1.later hb) (And.intro hs (H7.out.2.trans (hb.mono H7.out.2.size))))
  clear hs hb H7
  have P := Lib.hid (map_put _ g8 kv8 vv8 _ ⟨#[107]⟩ 7 W8 H8.out.2.1 (by decide))
  go_wp2_with fail
  refine P.out.mono ?_
  rintro e W9 ⟨kv9, vv9, rfl, hs, hch, hown⟩
  rw [aw7] at hs
  have hb9 : Below w.heap.size w W9 := H8.out.2.2.trans (hch.below H8.out.2.2.size fun k hk => Nat.le_trans HZ.out.1 (H8.out.2.1.own hk).1)
  have hm9 := H8.out.1.chg hch fun k hk hk2 => by have := (H8.out.2.1.own hk2).1; have := HO.out k hk; omega
  have H9 := Lib.hid (And.intro hm9 (And.intro hs hb9))
  clear P hs hch hown hb9 hm9 H8 HO HZ
  have h10 : has (ks ([] : Row)) ⟨#[107]⟩ = false := has_false (by simp)
  rw [h10]
  clear h10
  have G := Lib.hid (map_get _ g8 kv9 vv9 _ ⟨#[107]⟩ W9 H9.out.2.1 (by decide))
  rw [aw8, aw9] at G
  go_wp2_with fail
  refine G.out.mono ?_
  rintro e W10 ⟨rfl, hd⟩
  have hb := hd.below W9.heap.size
  have HX := Lib.hid (And.intro (H9.out.1.later hb) (And.intro (H9.out.2.1.later hb) (H9.out.2.2.trans (hb.mono H9.out.2.2.size))))
  clear G hd hb H9
  have L := Lib.hid (len_int _ g7 kv7 vv7 _ W10 HX.out.1)
  go_wp2_with fail
  refine L.out.mono ?_
  rintro e W ⟨rfl, rfl⟩
  clear L
  have S := Lib.hid (has_int _ g7 kv7 vv7 _ 2 W10 HX.out.1 (by decide))
  rw [aw4] at S
  go_wp2_with fail
  refine S.out.mono ?_
  rintro e W11 ⟨rfl, hd⟩
  have hb := hd.below W10.heap.size
  have HY := Lib.hid (And.intro (HX.out.2.1.later hb) (HX.out.2.2.trans (hb.mono HX.out.2.2.size)))
  clear S hd hb HX
  have L := Lib.hid (map_len _ g8 kv9 vv9 _ W11 HY.out.1)
  go_wp2_with fail
  refine L.out.mono ?_
  rintro e W ⟨rfl, rfl⟩
  clear L
  have K := Lib.hid (map_keys _ g8 kv9 vv9 _ W11 HY.out.1 (by decide))
  go_wp2_with fail
  refine K.out.mono ?_
  rintro e W12 ⟨v', rfl, hs, hb⟩
  obtain ⟨ao, cap, rfl, -, -, -⟩ := hs.form
  have HB := Lib.hid (HY.out.2.trans (hb.mono HY.out.2.size))
  clear K hs hb HY
  go_wp2_with fail
  go_ret
  exact ⟨rfl, HB.out⟩
end Go.Proofs.Ytckhekkdidfefaa.Set
