/- shelf.Meet, Minus, Within, Union, walked. (Layer 08.) -/
import Derived.Test.YtckhekkdidfefaaSetI6
namespace Go.Proofs.Ytckhekkdidfefaa.Set
set_option linter.unusedVariables false
open Go.RowKit Go.Sort Go.Lib Go.Shelf
theorem icells_app (l m : List Int) : icells (l ++ m) = icells l ++ icells m := by simp [icells]
/-- What part leaves. -/
def IntPart (la lb : List Int) (inn : Bool) (w w' : World) (e : Ending) : Prop := ∃ g kv vv, e = .returned (.pointer (some ⟨g, 0, none⟩)) ∧ IntSet w' w.heap.size g kv vv (la.filter (partOf lb inn)) ∧ Below w.heap.size w w'
theorem meet_int (ba ga bb gb : Nat) (kva vva kvb vvb : Value) (la lb : List Int) (w : World) (ha : IntSet w ba ga kva vva la) (hb : IntSet w bb gb kvb vvb lb) (hna : la.length < 1000000) (hnb : lb.length ≤ 1000000) :
    Calls Try.prog 15 #[.pointer (some ⟨ga, 0, none⟩), .pointer (some ⟨gb, 0, none⟩)] w fun e w' => IntPart la lb true w w' e := by
  have C := Lib.hid (part_int ba ga bb gb kva vva kvb vvb la lb true w ha hb hna hnb)
  clear ha hb hna hnb
  go_enter Try.func15, Try.ntmps15
  go_wp2_with fail
  refine C.out.mono ?_
  rintro e w1 ⟨g, kv, vv, rfl, hs, hbl⟩
  have H := Lib.hid (And.intro hs hbl)
  clear C hs hbl
  go_wp2_with fail
  go_ret
  exact ⟨g, kv, vv, rfl, H.out⟩
theorem minus_int (ba ga bb gb : Nat) (kva vva kvb vvb : Value) (la lb : List Int) (w : World) (ha : IntSet w ba ga kva vva la) (hb : IntSet w bb gb kvb vvb lb) (hna : la.length < 1000000) (hnb : lb.length ≤ 1000000) :
    Calls Try.prog 17 #[.pointer (some ⟨ga, 0, none⟩), .pointer (some ⟨gb, 0, none⟩)] w fun e w' => IntPart la lb false w w' e := by
  have C := Lib.hid (part_int ba ga bb gb kva vva kvb vvb la lb false w ha hb hna hnb)
  clear ha hb hna hnb
  go_enter Try.func17, Try.ntmps17
  go_wp2_with fail
  refine C.out.mono ?_
  rintro e w1 ⟨g, kv, vv, rfl, hs, hbl⟩
  have H := Lib.hid (And.intro hs hbl)
  clear C hs hbl
  go_wp2_with fail
  go_ret
  exact ⟨g, kv, vv, rfl, H.out⟩
theorem within_int (ba ga bb gb : Nat) (kva vva kvb vvb : Value) (la lb : List Int) (w : World) (ha : IntSet w ba ga kva vva la) (hb : IntSet w bb gb kvb vvb lb) (hna : la.length < 1000000) (hnb : lb.length ≤ 1000000) :
    Calls Try.prog 19 #[.pointer (some ⟨ga, 0, none⟩), .pointer (some ⟨gb, 0, none⟩)] w fun e w' => e = .returned (.bool (((la.filter (partOf lb false)).length : Int) == 0)) ∧ Below w.heap.size w w' := by
  have C := Lib.hid (minus_int ba ga bb gb kva vva kvb vvb la lb w ha hb hna hnb)
  clear ha hb hna hnb
  obtain ⟨n, hn⟩ : ∃ n, n = (la.filter (partOf lb false)).length := ⟨_, rfl⟩
  rw [← hn]
  have HN := Lib.hid hn
  clear hn
  go_enter Try.func19, Try.ntmps19
  go_wp2_with fail
  refine C.out.mono ?_
  rintro e w1 ⟨g, kv, vv, rfl, hs, hbl⟩
  have L := Lib.hid (len_int _ g kv vv _ w1 hs)
  rw [← HN.out] at L
  have H := Lib.hid hbl
  clear C hs hbl
  go_wp2_with fail
  refine L.out.mono ?_
  rintro e w2 ⟨rfl, rfl⟩
  clear L
  go_wp2_with fail
  go_ret
  exact ⟨rfl, H.out⟩
set_option maxRecDepth 100000 in
theorem union_int (ba ga bb gb : Nat) (kva vva kvb vvb : Value) (la lb : List Int) (w : World) (ha : IntSet w ba ga kva vva la) (hb : IntSet w bb gb kvb vvb lb) (hna : la.length ≤ 500000) (hnb : lb.length ≤ 500000) :
    Calls Try.prog 12 #[.pointer (some ⟨ga, 0, none⟩), .pointer (some ⟨gb, 0, none⟩)] w fun e w' => IntOf (la ++ lb) w w' e := by
  have C := Lib.hid (list_int ba ga kva vva la w ha (by omega))
  have HN := Lib.hid (And.intro hna (And.intro hnb hb))
  clear ha hb hna hnb
  go_enter Try.func12, Try.ntmps12
  go_wp2_with fail
  refine C.out.mono ?_
  rintro e w1 ⟨v1, rfl, hs1, hb1⟩
  have H1 := Lib.hid (And.intro hs1 hb1)
  have C2 := Lib.hid (list_int bb gb kvb vvb lb w1 (HN.out.2.2.later hb1) (by have := HN.out.2.1; omega))
  clear C hs1 hb1
  go_wp2_with fail
  refine C2.out.mono ?_
  rintro e w2 ⟨v2, rfl, hs2, hb2⟩
  have H2 := Lib.hid (show SlIs w2 w.heap.size 3 1 v1 la.length (icells la) ∧ SlIs w2 w.heap.size 3 1 v2 lb.length (icells lb) ∧ Below w.heap.size w w2 from ⟨H1.out.1.later hb2, hs2.mono H1.out.2.size, H1.out.2.trans (hb2.mono H1.out.2.size)⟩)
  have hnn : la.length + lb.length ≤ 1000000 := by have := HN.out.1; have := HN.out.2.1; omega
  clear C2 hs2 hb2
  go_wp2_with (refine wpList_append_sl rfl _ _ _ 22 (by rfl) el_int (base := w.heap.size) v1 la.length (icells la) (by rfl) H2.out.1 v2 lb.length (icells lb) (by rfl) (SrcIs.own Try.underlying22 H2.out.2.1) (icells_one _) (by unfold maxLen; omega) (by omega) H2.out.2.2.size ?_)
  intro v3 w3 hs3 hg3 hat3
  rw [← icells_app, ← List.length_append] at hs3
  have hb3 : Below w.heap.size w w3 := H2.out.2.2.grown hg3 H2.out.2.2.size fun j hj => (H2.out.1.lt j hj).1
  have hnu : (la ++ lb).length ≤ 1000000 := by rw [List.length_append]; omega
  have HA := Lib.hid hat3
  clear hat3
  obtain ⟨lu, hlu⟩ : ∃ lu, lu = la ++ lb := ⟨_, rfl⟩
  rw [← hlu] at hs3 hnu
  have HL := Lib.hid hlu
  clear hlu
  have O := Lib.hid (of_int v3 lu w3 (IntAt.of_sl hs3) hnu)
  have H3 := Lib.hid hb3
  obtain ⟨a3, c3, rfl, -, -, -⟩ := hs3.form
  clear hs3 hg3 hb3 hnn hnu
  go_wp2_with fail
  refine O.out.mono ?_
  intro e w4 hq
  unfold IntOf at hq
  obtain ⟨g, kv, vv, l, he, h1, h2, h3⟩ := hq
  have HO := Lib.hid (And.intro h1 (And.intro h2 h3))
  clear O h1 h2 h3
  subst he
  go_wp2_with fail
  go_ret
  exact ⟨g, kv, vv, l, rfl, HL.out ▸ HO.out.1, HO.out.2.1.mono H3.out.size, H3.out.trans (HO.out.2.2.mono H3.out.size)⟩
end Go.Proofs.Ytckhekkdidfefaa.Set
