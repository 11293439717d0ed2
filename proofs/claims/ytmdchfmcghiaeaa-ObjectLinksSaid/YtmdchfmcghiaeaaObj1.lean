/- object: Good and the first of Encode's and Decode's forms, walked. -/
import Derived.Test.YtmdchfmcghiaeaaBuilder
import Derived.Test.YtmdchfmcghiaeaaOctet1
import Derived.Test.YtmdchfmcghiaeaaSha5
namespace Go.Proofs.Ytmdchfmcghiaeaa.Obj
open Go.RowKit
/-- An object as a value. -/
def obj (k : Int) (d : ByteArray) (es : Value) (t : ByteArray) (ps : Value) (h : Int) (n : ByteArray) : Value := .agg #[.int .i64 k, .string d, es, .string t, ps, .int .i64 h, .string n]
theorem good_blob (d : ByteArray) (es : Value) (t : ByteArray) (ps : Value) (h : Int) (n : ByteArray) (w : World) :
    Calls Try.prog 29 #[obj 1 d es t ps h n] w fun e w' => e = .returned (.bool (decide ((d.size : Int) ≤ 65536))) ∧ Below w.heap.size w w' := by
  unfold obj
  go_enter Try.func29, Try.ntmps29
  go_wp2_with fail
  go_ret
  exact ⟨rfl, (Below.refl _ _).alloc (Nat.le_refl _) _⟩
theorem good_odd (k : Int) (d : ByteArray) (es : Value) (t : ByteArray) (ps : Value) (h : Int) (n : ByteArray) (w : World) (h1 : k ≠ 1) (h2 : k ≠ 2) (h3 : k ≠ 3) :
    Calls Try.prog 29 #[obj k d es t ps h n] w fun e w' => e = .returned (.bool false) ∧ Below w.heap.size w w' := by
  unfold obj
  go_enter Try.func29, Try.ntmps29
  go_wp2_with fail
  go_ret
  exact ⟨rfl, (Below.refl _ _).alloc (Nat.le_refl _) _⟩
theorem good_tree (d : ByteArray) (es : Value) (t : ByteArray) (ps : Value) (h : Int) (n : ByteArray) (w : World) (g : Bool)
    (hg : ∀ w1 : World, Below w.heap.size w w1 → Calls Try.prog 61 #[es] w1 fun e w' => e = .returned (.bool g) ∧ Below w1.heap.size w1 w') :
    Calls Try.prog 29 #[obj 2 d es t ps h n] w fun e w' => e = .returned (.bool g) ∧ Below w.heap.size w w' := by
  unfold obj
  have Hg := Lib.hid hg
  clear hg
  go_enter Try.func29, Try.ntmps29
  go_wp2_with fail
  refine (Hg.out _ ((Below.refl _ _).alloc (Nat.le_refl _) _)).mono ?_
  rintro e w1 ⟨rfl, hb1⟩
  have hb := ((Below.refl w.heap.size w).alloc (Nat.le_refl _) _).trans (hb1.mono (by simp))
  clear hb1
  go_wp2_with fail
  go_ret
  exact ⟨rfl, hb⟩
set_option maxRecDepth 100000 in
theorem rising_none (w : World) : Calls Try.prog 86 #[.slice none 0 0] w fun e w' => e = .returned (.bool true) ∧ w = w' := by
  go_enter Try.func86, Try.ntmps86
  go_wp2
  go_loopw [3] (fun i wr => i = .int .i64 1 ∧ wr = w) (fun _ _ => 0)
  case atStart => exact ⟨rfl, rfl⟩
  case round =>
    obtain ⟨rfl, rfl⟩ := hrel
    go_wp2
    go_ret
    exact ⟨rfl, rfl⟩
set_option maxRecDepth 100000 in
theorem tree_none (w : World) : Calls Try.prog 61 #[.slice none 0 0] w fun e w' => e = .returned (.bool true) ∧ w = w' := by
  go_enter Try.func61, Try.ntmps61
  go_wp2
  go_loopw [3, 8] (fun l i wr => l = .slice none 0 0 ∧ i = .int .i64 0 ∧ wr = w) (fun _ _ _ => 0)
  case atStart => exact ⟨rfl, rfl, rfl⟩
  case round =>
    obtain ⟨rfl, rfl, rfl⟩ := hrel
    go_wp2_with fail
    refine (rising_none _).mono ?_
    rintro e w1 ⟨rfl, rfl⟩
    go_wp2_with fail
    go_ret
    exact ⟨rfl, rfl⟩
/-- An object that is none is not written. -/
theorem encode_bad (k : Int) (d : ByteArray) (es : Value) (t : ByteArray) (ps : Value) (h : Int) (n : ByteArray) (w : World)
    (hg : ∀ w1 : World, Below w.heap.size w w1 → Calls Try.prog 29 #[obj k d es t ps h n] w1 fun e w' => e = .returned (.bool false) ∧ Below w1.heap.size w1 w') :
    Calls Try.prog 28 #[obj k d es t ps h n] w fun e w' => e = .returned (.tuple #[.string ⟨#[]⟩, .int .i64 1]) ∧ Below w.heap.size w w' := by
  have Hg := Lib.hid hg
  clear hg
  unfold obj at *
  go_enter Try.func28, Try.ntmps28
  go_wp2_with fail
  refine (Hg.out _ ((Below.refl _ _).alloc (Nat.le_refl _) _)).mono ?_
  rintro e w1 ⟨rfl, hb1⟩
  have hb := ((Below.refl w.heap.size w).alloc (Nat.le_refl _) _).trans (hb1.mono (by simp))
  clear hb1
  go_wp2_with fail
  go_ret2
  exact ⟨rfl, hb⟩
theorem encode_blob (d : ByteArray) (es : Value) (t : ByteArray) (ps : Value) (h : Int) (n : ByteArray) (w : World) (hd : d.size ≤ 65536) :
    Calls Try.prog 28 #[obj 1 d es t ps h n] w fun e w' => e = .returned (.tuple #[.string ⟨(1 :: d.data.toList).toArray⟩, .int .i64 0]) ∧ Below w.heap.size w w' := by
  have hg : ∀ w1 : World, Calls Try.prog 29 #[obj 1 d es t ps h n] w1 fun e w' => e = .returned (.bool true) ∧ Below w1.heap.size w1 w' := fun w1 => by
    have := good_blob d es t ps h n w1
    rwa [decide_eq_true (by omega : (d.size : Int) ≤ 65536)] at this
  have Hg := Lib.hid hg
  clear hg
  unfold obj at *
  go_enter Try.func28, Try.ntmps28
  go_wp2_with fail
  refine (Hg.out _).mono ?_
  rintro e w1 ⟨rfl, hb1⟩
  have hb := ((Below.refl w.heap.size w).alloc (Nat.le_refl _) _).trans (hb1.mono (by simp))
  have hblk := (BlkIs.new w 34 #[.int .i64 1, .string d, es, .string t, ps, .int .i64 h, .string n]).below hb1 (by simp)
  have hlt := hblk.lt
  have d0 : w1.cell? ⟨w.heap.size, 0, none⟩ = some (.int .i64 1) := hblk.cell 0
  have d1 : w1.cell? ⟨w.heap.size, 1, none⟩ = some (.string d) := hblk.cell 1
  have H1 := Lib.hid (And.intro hblk hb)
  clear hb1 hb hblk
  go_wp2_with fail
  have hw1 := H1.out.2.size
  refine (Bld.writeByte w1.heap.size w1.heap.size [] 1 _ (Bld.Is.new _) (by decide) (by simp)).mono ?_
  rintro e w2 ⟨rfl, h2, hb2⟩
  have hb2' := (((Below.refl w1.heap.size w1).alloc (Nat.le_refl _) _).trans hb2)
  have hblk2 := H1.out.1.below hb2' hlt
  have e0 : w2.cell? ⟨w.heap.size, 0, none⟩ = some (.int .i64 1) := hblk2.cell 0
  have e1 : w2.cell? ⟨w.heap.size, 1, none⟩ = some (.string d) := hblk2.cell 1
  have H2 := Lib.hid (And.intro h2 (H1.out.2.trans (hb2'.mono hw1)))
  have hz2 := hb2'.size
  clear h2 hb2 hb2' hblk2 d0 d1
  go_wp2_with fail
  refine (Bld.writeString w1.heap.size w1.heap.size _ d w2 H2.out.1 (by simp; omega) hz2).mono ?_
  rintro e w3 ⟨rfl, h3, hb3⟩
  have H3 := Lib.hid (And.intro h3 (H2.out.2.trans (hb3.mono hw1)))
  clear h3 hb3 e0 e1
  go_wp2_with fail
  refine (Bld.string w1.heap.size w1.heap.size _ w3 H3.out.1 (by simp)).mono ?_
  rintro e w4 ⟨rfl, hb4⟩
  have hb5 := H3.out.2.trans (hb4.mono hw1)
  clear hb4
  go_wp2_with fail
  go_ret2
  exact ⟨rfl, hb5⟩
theorem two_blocks (w : World) (t : TypeId) (c0 c1 : Array Value) (G : World → Prop) (h : ∀ W0, BlkIs W0 w.heap.size t c0 → BlkIs W0 (w.heap.size + 1) t c1 → Below w.heap.size w W0 → W0.heap.size = w.heap.size + 2 → G W0) : G ((w.alloc (.cells c0 t)).alloc (.cells c1 t)) :=
  h _ ((BlkIs.new w t c0).alloc _) (BlkIs.new2 w _ t c1) (((Below.refl _ _).alloc (Nat.le_refl _) _).alloc (by simp) _) (by simp)
theorem own_later {w w' : World} {B : Nat} {e : TypeId} {v : Value} {n : Nat} {xs : List Value} (h : w.ownsRow B e 1 v n xs) (hb : Below w.heap.size w w') : w'.ownsRow B e 1 v n xs := by
  refine ⟨h.1, ?_⟩
  rcases h.2 with h0 | ⟨g, cap, cur, hv, hg, hh, r⟩
  · exact Or.inl h0
  · refine Or.inr ⟨g, cap, cur, hv, hg, ?_, r⟩
    rw [hb.block g (BlkIs.lt (t := e) (cs := cur) hh)]
    exact hh
theorem _root_.Go.Proofs.Ytmdchfmcghiaeaa.Bld.Is.later {w w' : World} {B b : Nat} {l : List UInt8} (h : Bld.Is w B b l) (hb : Below w.heap.size w w') : Bld.Is w' B b l := by
  have step : ∀ p, Lib.BuilderAt 81 5 B b p (Lib.byteCells l) w → Lib.BuilderAt 81 5 B b p (Lib.byteCells l) w' := by
    rintro p ⟨hB, v, hbk, hown, hne⟩
    refine ⟨hB, v, ?_, own_later hown hb, hne⟩
    rw [hb.block b (Lib.BuilderAt.lt (T := 81) (e := 5) ⟨hB, v, hbk, hown, hne⟩)]
    exact hbk
  rcases h with h | h
  · exact Or.inl (step _ h)
  · exact Or.inr (step _ h)
set_option maxRecDepth 100000 in
theorem encode_none (d : ByteArray) (t : ByteArray) (ps : Value) (h : Int) (n : ByteArray) (w : World) :
    Calls Try.prog 28 #[obj 2 d (.slice none 0 0) t ps h n] w fun e w' => e = .returned (.tuple #[.string ⟨#[2, 0, 0, 0, 0]⟩, .int .i64 0]) ∧ Below w.heap.size w w' := by
  have hg : ∀ w1 : World, Calls Try.prog 29 #[obj 2 d (.slice none 0 0) t ps h n] w1 fun e w' => e = .returned (.bool true) ∧ Below w1.heap.size w1 w' := fun w1 =>
    good_tree d _ t ps h n w1 true fun w2 _ => (tree_none w2).mono fun e w' ⟨h1, h2⟩ => ⟨h1, h2 ▸ Below.refl _ _⟩
  have Hg := Lib.hid hg
  clear hg
  have hnum := Oct.num 0
  have hl0 : (ByteArray.mk (Oct.le32 0).toArray) = ⟨#[0, 0, 0, 0]⟩ := by rfl
  rw [hl0] at hnum
  have Hnum := Lib.hid hnum
  clear hnum hl0
  unfold obj at *
  go_enter Try.func28, Try.ntmps28
  go_wp2_with fail
  refine (Hg.out _).mono ?_
  rintro e w1 ⟨rfl, hb1⟩
  have hb := ((Below.refl w.heap.size w).alloc (Nat.le_refl _) _).trans (hb1.mono (by simp))
  have hblk := (BlkIs.new w 34 #[.int .i64 2, .string d, .slice none 0 0, .string t, ps, .int .i64 h, .string n]).below hb1 (by simp)
  have hlt := hblk.lt
  have d0 : w1.cell? ⟨w.heap.size, 0, none⟩ = some (.int .i64 2) := hblk.cell 0
  have H1 := Lib.hid (And.intro hblk hb)
  clear hb1 hb hblk
  go_wp2_with fail
  have hw1 := H1.out.2.size
  refine (Bld.writeByte w1.heap.size w1.heap.size [] 2 _ (Bld.Is.new _) (by decide) (by simp)).mono ?_
  rintro e w2 ⟨rfl, h2, hb2⟩
  have hb2' := (((Below.refl w1.heap.size w1).alloc (Nat.le_refl _) _).trans hb2)
  have hblk2 := H1.out.1.below hb2' hlt
  have e0 : w2.cell? ⟨w.heap.size, 0, none⟩ = some (.int .i64 2) := hblk2.cell 0
  have e2 : w2.cell? ⟨w.heap.size, 2, none⟩ = some (.slice none 0 0) := hblk2.cell 2
  have H2 := Lib.hid (And.intro h2 (And.intro hblk2 (H1.out.2.trans (hb2'.mono hw1))))
  have hz2 := hb2'.size
  clear h2 hb2 hb2' hblk2 d0
  go_wp2_with fail
  refine (Hnum.out w2).mono ?_
  rintro e w3 ⟨rfl, hb3⟩
  have H3 := Lib.hid (And.intro (H2.out.1.later hb3) (And.intro (H2.out.2.1.below hb3 H2.out.2.1.lt) (H2.out.2.2.trans (hb3.mono (Nat.le_trans hw1 hz2)))))
  have hz3 := hb3.size
  clear hb3 e0 e2
  go_wp2_with fail
  refine (Bld.writeString w1.heap.size w1.heap.size _ _ w3 H3.out.1 (by decide) (by omega)).mono ?_
  rintro e w4 ⟨rfl, h4, hb4⟩
  have hblk4 := H3.out.2.1.below hb4 hlt
  have e2 : w4.cell? ⟨w.heap.size, 2, none⟩ = some (.slice none 0 0) := hblk4.cell 2
  have H4 := Lib.hid (And.intro h4 (H3.out.2.2.trans (hb4.mono hw1)))
  clear h4 hb4 hblk4
  go_wp2_with fail
  go_loopw [32] (fun i wr => i = .int .i64 0 ∧ wr = w4) (fun _ _ => 0)
  case atStart => exact ⟨rfl, rfl⟩
  case round =>
    obtain ⟨rfl, rfl⟩ := hrel
    go_wp2_with fail
    refine (Bld.string w1.heap.size w1.heap.size _ _ H4.out.1 (by simp)).mono ?_
    rintro e w5 ⟨rfl, hb5⟩
    have hb6 := H4.out.2.trans (hb5.mono hw1)
    clear hb5
    go_wp2_with fail
    go_ret2
    exact ⟨rfl, hb6⟩
end Go.Proofs.Ytmdchfmcghiaeaa.Obj
