/- Words for frame.Decode: where it stands. (Layer 19.) -/
import Derived.Test.YtljenganlknhbaaGreatPkW
import Derived.Test.YtljenganlknhbaaGreatPkM
import Derived.Test.YtljenganlknhbaaGreatPkY
namespace Go.Proofs.YtljenganlknhbaaGreat.Fr
set_option linter.unusedVariables false
set_option linter.unusedSimpArgs false
open Go.RowKit Oct
open Set (StrAt scells)
open Tr (Cp)
open Mk (OneOk moved_row rList_snoc rNum_val rNum_lt MkR aMk)
theorem d2_any (g P : Nat) (s : RS) (w : World) (h : Rd w g s.1 s.2) (hP : BlkIs w P 64 #[.pointer (some ⟨g, 0, none⟩)]) :
    Calls Tryz.prog 49 #[.pointer (some ⟨P, 0, none⟩)] w fun e w' => ∃ r : CpR, e = .returned (aCp r) ∧ r.c = (rCell s).1 ∧ r.Own w.heap.size w' ∧ Rd w' g (rCell s).2.1 (rCell s).2.2 ∧ Moved g w w' := by
  have hgl := BlkIs.lt h
  have hPl := hP.lt
  obtain ⟨W1, hW1⟩ : ∃ W1, W1 = w.alloc (.cells #[.string ⟨#[]⟩, .int .i64 0, .string ⟨#[]⟩, .slice none 0 0, .slice none 0 0] 49) := ⟨_, rfl⟩
  have hb : Below w.heap.size w W1 := by rw [hW1]; exact (Below.refl _ _).alloc (Nat.le_refl _) _
  have k1 : BlkIs W1 w.heap.size 49 #[.string ⟨#[]⟩, .int .i64 0, .string ⟨#[]⟩, .slice none 0 0, .slice none 0 0] := by rw [hW1]; exact BlkIs.new _ _ _
  have C := Lib.hid (cell_any g s W1 (BlkIs.below h hb hgl))
  have c0 : W1.cell? ⟨P, 0, none⟩ = some (.pointer (some ⟨g, 0, none⟩)) := (hP.below hb hPl).cell 0
  have HW := Lib.hid hW1
  have H1 := Lib.hid (And.intro k1 (And.intro hb hgl))
  clear h hP hgl hPl hW1 hb k1
  go_enter Tryz.func49, Tryz.ntmps49
  go_upto_region 1 with (fail)
  rw [← HW.out]
  go_wp2_with fail
  refine C.out.mono ?_
  rintro e w2 ⟨r, rfl, hc, hown, hr, hm⟩
  obtain ⟨o1, f1, hv1, -, -, -⟩ := hown.1.form
  obtain ⟨o2, f2, hv2, -, -, -⟩ := hown.2.form
  obtain ⟨m1, hm1⟩ : ∃ m, m = r.c.ids.length := ⟨_, rfl⟩
  obtain ⟨m2, hm2⟩ : ∃ m, m = r.c.kids.length := ⟨_, rfl⟩
  rw [← hm1] at hv1
  rw [← hm2] at hv2
  have HMl := Lib.hid (And.intro hm1 hm2)
  have hA := hm.blk H1.out.1 (Nat.ne_of_gt H1.out.2.2)
  have hM : Moved g w w2 := (Moved.of_below H1.out.2.1).trans hm
  obtain ⟨⟨a0, a1, a2, a5, a6⟩, a3, a4⟩ := r
  dsimp only at hv1 hv2
  subst hv1 hv2
  obtain ⟨hs1, hs2⟩ := hown
  dsimp only at hs1 hs2
  obtain ⟨E1, E2, E3, E4⟩ := end5 (A := w.heap.size) hM hr hA hs1 (by have := H1.out.2.2; omega) (Nat.le_refl _) (.string a0) (.int .i64 a1) (.string a2) (.slice o1 m1 f1) (.slice o2 m2 f2)
  obtain ⟨-, -, -, E5⟩ := end5 (A := w.heap.size) hM hr hA hs2 (by have := H1.out.2.2; omega) (Nat.le_refl _) (.string a0) (.int .i64 a1) (.string a2) (.slice o1 m1 f1) (.slice o2 m2 f2)
  have HE := Lib.hid (And.intro E1 (And.intro E2 (And.intro E3 (And.intro E4 E5))))
  have HC := Lib.hid hc
  have z0 : w2.cell? ⟨w.heap.size, 0, none⟩ = some (.string ⟨#[]⟩) := hA.cell 0
  have z1 : w2.cell? ⟨w.heap.size, 1, none⟩ = some (.int .i64 0) := hA.cell 1
  have z2 : w2.cell? ⟨w.heap.size, 2, none⟩ = some (.string ⟨#[]⟩) := hA.cell 2
  have z3 : w2.cell? ⟨w.heap.size, 3, none⟩ = some (.slice none 0 0) := hA.cell 3
  have z4 : w2.cell? ⟨w.heap.size, 4, none⟩ = some (.slice none 0 0) := hA.cell 4
  have g0 : w2.frozen? ⟨w.heap.size, 0, none⟩ = false := hA.free 0
  have g1 : w2.frozen? ⟨w.heap.size, 1, none⟩ = false := hA.free 1
  have g2 : w2.frozen? ⟨w.heap.size, 2, none⟩ = false := hA.free 2
  have g3 : w2.frozen? ⟨w.heap.size, 3, none⟩ = false := hA.free 3
  have g4 : w2.frozen? ⟨w.heap.size, 4, none⟩ = false := hA.free 4
  have HL := Lib.hid H1.out.2.1.size
  unfold aCp
  dsimp only
  clear E1 E2 E3 E4 E5 hs1 hs2 hm1 hm2 hc hr hm hA hM c0 C
  go_wp2_with fail
  refine bodyPost_ret (results_cell1 rfl _ _ w.heap.size 49 #[.string a0, .int .i64 a1, .string a2, .slice o1 m1 f1, .slice o2 m2 f2] (0, 0) _ rfl HE.out.1 Tryz.underlying49 rfl (by show _ = some 5; kernel_rfl)) rfl ?_
  exact ⟨⟨⟨a0, a1, a2, a5, a6⟩, .slice o1 m1 f1, .slice o2 m2 f2⟩, rfl, HC.out, ⟨HE.out.2.2.2.1.mono HL.out, HE.out.2.2.2.2.mono HL.out⟩, HE.out.2.1, HE.out.2.2.1⟩
/-- The function values that Decode hands to list. -/
theorem one1 (g P : Nat) (w : World) (hP : BlkIs w P 64 #[.pointer (some ⟨g, 0, none⟩)]) (hne : P ≠ g) : OneOk 46 #[] #[.pointer (some ⟨P, 0, none⟩)] aStr (fun x : ByteArray => x) (fun _ _ => True) (rText 64) g w :=
  ⟨enters_of Tryz.func46 (by kernel_rfl) rfl, fun s V hm hr => (d1_any g P s V hr (hm.blk hP hne)).mono fun e V' h => ⟨_, h.1, rfl, trivial, h.2.1, h.2.2⟩⟩
theorem one4 (g P : Nat) (w : World) (hP : BlkIs w P 64 #[.pointer (some ⟨g, 0, none⟩)]) (hne : P ≠ g) : OneOk 52 #[] #[.pointer (some ⟨P, 0, none⟩)] aStr (fun x : ByteArray => x) (fun _ _ => True) (rText 131072) g w :=
  ⟨enters_of Tryz.func52 (by kernel_rfl) rfl, fun s V hm hr => (d4_any g P s V hr (hm.blk hP hne)).mono fun e V' h => ⟨_, h.1, rfl, trivial, h.2.1, h.2.2⟩⟩
theorem one3 (g P : Nat) (w : World) (hP : BlkIs w P 64 #[.pointer (some ⟨g, 0, none⟩)]) (hne : P ≠ g) : OneOk 51 #[] #[.pointer (some ⟨P, 0, none⟩)] aStr (fun x : ByteArray => x) (fun _ _ => True) (rTake 32) g w :=
  ⟨enters_of Tryz.func51 (by kernel_rfl) rfl, fun s V hm hr => (d3_any g P s V hr (hm.blk hP hne)).mono fun e V' h => ⟨_, h.1, rfl, trivial, h.2.1, h.2.2⟩⟩
theorem one2 (g P : Nat) (w : World) (hP : BlkIs w P 64 #[.pointer (some ⟨g, 0, none⟩)]) (hne : P ≠ g) : OneOk 49 #[] #[.pointer (some ⟨P, 0, none⟩)] aCp (fun x : CpR => x.c) (fun W (x : CpR) => x.Own w.heap.size W) rCell g w :=
  ⟨enters_of Tryz.func49 (by kernel_rfl) rfl, fun s V hm hr => (d2_any g P s V hr (hm.blk hP hne)).mono fun e V' ⟨r, h1, h2, h3, h4, h5⟩ => ⟨r, h1, h2, h3.mono hm.size, h4, h5⟩⟩
/-- A message without anything, its cells. -/
def Z12 : Array Value := #[.int .i64 0, .int .i64 0, .int .i64 0, .int .i64 0, .int .i64 0, .slice none 0 0, .slice none 0 0, .slice none 0 0, .slice none 0 0, .slice none 0 0, .slice none 0 0, .slice none 0 0]
theorem put12 {w : World} {A : Nat} {y0 y1 y2 y3 y4 y5 y6 y7 y8 y9 y10 y11 : Value} (h : BlkIs w A 30 #[y0, y1, y2, y3, y4, y5, y6, y7, y8, y9, y10, y11]) (x0 x1 x2 x3 x4 x5 x6 x7 x8 x9 x10 x11 : Value) :
    BlkIs ((((((((((((w.setCell ⟨A, 0, none⟩ x0).setCell ⟨A, 1, none⟩ x1).setCell ⟨A, 2, none⟩ x2).setCell ⟨A, 3, none⟩ x3).setCell ⟨A, 4, none⟩ x4).setCell ⟨A, 5, none⟩ x5).setCell ⟨A, 6, none⟩ x6).setCell ⟨A, 7, none⟩ x7).setCell ⟨A, 8, none⟩ x8).setCell ⟨A, 9, none⟩ x9).setCell ⟨A, 10, none⟩ x10).setCell ⟨A, 11, none⟩ x11) A 30 #[x0, x1, x2, x3, x4, x5, x6, x7, x8, x9, x10, x11] := by
  have := ((((((((((((h.put 0 x0).put 1 x1).put 2 x2).put 3 x3).put 4 x4).put 5 x5).put 6 x6).put 7 x7).put 8 x8).put 9 x9).put 10 x10).put 11 x11)
  simp only [List.setIfInBounds_toArray, List.set_cons_zero, List.set_cons_succ] at this
  exact this
theorem below12 {w W : World} {A : Nat} (h : Below w.heap.size w W) (hA : w.heap.size ≤ A) (x0 x1 x2 x3 x4 x5 x6 x7 x8 x9 x10 x11 : Value) : Below w.heap.size w ((((((((((((W.setCell ⟨A, 0, none⟩ x0).setCell ⟨A, 1, none⟩ x1).setCell ⟨A, 2, none⟩ x2).setCell ⟨A, 3, none⟩ x3).setCell ⟨A, 4, none⟩ x4).setCell ⟨A, 5, none⟩ x5).setCell ⟨A, 6, none⟩ x6).setCell ⟨A, 7, none⟩ x7).setCell ⟨A, 8, none⟩ x8).setCell ⟨A, 9, none⟩ x9).setCell ⟨A, 10, none⟩ x10).setCell ⟨A, 11, none⟩ x11) :=
  ((((((((((((h.setCell (p := ⟨A, 0, none⟩) hA x0).setCell (p := ⟨A, 1, none⟩) hA x1).setCell (p := ⟨A, 2, none⟩) hA x2).setCell (p := ⟨A, 3, none⟩) hA x3).setCell (p := ⟨A, 4, none⟩) hA x4).setCell (p := ⟨A, 5, none⟩) hA x5).setCell (p := ⟨A, 6, none⟩) hA x6).setCell (p := ⟨A, 7, none⟩) hA x7).setCell (p := ⟨A, 8, none⟩) hA x8).setCell (p := ⟨A, 9, none⟩) hA x9).setCell (p := ⟨A, 10, none⟩) hA x10).setCell (p := ⟨A, 11, none⟩) hA x11)
theorem far12 {W : World} {A base n size : Nat} {e : TypeId} {v : Value} {vs : List Value} (h : SlIs W base e size v n vs) (hA : v.ownBlock ≠ some A) (x0 x1 x2 x3 x4 x5 x6 x7 x8 x9 x10 x11 : Value) : SlIs ((((((((((((W.setCell ⟨A, 0, none⟩ x0).setCell ⟨A, 1, none⟩ x1).setCell ⟨A, 2, none⟩ x2).setCell ⟨A, 3, none⟩ x3).setCell ⟨A, 4, none⟩ x4).setCell ⟨A, 5, none⟩ x5).setCell ⟨A, 6, none⟩ x6).setCell ⟨A, 7, none⟩ x7).setCell ⟨A, 8, none⟩ x8).setCell ⟨A, 9, none⟩ x9).setCell ⟨A, 10, none⟩ x10).setCell ⟨A, 11, none⟩ x11) base e size v n vs :=
  ((((((((((((h.far (p := ⟨A, 0, none⟩) hA x0).far (p := ⟨A, 1, none⟩) hA x1).far (p := ⟨A, 2, none⟩) hA x2).far (p := ⟨A, 3, none⟩) hA x3).far (p := ⟨A, 4, none⟩) hA x4).far (p := ⟨A, 5, none⟩) hA x5).far (p := ⟨A, 6, none⟩) hA x6).far (p := ⟨A, 7, none⟩) hA x7).far (p := ⟨A, 8, none⟩) hA x8).far (p := ⟨A, 9, none⟩) hA x9).far (p := ⟨A, 10, none⟩) hA x10).far (p := ⟨A, 11, none⟩) hA x11)
/-- Where Decode stands: its Reader at g, its own pointer to that at P, what it hands back at the first block. -/
def DS (w : World) (g P : Nat) (s : RS) (W : World) : Prop :=
  Below w.heap.size w W ∧ BlkIs W w.heap.size 30 #[.int .i64 0, .int .i64 0, .int .i64 0, .int .i64 0, .int .i64 0, .slice none 0 0, .slice none 0 0, .slice none 0 0, .slice none 0 0, .slice none 0 0, .slice none 0 0, .slice none 0 0] ∧ Rd W g s.1 s.2 ∧ BlkIs W P 64 #[.pointer (some ⟨g, 0, none⟩)] ∧ w.heap.size < g ∧ g < P
section
variable {w : World} {g P : Nat} {s s' : RS} {W W' : World}
theorem DS.call (h : DS w g P s W) (hr : Rd W' g s'.1 s'.2) (hm : Moved g W W') : DS w g P s' W' :=
  ⟨h.1.trans ((hm.below (Nat.le_of_lt (BlkIs.lt h.2.2.1))).mono (Nat.le_of_lt h.2.2.2.2.1)), hm.blk h.2.1 (Nat.ne_of_lt h.2.2.2.2.1), hr, hm.blk h.2.2.2.1 (Nat.ne_of_gt h.2.2.2.2.2), h.2.2.2.2⟩
theorem DS.below (h : DS w g P s W) (hb : Below W.heap.size W W') : DS w g P s W' :=
  ⟨h.1.trans (hb.mono h.1.size), h.2.1.below hb h.2.1.lt, BlkIs.below h.2.2.1 hb (BlkIs.lt h.2.2.1), h.2.2.2.1.below hb h.2.2.2.1.lt, h.2.2.2.2⟩
theorem DS.alloc (h : DS w g P s W) (o : Obj) : DS w g P s (W.alloc o) := h.below ((Below.refl _ _).alloc (Nat.le_refl _) o)
theorem DS.drew (h : DS w g P s W) : DS w g P s W.drew := h.below ⟨rfl, rfl, rfl, Nat.le_refl _, fun _ _ => rfl⟩
theorem DS.far (h : DS w g P s W) {p : Addr} (hp : P < p.block) (u : Value) : DS w g P s (W.setCell p u) :=
  ⟨h.1.setCell (by have := h.2.2.2.2; omega) u, h.2.1.far (by have := h.2.2.2.2; omega) u, BlkIs.far h.2.2.1 (by have := h.2.2.2.2; omega) u, h.2.2.2.1.far (Nat.ne_of_lt hp) u, h.2.2.2.2⟩
end
/-- With the message under way at M. -/
def DM (w : World) (g P M : Nat) (s : RS) (cs : Array Value) (W : World) : Prop := DS w g P s W ∧ BlkIs W M 30 cs ∧ P < M
section
variable {w : World} {g P M : Nat} {s s' : RS} {cs : Array Value} {W W' : World}
theorem DM.call (h : DM w g P M s cs W) (hr : Rd W' g s'.1 s'.2) (hm : Moved g W W') : DM w g P M s' cs W' :=
  ⟨h.1.call hr hm, hm.blk h.2.1 (by have := h.1.2.2.2.2; have := h.2.2; omega), h.2.2⟩
theorem DM.below (h : DM w g P M s cs W) (hb : Below W.heap.size W W') : DM w g P M s cs W' := ⟨h.1.below hb, h.2.1.below hb h.2.1.lt, h.2.2⟩
theorem DM.alloc (h : DM w g P M s cs W) (o : Obj) : DM w g P M s cs (W.alloc o) := h.below ((Below.refl _ _).alloc (Nat.le_refl _) o)
theorem DM.drew (h : DM w g P M s cs W) : DM w g P M s cs W.drew := h.below ⟨rfl, rfl, rfl, Nat.le_refl _, fun _ _ => rfl⟩
theorem DM.put (h : DM w g P M s cs W) (i : Nat) (u : Value) : DM w g P M s (cs.setIfInBounds i u) (W.setCell ⟨M, i, none⟩ u) := ⟨h.1.far (p := ⟨M, i, none⟩) h.2.2 u, h.2.1.put i u, h.2.2⟩
theorem DM.far (h : DM w g P M s cs W) {p : Addr} (hp : M < p.block) (u : Value) : DM w g P M s cs (W.setCell p u) := ⟨h.1.far (Nat.lt_trans h.2.2 hp) u, h.2.1.far (Nat.ne_of_lt hp) u, h.2.2⟩
end
/-- A message without anything, as it lies. -/
def MsgR.none_ : MsgR := ⟨0, 0, 0, 0, 0, [], [], [], [], Mk.MkR.none_, .slice none 0 0, .slice none 0 0, .slice none 0 0, .slice none 0 0⟩
theorem MsgR.none_msg : MsgR.none_.msg = noMsg := rfl
theorem strAt_none (w : World) : StrAt w (.slice none 0 0) [] := StrAt.of_sl (base := 0) (e := 0) (SlIs.nil_ _ _ _ _)
theorem MsgR.none_reads (w : World) : MsgR.none_.Reads w := ⟨strAt_none w, ⟨Mk.RowAt.nil_ vCp (fun _ => rfl) w, fun z hz => by cases hz⟩, strAt_none w, strAt_none w, Mk.MkR.none_reads w⟩
theorem MsgR.none_small : MsgR.none_.Small := ⟨⟨by decide, by decide, by decide, by decide⟩, Mk.MkR.none_small, (fun x hx => by cases hx), (fun x hx => by cases hx)⟩
theorem MsgR.none_agg : aMsg MsgR.none_ = .agg #[.int .i64 0, .int .i64 0, .int .i64 0, .int .i64 0, .int .i64 0, .slice none 0 0, .slice none 0 0, .slice none 0 0, .slice none 0 0, .slice none 0 0, .slice none 0 0, .slice none 0 0] := rfl
/-- A message whose lists a call has made itself, from base on. -/
def MsgR.Own (base : Nat) (w : World) (m : MsgR) : Prop := SlIs w base 9 1 m.pv m.pre.length (scells m.pre) ∧ SlIs w base 49 5 m.cv m.cel.length (rowCells vCp m.cel) ∧ (∀ z ∈ m.cel, z.Own base w) ∧ SlIs w base 9 1 m.iv m.ids.length (scells m.ids) ∧ SlIs w base 9 1 m.ov m.obj.length (scells m.obj) ∧ m.mar.Own base w
theorem MsgR.Own.reads {base : Nat} {w : World} {m : MsgR} (h : m.Own base w) : m.Reads w := ⟨StrAt.of_sl h.1, ⟨RowAt.of_sl (fun _ => rfl) h.2.1, fun z hz => (h.2.2.1 z hz).reads⟩, StrAt.of_sl h.2.2.2.1, StrAt.of_sl h.2.2.2.2.1, h.2.2.2.2.2.reads⟩
theorem MsgR.Own.later {base : Nat} {w w' : World} {m : MsgR} (h : m.Own base w) (hb : Below w.heap.size w w') : m.Own base w' := ⟨h.1.later hb, h.2.1.later hb, fun z hz => (h.2.2.1 z hz).later hb, h.2.2.2.1.later hb, h.2.2.2.2.1.later hb, h.2.2.2.2.2.later hb⟩
/-- What Decode hands back. -/
def FDecOut (s : ByteArray) (w : World) (e : Ending) (w' : World) : Prop :=
  ∃ m : MsgR, e = .returned (.tuple #[aMsg m, .int .i64 (decM s).1]) ∧ m.msg = (decM s).2 ∧ m.Reads w' ∧ m.Small ∧ Below w.heap.size w w'
theorem fdec_none {s : ByteArray} {w w' : World} {n : Int} (hd : decM s = (n, noMsg)) (hb : Below w.heap.size w w') : FDecOut s w (.returned (.tuple #[.agg #[.int .i64 0, .int .i64 0, .int .i64 0, .int .i64 0, .int .i64 0, .slice none 0 0, .slice none 0 0, .slice none 0 0, .slice none 0 0, .slice none 0 0, .slice none 0 0, .slice none 0 0], .int .i64 n])) w' :=
  ⟨MsgR.none_, by rw [hd]; rfl, by rw [hd]; rfl, MsgR.none_reads _, MsgR.none_small, hb⟩
end Go.Proofs.YtljenganlknhbaaGreat.Fr
