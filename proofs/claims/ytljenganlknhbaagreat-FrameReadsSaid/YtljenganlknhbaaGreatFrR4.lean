/- Words for the reference's Decode: where it stands. Printed by gen_frr4.py. (Layer 19.) -/
import Derived.Test.YtljenganlknhbaaGreatFrR1
import Derived.Test.YtljenganlknhbaaGreatFrR2
import Derived.Test.YtljenganlknhbaaGreatFrD
namespace Go.Proofs.YtljenganlknhbaaGreat.Oct
open Go.RowKit
theorem RRd.keep {w : World} {g : Nat} {r : ByteArray} {b : Bool} (h : RRd w g r b) : RRd (w.setCell ⟨g, 2, none⟩ (.bool b)) g r b := by
  obtain ⟨S, a, h, h1⟩ := h
  refine ⟨S, a, ?_, h1⟩
  have := h.put 2 (.bool b)
  simpa using this
end Go.Proofs.YtljenganlknhbaaGreat.Oct
namespace Go.Proofs.YtljenganlknhbaaGreat.Fr
set_option linter.unusedVariables false
set_option linter.unusedSimpArgs false
open Go.RowKit Oct
open Set (StrAt scells)
open Tr (Cp)
open Mk (moved_row rNum_lt rr_num MkR aMk)
/-- Where the reference's Decode stands: its Reader at g, what it hands back at the first block. -/
def DSr (w : World) (g : Nat) (s : RS) (W : World) : Prop :=
  Below w.heap.size w W ∧ BlkIs W w.heap.size 30 #[.int .i64 0, .int .i64 0, .int .i64 0, .int .i64 0, .int .i64 0, .slice none 0 0, .slice none 0 0, .slice none 0 0, .slice none 0 0, .slice none 0 0, .slice none 0 0, .slice none 0 0] ∧ RRd W g s.1 s.2 ∧ w.heap.size < g
section
variable {w : World} {g : Nat} {s s' : RS} {W W' : World}
theorem DSr.call (h : DSr w g s W) (hr : RRd W' g s'.1 s'.2) (hm : Moved g W W') : DSr w g s' W' :=
  ⟨h.1.trans ((hm.below (Nat.le_of_lt h.2.2.1.lt)).mono (Nat.le_of_lt h.2.2.2)), hm.blk h.2.1 (Nat.ne_of_lt h.2.2.2), hr, h.2.2.2⟩
theorem DSr.below (h : DSr w g s W) (hb : Below W.heap.size W W') : DSr w g s W' :=
  ⟨h.1.trans (hb.mono h.1.size), h.2.1.below hb h.2.1.lt, h.2.2.1.below hb h.2.2.1.lt, h.2.2.2⟩
theorem DSr.alloc (h : DSr w g s W) (o : Obj) : DSr w g s (W.alloc o) := h.below ((Below.refl _ _).alloc (Nat.le_refl _) o)
theorem DSr.far (h : DSr w g s W) {p : Addr} (hp : g < p.block) (u : Value) : DSr w g s (W.setCell p u) :=
  ⟨h.1.setCell (by have := h.2.2.2; omega) u, h.2.1.far (by have := h.2.2.2; omega) u, h.2.2.1.far (by omega) u, h.2.2.2⟩
theorem DSr.app (h : DSr w g s W) {row : Option Nat} (hg : W.grownBy W' row) (hr : ∀ k, row = some k → g < k) : DSr w g s W' :=
  ⟨h.1.grown hg h.1.size (fun k hk => by have := hr k hk; have := h.2.2.2; omega), BlkIs.grown h.2.1 hg (fun e => by have := hr _ e.symm; have := h.2.2.2; omega), h.2.2.1.grown hg (fun e => by have := hr _ e.symm; omega), h.2.2.2⟩
theorem DSr.spoil (h : DSr w g s W) : DSr w g spoilt (W.setCell ⟨g, 2, none⟩ (.bool true)) :=
  ⟨h.1.setCell (p := ⟨g, 2, none⟩) (Nat.le_of_lt h.2.2.2) _, h.2.1.far (p := ⟨g, 2, none⟩) (Nat.ne_of_lt h.2.2.2) _, h.2.2.1.spoilt, h.2.2.2⟩
theorem DSr.keep (h : DSr w g s W) : DSr w g s (W.setCell ⟨g, 2, none⟩ (.bool s.2)) :=
  ⟨h.1.setCell (p := ⟨g, 2, none⟩) (Nat.le_of_lt h.2.2.2) _, h.2.1.far (p := ⟨g, 2, none⟩) (Nat.ne_of_lt h.2.2.2) _, h.2.2.1.keep, h.2.2.2⟩
end
/-- With the message under way at M. -/
def DMr (w : World) (g M : Nat) (s : RS) (cs : Array Value) (W : World) : Prop := DSr w g s W ∧ BlkIs W M 30 cs ∧ g < M
section
variable {w : World} {g M : Nat} {s s' : RS} {cs : Array Value} {W W' : World}
theorem DMr.call (h : DMr w g M s cs W) (hr : RRd W' g s'.1 s'.2) (hm : Moved g W W') : DMr w g M s' cs W' :=
  ⟨h.1.call hr hm, hm.blk h.2.1 (Nat.ne_of_gt h.2.2), h.2.2⟩
theorem DMr.below (h : DMr w g M s cs W) (hb : Below W.heap.size W W') : DMr w g M s cs W' := ⟨h.1.below hb, h.2.1.below hb h.2.1.lt, h.2.2⟩
theorem DMr.alloc (h : DMr w g M s cs W) (o : Obj) : DMr w g M s cs (W.alloc o) := h.below ((Below.refl _ _).alloc (Nat.le_refl _) o)
theorem DMr.put (h : DMr w g M s cs W) (i : Nat) (u : Value) : DMr w g M s (cs.setIfInBounds i u) (W.setCell ⟨M, i, none⟩ u) := ⟨h.1.far (p := ⟨M, i, none⟩) h.2.2 u, h.2.1.put i u, h.2.2⟩
theorem DMr.far (h : DMr w g M s cs W) {p : Addr} (hp : M < p.block) (u : Value) : DMr w g M s cs (W.setCell p u) := ⟨h.1.far (Nat.lt_trans h.2.2 hp) u, h.2.1.far (Nat.ne_of_lt hp) u, h.2.2⟩
theorem DMr.app (h : DMr w g M s cs W) {row : Option Nat} (hg : W.grownBy W' row) (hr : ∀ k, row = some k → M < k) : DMr w g M s cs W' :=
  ⟨h.1.app hg (fun k hk => Nat.lt_trans h.2.2 (hr k hk)), BlkIs.grown h.2.1 hg (fun e => by have := hr _ e.symm; omega), h.2.2⟩
theorem DMr.spoil (h : DMr w g M s cs W) : DMr w g M spoilt cs (W.setCell ⟨g, 2, none⟩ (.bool true)) := ⟨h.1.spoil, h.2.1.far (p := ⟨g, 2, none⟩) (Nat.ne_of_gt h.2.2) _, h.2.2⟩
theorem DMr.keep (h : DMr w g M s cs W) : DMr w g M s cs (W.setCell ⟨g, 2, none⟩ (.bool s.2)) := ⟨h.1.keep, h.2.1.far (p := ⟨g, 2, none⟩) (Nat.ne_of_gt h.2.2) _, h.2.2⟩
end
theorem dsr_num {w : World} {g : Nat} {s s' : RS} {x : Int} (hq : rNum s = (x, s')) (W : World) (h : DSr w g s W) : Calls Tryz.prog 57 #[.pointer (some ⟨g, 0, none⟩)] W fun e w' => e = .returned (.int .u32 x) ∧ DSr w g s' w' :=
  (rr_num g s s' x hq W h.2.2.1).mono fun e w' ⟨h1, h2, h3⟩ => ⟨h1, h.call h2 h3⟩
theorem dmr_num {w : World} {g M : Nat} {cs : Array Value} {s s' : RS} {x : Int} (hq : rNum s = (x, s')) (W : World) (h : DMr w g M s cs W) : Calls Tryz.prog 57 #[.pointer (some ⟨g, 0, none⟩)] W fun e w' => e = .returned (.int .u32 x) ∧ DMr w g M s' cs w' ∧ Moved g W w' :=
  (rr_num g s s' x hq W h.1.2.2.1).mono fun e w' ⟨h1, h2, h3⟩ => ⟨h1, h.call h2 h3, h3⟩
/-- What Decode has behind the field: a message that lies, all its own. -/
def FStr (w : World) (g M : Nat) (hd : Hd) (fd : Fld) (st : RS) (W : World) : Prop :=
  ∃ m : MsgR, DMr w g M st #[.int .i64 m.kind, .int .i64 m.src, .int .i64 m.dst, .int .i64 m.ses, .int .i64 m.step, m.pv, m.cv, m.iv, m.ov, m.mar.rv, m.mar.kv, m.mar.bv] W ∧ m.Own (M + 1) W ∧ m.msg = msgOf hd fd ∧ m.Small
section
variable {w W : World} {g M base : Nat} {kd a1 a2 a3 a4 : Int} {t4 : RS} {v : Value}
theorem rst_no (k : ¬ (kd = 1 ∨ kd = 2 ∨ kd = 3 ∨ kd = 4 ∨ kd = 6)) (hd : DMr w g M t4 #[.int .i64 kd, .int .i64 a1, .int .i64 a2, .int .i64 a3, .int .i64 a4, .slice none 0 0, .slice none 0 0, .slice none 0 0, .slice none 0 0, .slice none 0 0, .slice none 0 0, .slice none 0 0] W) :
    FStr w g M (kd, a1, a2, a3, a4) (rField kd t4).1 (rField kd t4).2 W := by
  rw [rField_no kd k]
  exact ⟨⟨kd, a1, a2, a3, a4, [], [], [], [], Mk.MkR.none_, .slice none 0 0, .slice none 0 0, .slice none 0 0, .slice none 0 0⟩, hd, ⟨SlIs.nil_ _ _ _ _, SlIs.nil_ _ _ _ _, (fun z hz => by cases hz), SlIs.nil_ _ _ _ _, SlIs.nil_ _ _ _ _, Mk.MkR.none_own _ _⟩, rfl,
    ⟨⟨Nat.zero_le _, Nat.zero_le _, Nat.zero_le _, Nat.zero_le _⟩, Mk.MkR.none_small, (fun x hx => by cases hx), (fun x hx => by cases hx)⟩⟩
theorem rst_1 {l : List ByteArray} (k : kd = 1) (hd : DMr w g M (rMany (rText 64) 64 t4).2 #[.int .i64 kd, .int .i64 a1, .int .i64 a2, .int .i64 a3, .int .i64 a4, .slice none 0 0, .slice none 0 0, .slice none 0 0, .slice none 0 0, .slice none 0 0, .slice none 0 0, .slice none 0 0] W)
    (hs : SlIs W base 9 1 v l.length (scells l)) (hb : M < base) (hl : l.map (fun x : ByteArray => x) = (rMany (rText 64) 64 t4).1) : FStr w g M (kd, a1, a2, a3, a4) (rField kd t4).1 (rField kd t4).2 (W.setCell ⟨M, 5, none⟩ v) := by
  rw [map_same] at hl
  have h1 := Mk.rMany_len (rText 64) 64 t4 (by decide)
  have h2 := rMany_all (one := rText 64) (P := fun x => x.size ≤ 140737488355328) (fun s => by have := rText_size 64 (by decide) s; omega) 64 t4
  rw [← hl] at h1 h2
  have hd2 := hd.put 5 v
  simp only [List.setIfInBounds_toArray, List.set_cons_zero, List.set_cons_succ] at hd2
  have e1 : (rField kd t4).2 = (rMany (rText 64) 64 t4).2 := by rw [k, rField_1]
  have e2 : (rField kd t4).1 = { noFld with pre := l } := by rw [k, rField_1, hl]
  rw [e1, e2]
  exact ⟨⟨kd, a1, a2, a3, a4, l, [], [], [], Mk.MkR.none_, v, .slice none 0 0, .slice none 0 0, .slice none 0 0⟩, hd2, ⟨(sl_farM hs hb).mono hb, SlIs.nil_ _ _ _ _, (fun z hz => by cases hz), SlIs.nil_ _ _ _ _, SlIs.nil_ _ _ _ _, Mk.MkR.none_own _ _⟩, rfl,
    ⟨⟨by show l.length ≤ _; omega, Nat.zero_le _, Nat.zero_le _, Nat.zero_le _⟩, Mk.MkR.none_small, h2, (fun x hx => by cases hx)⟩⟩
theorem rst_3 {l : List ByteArray} (k : kd = 3) (hd : DMr w g M (rMany (rTake 32) 1024 t4).2 #[.int .i64 kd, .int .i64 a1, .int .i64 a2, .int .i64 a3, .int .i64 a4, .slice none 0 0, .slice none 0 0, .slice none 0 0, .slice none 0 0, .slice none 0 0, .slice none 0 0, .slice none 0 0] W)
    (hs : SlIs W base 9 1 v l.length (scells l)) (hb : M < base) (hl : l.map (fun x : ByteArray => x) = (rMany (rTake 32) 1024 t4).1) : FStr w g M (kd, a1, a2, a3, a4) (rField kd t4).1 (rField kd t4).2 (W.setCell ⟨M, 7, none⟩ v) := by
  rw [map_same] at hl
  have h1 := Mk.rMany_len (rTake 32) 1024 t4 (by decide)
  rw [← hl] at h1
  have hd2 := hd.put 7 v
  simp only [List.setIfInBounds_toArray, List.set_cons_zero, List.set_cons_succ] at hd2
  have e1 : (rField kd t4).2 = (rMany (rTake 32) 1024 t4).2 := by rw [k, rField_3]
  have e2 : (rField kd t4).1 = { noFld with ids := l } := by rw [k, rField_3, hl]
  rw [e1, e2]
  exact ⟨⟨kd, a1, a2, a3, a4, [], [], l, [], Mk.MkR.none_, .slice none 0 0, .slice none 0 0, v, .slice none 0 0⟩, hd2, ⟨SlIs.nil_ _ _ _ _, SlIs.nil_ _ _ _ _, (fun z hz => by cases hz), (sl_farM hs hb).mono hb, SlIs.nil_ _ _ _ _, Mk.MkR.none_own _ _⟩, rfl,
    ⟨⟨Nat.zero_le _, Nat.zero_le _, by show l.length ≤ _; omega, Nat.zero_le _⟩, Mk.MkR.none_small, (fun x hx => by cases hx), (fun x hx => by cases hx)⟩⟩
theorem rst_4 {l : List ByteArray} (k : kd = 4) (hd : DMr w g M (rMany (rText 131072) 16 t4).2 #[.int .i64 kd, .int .i64 a1, .int .i64 a2, .int .i64 a3, .int .i64 a4, .slice none 0 0, .slice none 0 0, .slice none 0 0, .slice none 0 0, .slice none 0 0, .slice none 0 0, .slice none 0 0] W)
    (hs : SlIs W base 9 1 v l.length (scells l)) (hb : M < base) (hl : l.map (fun x : ByteArray => x) = (rMany (rText 131072) 16 t4).1) : FStr w g M (kd, a1, a2, a3, a4) (rField kd t4).1 (rField kd t4).2 (W.setCell ⟨M, 8, none⟩ v) := by
  rw [map_same] at hl
  have h1 := Mk.rMany_len (rText 131072) 16 t4 (by decide)
  rw [← hl] at h1
  have hd2 := hd.put 8 v
  simp only [List.setIfInBounds_toArray, List.set_cons_zero, List.set_cons_succ] at hd2
  have e1 : (rField kd t4).2 = (rMany (rText 131072) 16 t4).2 := by rw [k, rField_4]
  have e2 : (rField kd t4).1 = { noFld with obj := l } := by rw [k, rField_4, hl]
  rw [e1, e2]
  exact ⟨⟨kd, a1, a2, a3, a4, [], [], [], l, Mk.MkR.none_, .slice none 0 0, .slice none 0 0, .slice none 0 0, v⟩, hd2, ⟨SlIs.nil_ _ _ _ _, SlIs.nil_ _ _ _ _, (fun z hz => by cases hz), SlIs.nil_ _ _ _ _, (sl_farM hs hb).mono hb, Mk.MkR.none_own _ _⟩, rfl,
    ⟨⟨Nat.zero_le _, Nat.zero_le _, Nat.zero_le _, by show l.length ≤ _; omega⟩, Mk.MkR.none_small, (fun x hx => by cases hx), (fun x hx => by cases hx)⟩⟩
theorem rst_6 {m : MkR} {st : RS} (k : kd = 6) (hd : DMr w g M st #[.int .i64 kd, .int .i64 a1, .int .i64 a2, .int .i64 a3, .int .i64 a4, .slice none 0 0, .slice none 0 0, .slice none 0 0, .slice none 0 0, .slice none 0 0, .slice none 0 0, .slice none 0 0] W)
    (ho : m.Own base W) (hsm : m.Small) (hb : M < base) (hm : m.mk_ = (rMarks t4).1) (hst : st = (rMarks t4).2) : FStr w g M (kd, a1, a2, a3, a4) (rField kd t4).1 (rField kd t4).2 (((W.setCell ⟨M, 9, none⟩ m.rv).setCell ⟨M, 10, none⟩ m.kv).setCell ⟨M, 11, none⟩ m.bv) := by
  have hd2 := ((hd.put 9 m.rv).put 10 m.kv).put 11 m.bv
  simp only [List.setIfInBounds_toArray, List.set_cons_zero, List.set_cons_succ] at hd2
  have e1 : (rField kd t4).2 = st := by rw [k, rField_6, hst]
  have e2 : (rField kd t4).1 = { noFld with mar := m.mk_ } := by rw [k, rField_6, hm]
  rw [e1, e2]
  exact ⟨⟨kd, a1, a2, a3, a4, [], [], [], [], m, .slice none 0 0, .slice none 0 0, .slice none 0 0, .slice none 0 0⟩, hd2, ⟨SlIs.nil_ _ _ _ _, SlIs.nil_ _ _ _ _, (fun z hz => by cases hz), SlIs.nil_ _ _ _ _, SlIs.nil_ _ _ _ _, (mar_farM (mar_farM (mar_farM ho hb) hb) hb).mono hb⟩, rfl,
    ⟨⟨Nat.zero_le _, Nat.zero_le _, Nat.zero_le _, Nat.zero_le _⟩, hsm, (fun x hx => by cases hx), (fun x hx => by cases hx)⟩⟩
end
/-- What the reference has behind the field: a message that lies, and what the plain reading says of it. -/
def JSt (w : World) (g M : Nat) (r : ByteArray) (W : World) : Prop :=
  ∃ (m : MsgR) (st : RS), DMr w g M st #[.int .i64 m.kind, .int .i64 m.src, .int .i64 m.dst, .int .i64 m.ses, .int .i64 m.step, m.pv, m.cv, m.iv, m.ov, m.mar.rv, m.mar.kv, m.mar.bv] W ∧ m.Own (M + 1) W ∧ m.Small ∧
    readM r = if st.2 = false ∧ st.1.size = 0 ∧ goodM m.msg = true then (0, m.msg) else (4, noMsg)
theorem FStr.join {w W : World} {g M : Nat} {r : ByteArray} {hd : Hd} {fd : Fld} {st : RS} (h : FStr w g M hd fd st W) (hm : rMsg (r, false) = (msgOf hd fd, st)) : JSt w g M r W := by
  obtain ⟨m, h1, h2, h3, h4⟩ := h
  refine ⟨m, st, h1, h2, h4, ?_⟩
  unfold readM
  rw [hm, h3]
/-- The message of a kind 2, as the reference has it behind its loop. -/
theorem rst_2 {w W : World} {g M base : Nat} {kd a1 a2 a3 a4 : Int} {st : RS} {v : Value} {l : List CpR} {r : ByteArray} (hd : DMr w g M st #[.int .i64 kd, .int .i64 a1, .int .i64 a2, .int .i64 a3, .int .i64 a4, .slice none 0 0, v, .slice none 0 0, .slice none 0 0, .slice none 0 0, .slice none 0 0, .slice none 0 0] W)
    (hs : SlIs W base 49 5 v l.length (rowCells vCp l)) (ho : ∀ z ∈ l, CpR.Own base W z) (hb : M < base) (hl : l.length ≤ 65) (hf : ∀ z ∈ l, z.c.pre.size ≤ 140737488355328 ∧ z.c.ids.length ≤ 1000000 ∧ z.c.kids.length ≤ 1000000)
    (hr : readM r = if st.2 = false ∧ st.1.size = 0 ∧ goodM ⟨kd, a1, a2, a3, a4, [], l.map (·.c), [], [], Mk.Mks.empty⟩ = true then (0, ⟨kd, a1, a2, a3, a4, [], l.map (·.c), [], [], Mk.Mks.empty⟩) else (4, noMsg)) : JSt w g M r W :=
  ⟨⟨kd, a1, a2, a3, a4, [], l, [], [], Mk.MkR.none_, .slice none 0 0, v, .slice none 0 0, .slice none 0 0⟩, st, hd, ⟨SlIs.nil_ _ _ _ _, hs.mono hb, (fun z hz => ⟨(ho z hz).1.mono hb, (ho z hz).2.mono hb⟩), SlIs.nil_ _ _ _ _, SlIs.nil_ _ _ _ _, Mk.MkR.none_own _ _⟩,
    ⟨⟨Nat.zero_le _, by show l.length ≤ _; omega, Nat.zero_le _, Nat.zero_le _⟩, Mk.MkR.none_small, (fun x hx => by cases hx), hf⟩, hr⟩
/-- More than 64 cells: refused by both. -/
theorem many_cells {kd a1 a2 a3 a4 n : Int} {t0 t4 s1 st : RS} {r : ByteArray} {l : List CpR} (k : kd = 2) (hm : rMsg (r, false) = (msgOf (kd, a1, a2, a3, a4) (rField kd t4).1, (rField kd t4).2)) (hq : rNum t4 = (n, s1)) (hn : 64 < n) (hb : st.2 = true ∨ l.length = 65) :
    readM r = if st.2 = false ∧ st.1.size = 0 ∧ goodM ⟨kd, a1, a2, a3, a4, [], l.map (·.c), [], [], Mk.Mks.empty⟩ = true then (0, ⟨kd, a1, a2, a3, a4, [], l.map (·.c), [], [], Mk.Mks.empty⟩) else (4, noMsg) := by
  have h1 : (rField kd t4).2.2 = true := by
    rw [k, rField_2]
    have e : (rMany rCell 64 t4).2 = (rList rCell (rNum t4).1.toNat (if 64 < (rNum t4).1 then spoilt else (rNum t4).2)).2 := rfl
    show (rMany rCell 64 t4).2.2 = true
    rw [e, hq]
    simp only [hn, if_true]
    rw [rList_bad rCell _ spoilt rfl]
    rfl
  have h2 : readM r = (4, noMsg) := by
    unfold readM
    rw [hm]
    exact if_neg (fun h => by rw [h1] at h; cases h.1)
  rw [h2, if_neg]
  rintro ⟨h3, -, h4⟩
  rcases hb with h | h
  · rw [h] at h3; cases h3
  · have := (goodM_at h4).2.2.2.1
    have h5 := this.2
    have h6 := this.1.2.1
    simp only [List.length_map, h] at h5 h6
    omega
/-- At most 64 cells: as the plain reading has it. -/
theorem few_cells {kd a1 a2 a3 a4 : Int} {t4 st : RS} {r : ByteArray} {l : List CpR} (k : kd = 2) (hm : rMsg (r, false) = (msgOf (kd, a1, a2, a3, a4) (rField kd t4).1, (rField kd t4).2)) (hl : rMany rCell 64 t4 = (l.map (·.c), st)) :
    readM r = if st.2 = false ∧ st.1.size = 0 ∧ goodM ⟨kd, a1, a2, a3, a4, [], l.map (·.c), [], [], Mk.Mks.empty⟩ = true then (0, ⟨kd, a1, a2, a3, a4, [], l.map (·.c), [], [], Mk.Mks.empty⟩) else (4, noMsg) := by
  unfold readM
  rw [hm, show rField kd t4 = ({ noFld with cel := l.map (·.c) }, st) from by rw [k, rField_2, hl]]
  rfl
end Go.Proofs.YtljenganlknhbaaGreat.Fr
