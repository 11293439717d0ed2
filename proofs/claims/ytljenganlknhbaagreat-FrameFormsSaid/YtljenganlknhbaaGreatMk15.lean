/- mark.reader: n, ref, token, walked. (Layer 12.) -/
import Derived.Test.YtljenganlknhbaaGreatMk13
import Derived.Deep.RegionHeld3
import Derived.Deep.RegionHeld
namespace Go.Proofs.YtljenganlknhbaaGreat.Mk
set_option linter.unusedVariables false
open Go.RowKit Oct
theorem rNum_lt (s : RS) : 0 ≤ (rNum s).1 ∧ (rNum s).1 < 4294967296 := by
  have := val_takeR s.1 s.2
  unfold rNum
  simp only
  omega
theorem rd_n (g : Nat) (s : RS) (w : World) (h : Rd w g s.1 s.2) : Calls Tryz.prog 146 #[.agg #[.pointer (some ⟨g, 0, none⟩)]] w fun e w' => e = .returned (.int .i64 (rNum s).1) ∧ Rd w' g (rNum s).2.1 (rNum s).2.2 ∧ Moved g w w' := by
  have hb : Below w.heap.size w (w.alloc (.cells #[.pointer (some ⟨g, 0, none⟩)] 119)) := (Below.refl _ _).alloc (Nat.le_refl _) _
  have hr : Rd (w.alloc (.cells #[.pointer (some ⟨g, 0, none⟩)] 119)) g s.1 s.2 := BlkIs.alloc h _
  have N := rd_num g s.1 s.2 _ hr
  have hlt := rNum_lt s
  have hm := Moved.of_below (g := g) hb
  obtain ⟨v, hv⟩ : ∃ v : Int, v = (rNum s).1 := ⟨_, rfl⟩
  have e1 : ((val (takeR s.1 s.2 4).1.data.toList : Nat) : Int) = v := by rw [hv]; rfl
  rw [e1] at N
  rw [← hv] at hlt ⊢
  have N := Lib.hid N
  have HM := Lib.hid hm
  have hw : IntKind.i64.wrap v = v := IntWalk.i64_in _ (by omega)
  obtain ⟨l1, l2⟩ := hlt
  clear h hb hr hm hv e1
  go_enter Tryz.func146, Tryz.ntmps146
  go_wp2_with fail
  refine N.out.mono ?_
  rintro e w2 ⟨rfl, h2, hm2⟩
  have H := Lib.hid (And.intro h2 (HM.out.trans hm2))
  clear N h2 hm2
  go_wp2_with fail
  go_ret
  exact ⟨rfl, H.out⟩
/-- The Reader's block stands at s; B is a block of another kind. -/
def St (w : World) (g : Nat) (s : RS) (B : Nat) (t : TypeId) (cs : Array Value) (B2 : Nat) (t2 : TypeId) (cs2 : Array Value) (W : World) : Prop :=
  Rd W g s.1 s.2 ∧ Moved g w W ∧ BlkIs W B t cs ∧ BlkIs W B2 t2 cs2 ∧ B ≠ g ∧ B2 ≠ g
theorem St.moved {w : World} {g : Nat} {s s' : RS} {B : Nat} {t : TypeId} {cs : Array Value} {B2 : Nat} {t2 : TypeId} {cs2 : Array Value} {W W' : World} (h : St w g s B t cs B2 t2 cs2 W) (hr : Rd W' g s'.1 s'.2) (hm : Moved g W W') : St w g s' B t cs B2 t2 cs2 W' :=
  ⟨hr, h.2.1.trans hm, hm.blk h.2.2.1 h.2.2.2.2.1, hm.blk h.2.2.2.1 h.2.2.2.2.2, h.2.2.2.2⟩
theorem St.drew {w : World} {g : Nat} {s : RS} {B : Nat} {t : TypeId} {cs : Array Value} {B2 : Nat} {t2 : TypeId} {cs2 : Array Value} {W : World} (h : St w g s B t cs B2 t2 cs2 W) : St w g s B t cs B2 t2 cs2 W.drew :=
  ⟨h.1, h.2.1.trans (Moved.of_below ((Below.refl _ _).drew)), h.2.2.1, h.2.2.2.1, h.2.2.2.2⟩
theorem St.store {w : World} {g : Nat} {s : RS} {B : Nat} {t : TypeId} {cs : Array Value} {B2 : Nat} {t2 : TypeId} {cs2 : Array Value} {W : World} (h : St w g s B t cs B2 t2 cs2 W) (hB : B ≠ B2) (hw : w.heap.size ≤ B2) (i : Nat) (v : Value) :
    St w g s B t cs B2 t2 (cs2.setIfInBounds i v) (W.setCell ⟨B2, i, none⟩ v) := by
  obtain ⟨h1, h2, h3, h4, h5, h6⟩ := h
  refine ⟨BlkIs.far h1 (p := ⟨B2, i, none⟩) (Ne.symm h6) v, ?_, h3.far (p := ⟨B2, i, none⟩) hB v, h4.put i v, h5, h6⟩
  exact ⟨h2.os, h2.tape, h2.output, by simpa using h2.size, fun k hk hne => (Below.heap_setCell W ⟨B2, i, none⟩ v k (by show k ≠ B2; omega)).trans (h2.block k hk hne)⟩
theorem st_text {w : World} {g : Nat} {s : RS} {B : Nat} {t : TypeId} {cs : Array Value} {B2 : Nat} {t2 : TypeId} {cs2 : Array Value} {W : World} (most : Int) (x : ByteArray) (s' : RS) (hq : rText most s = (x, s')) (h : St w g s B t cs B2 t2 cs2 W) :
    Calls Tryz.prog 47 #[.pointer (some ⟨g, 0, none⟩), .int .i64 most] W fun e w' => e = .returned (.string x) ∧ St w g s' B t cs B2 t2 cs2 w' ∧ ∀ i, w'.cell? ⟨B, i, none⟩ = cs[i]? := by
  have := rd_text g s.1 s.2 most W h.1
  rw [show textR s.1 s.2 most = (x, s') from hq] at this
  refine this.mono ?_
  rintro e w' ⟨he, hr, hm⟩
  exact ⟨he, h.moved hr hm, fun i => (hm.blk h.2.2.1 h.2.2.2.2.1).cell i⟩
theorem st_take {w : World} {g : Nat} {s : RS} {B : Nat} {t : TypeId} {cs : Array Value} {B2 : Nat} {t2 : TypeId} {cs2 : Array Value} {W : World} (n : Int) (x : ByteArray) (s' : RS) (hq : rTake n s = (x, s')) (h : St w g s B t cs B2 t2 cs2 W) :
    Calls Tryz.prog 44 #[.pointer (some ⟨g, 0, none⟩), .int .i64 n] W fun e w' => e = .returned (.string x) ∧ St w g s' B t cs B2 t2 cs2 w' ∧ ∀ i, w'.cell? ⟨B, i, none⟩ = cs[i]? := by
  have := rd_take g s.1 s.2 n W h.1
  rw [show takeR s.1 s.2 n = (x, s') from hq] at this
  refine this.mono ?_
  rintro e w' ⟨he, hr, hm⟩
  exact ⟨he, h.moved hr hm, fun i => (hm.blk h.2.2.1 h.2.2.2.2.1).cell i⟩
theorem st_n {w : World} {g : Nat} {s : RS} {B : Nat} {t : TypeId} {cs : Array Value} {B2 : Nat} {t2 : TypeId} {cs2 : Array Value} {W : World} (x : Int) (s' : RS) (hq : rNum s = (x, s')) (h : St w g s B t cs B2 t2 cs2 W) :
    Calls Tryz.prog 146 #[.agg #[.pointer (some ⟨g, 0, none⟩)]] W fun e w' => e = .returned (.int .i64 x) ∧ St w g s' B t cs B2 t2 cs2 w' ∧ ∀ i, w'.cell? ⟨B, i, none⟩ = cs[i]? := by
  have := rd_n g s W h.1
  rw [hq] at this
  refine this.mono ?_
  rintro e w' ⟨he, hr, hm⟩
  exact ⟨he, h.moved hr hm, fun i => (hm.blk h.2.2.1 h.2.2.2.2.1).cell i⟩
set_option maxRecDepth 100000 in
set_option maxHeartbeats 2000000 in
theorem rd_ref (g : Nat) (s : RS) (w : World) (h : Rd w g s.1 s.2) : Calls Tryz.prog 106 #[.agg #[.pointer (some ⟨g, 0, none⟩)]] w fun e w' => e = .returned (aRf (rRf s).1) ∧ Rd w' g (rRf s).2.1 (rRf s).2.2 ∧ Moved g w w' := by
  have hgl := h.lt
  obtain ⟨x1, s1, hq1⟩ : ∃ x s', rText 255 s = (x, s') := ⟨_, _, rfl⟩
  obtain ⟨x2, s2, hq2⟩ : ∃ x s', rTake 32 s1 = (x, s') := ⟨_, _, rfl⟩
  obtain ⟨x3, s3, hq3⟩ : ∃ x s', rNum s2 = (x, s') := ⟨_, _, rfl⟩
  have hq : rRf s = (⟨x1, x2, x3⟩, s3) := by unfold rRf; simp only [hq1, hq2, hq3]
  rw [hq]
  show Calls Tryz.prog 106 #[.agg #[.pointer (some ⟨g, 0, none⟩)]] w fun e w' => e = .returned (.agg #[.string x1, .string x2, .int .i64 x3]) ∧ Rd w' g s3.1 s3.2 ∧ Moved g w w'
  obtain ⟨W1, hW1⟩ : ∃ W1, W1 = (w.alloc (.cells #[.pointer (some ⟨g, 0, none⟩)] 119)).alloc (.cells #[.string ⟨#[]⟩, .string ⟨#[]⟩, .int .i64 0] 51) := ⟨_, rfl⟩
  have hb : Below w.heap.size w W1 := by rw [hW1]; exact ((Below.refl _ _).alloc (Nat.le_refl _) _).alloc (by simp) _
  have k1 : BlkIs W1 w.heap.size 119 #[.pointer (some ⟨g, 0, none⟩)] := by rw [hW1]; exact (BlkIs.new _ _ _).alloc _
  have k2 : BlkIs W1 (w.heap.size + 1) 51 #[.string ⟨#[]⟩, .string ⟨#[]⟩, .int .i64 0] := by rw [hW1]; exact BlkIs.new2 _ _ _ _
  have HW := Lib.hid hW1
  have H1 := Lib.hid (show St w g s w.heap.size 119 #[.pointer (some ⟨g, 0, none⟩)] (w.heap.size + 1) 51 #[.string ⟨#[]⟩, .string ⟨#[]⟩, .int .i64 0] W1 from ⟨BlkIs.below h hb hgl, Moved.of_below hb, k1, k2, by omega, by omega⟩)
  have Q1 := Lib.hid hq1
  have Q2 := Lib.hid hq2
  have Q3 := Lib.hid hq3
  have d0 : W1.cell? ⟨w.heap.size, 0, none⟩ = some (.pointer (some ⟨g, 0, none⟩)) := k1.cell 0
  clear hW1 hb k1 k2 h hgl hq hq1 hq2 hq3
  go_enter Tryz.func106, Tryz.ntmps106
  go_wp2_with fail
  rw [← HW.out]
  go_region_held (fun w' => w'.cell? ⟨w.heap.size, 0, none⟩ = some (.pointer (some ⟨g, 0, none⟩))) (go_keep)
    (first
      | (go_at_call 47
         refine (st_text 255 x1 s1 Q1.out (by first | exact H1.out | exact H1.out.drew)).mono ?_
         rintro e w4 ⟨rfl, h4, c4⟩
         have H4 := Lib.hid h4
         have c4 : w4.cell? ⟨w.heap.size, 0, none⟩ = some (.pointer (some ⟨g, 0, none⟩)) := c4 0
         clear h4)
      | (go_at_call 44
         refine (st_take 32 x2 s2 Q2.out (by first | exact H4.out | exact H4.out.drew)).mono ?_
         rintro e w5 ⟨rfl, h5, c5⟩
         have H5 := Lib.hid h5
         have c5 : w5.cell? ⟨w.heap.size, 0, none⟩ = some (.pointer (some ⟨g, 0, none⟩)) := c5 0
         clear h5)
      | (go_at_call 146
         refine (st_n x3 s3 Q3.out (by first | exact H5.out | exact H5.out.drew)).mono ?_
         rintro e w6 ⟨rfl, h6, c6⟩
         have H6 := Lib.hid h6
         have c6 : w6.cell? ⟨w.heap.size, 0, none⟩ = some (.pointer (some ⟨g, 0, none⟩)) := c6 0
         have e60 : w6.cell? ⟨w.heap.size + 1, 0, none⟩ = some (.string ⟨#[]⟩) := h6.2.2.2.1.cell 0
         have e61 : w6.cell? ⟨w.heap.size + 1, 1, none⟩ = some (.string ⟨#[]⟩) := h6.2.2.2.1.cell 1
         have e62 : w6.cell? ⟨w.heap.size + 1, 2, none⟩ = some (.int .i64 0) := h6.2.2.2.1.cell 2
         have f60 : w6.frozen? ⟨w.heap.size + 1, 0, none⟩ = false := h6.2.2.2.1.free 0
         have f61 : w6.frozen? ⟨w.heap.size + 1, 1, none⟩ = false := h6.2.2.2.1.free 1
         have f62 : w6.frozen? ⟨w.heap.size + 1, 2, none⟩ = false := h6.2.2.2.1.free 2
         clear h6))
  have hbn : w.heap.size ≠ w.heap.size + 1 := by omega
  have H7 := Lib.hid (((H6.out.store hbn (Nat.le_succ _) 0 (.string x1)).store hbn (Nat.le_succ _) 1 (.string x2)).store hbn (Nat.le_succ _) 2 (.int .i64 x3))
  go_wp2_with fail
  exact bodyPost_ret (v := .agg #[.string x1, .string x2, .int .i64 x3]) (by simp [results, Tryz.results106, go_sem, e60, e61, e62]) rfl ⟨rfl, H7.out.1, H7.out.2.1⟩
end Go.Proofs.YtljenganlknhbaaGreat.Mk
