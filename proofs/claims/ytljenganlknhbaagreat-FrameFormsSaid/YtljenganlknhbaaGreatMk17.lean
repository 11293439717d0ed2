/- mark.reader: token, and what tomb reads inside, walked. (Layer 12.) -/
import Derived.Test.YtljenganlknhbaaGreatMk16
import Derived.Deep.RegionHeld3
import Derived.Deep.RegionHeld
namespace Go.Proofs.YtljenganlknhbaaGreat.Mk
set_option linter.unusedVariables false
open Go.RowKit Oct
set_option maxRecDepth 100000 in
set_option maxHeartbeats 2000000 in
theorem rd_token (g : Nat) (s : RS) (w : World) (h : Rd w g s.1 s.2) : Calls Tryz.prog 108 #[.agg #[.pointer (some ⟨g, 0, none⟩)]] w fun e w' => e = .returned (aTok (rTok s).1) ∧ Rd w' g (rTok s).2.1 (rTok s).2.2 ∧ Moved g w w' := by
  have hgl := h.lt
  obtain ⟨x1, s1, hq1⟩ : ∃ x s', rNum s = (x, s') := ⟨_, _, rfl⟩
  obtain ⟨x2, s2, hq2⟩ : ∃ x s', rNum s1 = (x, s') := ⟨_, _, rfl⟩
  obtain ⟨x3, s3, hq3⟩ : ∃ x s', rTake 32 s2 = (x, s') := ⟨_, _, rfl⟩
  have hq : rTok s = (⟨x1, x2, x3⟩, s3) := by unfold rTok; simp only [hq1, hq2, hq3]
  rw [hq]
  show Calls Tryz.prog 108 #[.agg #[.pointer (some ⟨g, 0, none⟩)]] w fun e w' => e = .returned (.agg #[.int .i64 x1, .int .i64 x2, .string x3]) ∧ Rd w' g s3.1 s3.2 ∧ Moved g w w'
  obtain ⟨W1, hW1⟩ : ∃ W1, W1 = (w.alloc (.cells #[.pointer (some ⟨g, 0, none⟩)] 119)).alloc (.cells #[.int .i64 0, .int .i64 0, .string ⟨#[]⟩] 102) := ⟨_, rfl⟩
  have hb : Below w.heap.size w W1 := by rw [hW1]; exact ((Below.refl _ _).alloc (Nat.le_refl _) _).alloc (by simp) _
  have k1 : BlkIs W1 w.heap.size 119 #[.pointer (some ⟨g, 0, none⟩)] := by rw [hW1]; exact (BlkIs.new _ _ _).alloc _
  have k2 : BlkIs W1 (w.heap.size + 1) 102 #[.int .i64 0, .int .i64 0, .string ⟨#[]⟩] := by rw [hW1]; exact BlkIs.new2 _ _ _ _
  have HW := Lib.hid hW1
  have H1 := Lib.hid (show St w g s w.heap.size 119 #[.pointer (some ⟨g, 0, none⟩)] (w.heap.size + 1) 102 #[.int .i64 0, .int .i64 0, .string ⟨#[]⟩] W1 from ⟨BlkIs.below h hb hgl, Moved.of_below hb, k1, k2, by omega, by omega⟩)
  have Q1 := Lib.hid hq1
  have Q2 := Lib.hid hq2
  have Q3 := Lib.hid hq3
  have d0 : W1.cell? ⟨w.heap.size, 0, none⟩ = some (.pointer (some ⟨g, 0, none⟩)) := k1.cell 0
  clear hW1 hb k1 k2 h hgl hq hq1 hq2 hq3
  go_enter Tryz.func108, Tryz.ntmps108
  go_wp2_with fail
  rw [← HW.out]
  go_region_held (fun w' => w'.cell? ⟨w.heap.size, 0, none⟩ = some (.pointer (some ⟨g, 0, none⟩))) (go_keep)
    (first
      | (go_at_call 146
         refine (st_n x1 s1 Q1.out (by first | exact H1.out | exact H1.out.drew)).mono ?_
         rintro e w4 ⟨rfl, h4, c4⟩
         have H4 := Lib.hid h4
         have c4 : w4.cell? ⟨w.heap.size, 0, none⟩ = some (.pointer (some ⟨g, 0, none⟩)) := c4 0
         clear h4)
      | (go_at_call 146
         refine (st_n x2 s2 Q2.out (by first | exact H4.out | exact H4.out.drew)).mono ?_
         rintro e w5 ⟨rfl, h5, c5⟩
         have H5 := Lib.hid h5
         have c5 : w5.cell? ⟨w.heap.size, 0, none⟩ = some (.pointer (some ⟨g, 0, none⟩)) := c5 0
         clear h5)
      | (go_at_call 44
         refine (st_take 32 x3 s3 Q3.out (by first | exact H5.out | exact H5.out.drew)).mono ?_
         rintro e w6 ⟨rfl, h6, c6⟩
         have H6 := Lib.hid h6
         have c6 : w6.cell? ⟨w.heap.size, 0, none⟩ = some (.pointer (some ⟨g, 0, none⟩)) := c6 0
         have e60 : w6.cell? ⟨w.heap.size + 1, 0, none⟩ = some (.int .i64 0) := h6.2.2.2.1.cell 0
         have e61 : w6.cell? ⟨w.heap.size + 1, 1, none⟩ = some (.int .i64 0) := h6.2.2.2.1.cell 1
         have e62 : w6.cell? ⟨w.heap.size + 1, 2, none⟩ = some (.string ⟨#[]⟩) := h6.2.2.2.1.cell 2
         have f60 : w6.frozen? ⟨w.heap.size + 1, 0, none⟩ = false := h6.2.2.2.1.free 0
         have f61 : w6.frozen? ⟨w.heap.size + 1, 1, none⟩ = false := h6.2.2.2.1.free 1
         have f62 : w6.frozen? ⟨w.heap.size + 1, 2, none⟩ = false := h6.2.2.2.1.free 2
         clear h6))
  have hbn : w.heap.size ≠ w.heap.size + 1 := by omega
  have H7 := Lib.hid (((H6.out.store hbn (Nat.le_succ _) 0 (.int .i64 x1)).store hbn (Nat.le_succ _) 1 (.int .i64 x2)).store hbn (Nat.le_succ _) 2 (.string x3))
  go_wp2_with fail
  exact bodyPost_ret (v := .agg #[.int .i64 x1, .int .i64 x2, .string x3]) (by simp [results, Tryz.results108, go_sem, e60, e61, e62]) rfl ⟨rfl, H7.out.1, H7.out.2.1⟩
theorem rd_ne {w : World} {g B : Nat} {s : RS} {t : TypeId} {cs : Array Value} (h : Rd w g s.1 s.2) (hB : BlkIs w B t cs) (ht : t ≠ 116) : B ≠ g := fun e => by
  subst e
  have := h.shape
  rw [hB.shape] at this
  exact ht (Prod.mk.inj (Option.some.inj this)).1
/-- One block more beside these two. -/
def St3 (w : World) (g : Nat) (s : RS) (B : Nat) (t : TypeId) (cs : Array Value) (B2 : Nat) (t2 : TypeId) (cs2 : Array Value) (T : Nat) (t3 : TypeId) (cs3 : Array Value) (W : World) : Prop :=
  St w g s B t cs B2 t2 cs2 W ∧ BlkIs W T t3 cs3 ∧ T ≠ g
theorem St3.drew {w : World} {g : Nat} {s : RS} {B : Nat} {t : TypeId} {cs : Array Value} {B2 : Nat} {t2 : TypeId} {cs2 : Array Value} {T : Nat} {t3 : TypeId} {cs3 : Array Value} {W : World} (h : St3 w g s B t cs B2 t2 cs2 T t3 cs3 W) : St3 w g s B t cs B2 t2 cs2 T t3 cs3 W.drew := ⟨h.1.drew, h.2⟩
theorem st3_n {w : World} {g : Nat} {s : RS} {B : Nat} {t : TypeId} {cs : Array Value} {B2 : Nat} {t2 : TypeId} {cs2 : Array Value} {T : Nat} {t3 : TypeId} {cs3 : Array Value} {W : World} (x : Int) (s' : RS) (hq : rNum s = (x, s')) (h : St3 w g s B t cs B2 t2 cs2 T t3 cs3 W) :
    Calls Tryz.prog 146 #[.agg #[.pointer (some ⟨g, 0, none⟩)]] W fun e w' => e = .returned (.int .i64 x) ∧ St3 w g s' B t cs B2 t2 cs2 T t3 cs3 w' ∧ (∀ i, w'.cell? ⟨B, i, none⟩ = cs[i]?) ∧ ∀ i, w'.cell? ⟨T, i, none⟩ = cs3[i]? := by
  have := rd_n g s W h.1.1
  rw [hq] at this
  refine this.mono ?_
  rintro e w' ⟨he, hr, hm⟩
  exact ⟨he, ⟨h.1.moved hr hm, hm.blk h.2.1 h.2.2, h.2.2⟩, fun i => (hm.blk h.1.2.2.1 h.1.2.2.2.2.1).cell i, fun i => (hm.blk h.2.1 h.2.2).cell i⟩
set_option maxRecDepth 100000 in
set_option maxHeartbeats 2000000 in
theorem rd_cov (g B T : Nat) (s : RS) (id : ByteArray) (n0 n1 : Int) (c0 a0 : Value) (w : World) (h : Rd w g s.1 s.2) (hB : BlkIs w B 119 #[.pointer (some ⟨g, 0, none⟩)]) (hT : BlkIs w T 54 #[.int .i64 n0, .int .i64 n1, .string id, c0, a0]) :
    Calls Tryz.prog 147 #[.pointer (some ⟨B, 0, none⟩), .pointer (some ⟨T, 0, none⟩)] w fun e w' => e = .returned (aTok (rCov id s).1) ∧ Rd w' g (rCov id s).2.1 (rCov id s).2.2 ∧ Moved g w w' := by
  have hgl := h.lt
  have hBl := hB.lt
  have hTl := hT.lt
  have hgB : B ≠ g := rd_ne h hB (by decide)
  have hgT : T ≠ g := rd_ne h hT (by decide)
  obtain ⟨x1, s1, hq1⟩ : ∃ x s', rNum s = (x, s') := ⟨_, _, rfl⟩
  obtain ⟨x2, s2, hq2⟩ : ∃ x s', rNum s1 = (x, s') := ⟨_, _, rfl⟩
  have hq : rCov id s = (⟨x1, x2, id⟩, s2) := by unfold rCov; simp only [hq1, hq2]
  rw [hq]
  show Calls Tryz.prog 147 #[.pointer (some ⟨B, 0, none⟩), .pointer (some ⟨T, 0, none⟩)] w fun e w' => e = .returned (.agg #[.int .i64 x1, .int .i64 x2, .string id]) ∧ Rd w' g s2.1 s2.2 ∧ Moved g w w'
  obtain ⟨W1, hW1⟩ : ∃ W1, W1 = w.alloc (.cells #[.int .i64 0, .int .i64 0, .string ⟨#[]⟩] 102) := ⟨_, rfl⟩
  have hb : Below w.heap.size w W1 := by rw [hW1]; exact (Below.refl _ _).alloc (Nat.le_refl _) _
  have k2 : BlkIs W1 w.heap.size 102 #[.int .i64 0, .int .i64 0, .string ⟨#[]⟩] := by rw [hW1]; exact BlkIs.new _ _ _
  have HW := Lib.hid hW1
  have H1 := Lib.hid (show St3 w g s B 119 #[.pointer (some ⟨g, 0, none⟩)] w.heap.size 102 #[.int .i64 0, .int .i64 0, .string ⟨#[]⟩] T 54 #[.int .i64 n0, .int .i64 n1, .string id, c0, a0] W1 from
    ⟨⟨BlkIs.below h hb hgl, Moved.of_below hb, BlkIs.below hB hb hBl, k2, hgB, by omega⟩, BlkIs.below hT hb hTl, hgT⟩)
  have Q1 := Lib.hid hq1
  have Q2 := Lib.hid hq2
  have d0 : W1.cell? ⟨B, 0, none⟩ = some (.pointer (some ⟨g, 0, none⟩)) := H1.out.1.2.2.1.cell 0
  have d1 : W1.cell? ⟨T, 2, none⟩ = some (.string id) := H1.out.2.1.cell 2
  have hBw : B ≠ w.heap.size := by omega
  have hwB : w.heap.size ≠ B := by omega
  have hwT : w.heap.size ≠ T := by omega
  clear hW1 hb k2 h hgl hq hq1 hq2 hB hT hBl hTl hgB hgT
  go_enter Tryz.func147, Tryz.ntmps147
  go_wp2_with fail
  rw [← HW.out]
  go_region_held (fun w' => w'.cell? ⟨B, 0, none⟩ = some (.pointer (some ⟨g, 0, none⟩)) ∧ w'.cell? ⟨T, 2, none⟩ = some (.string id)) (first | exact ⟨d0, d1⟩ | exact ⟨c4, b4⟩ | exact ⟨c5, b5⟩ | (constructor <;> go_keep))
    (first
      | (go_at_call 146
         refine (st3_n x1 s1 Q1.out (by first | exact H1.out | exact H1.out.drew)).mono ?_
         rintro e w4 ⟨rfl, h4, c4, b4⟩
         have H4 := Lib.hid h4
         have c4 : w4.cell? ⟨B, 0, none⟩ = some (.pointer (some ⟨g, 0, none⟩)) := c4 0
         have b4 : w4.cell? ⟨T, 2, none⟩ = some (.string id) := b4 2
         clear h4)
      | (go_at_call 146
         refine (st3_n x2 s2 Q2.out (by first | exact H4.out | exact H4.out.drew)).mono ?_
         rintro e w5 ⟨rfl, h5, c5, b5⟩
         have H5 := Lib.hid h5
         have c5 : w5.cell? ⟨B, 0, none⟩ = some (.pointer (some ⟨g, 0, none⟩)) := c5 0
         have b5 : w5.cell? ⟨T, 2, none⟩ = some (.string id) := b5 2
         have e60 : w5.cell? ⟨w.heap.size, 0, none⟩ = some (.int .i64 0) := h5.1.2.2.2.1.cell 0
         have e61 : w5.cell? ⟨w.heap.size, 1, none⟩ = some (.int .i64 0) := h5.1.2.2.2.1.cell 1
         have e62 : w5.cell? ⟨w.heap.size, 2, none⟩ = some (.string ⟨#[]⟩) := h5.1.2.2.2.1.cell 2
         have f60 : w5.frozen? ⟨w.heap.size, 0, none⟩ = false := h5.1.2.2.2.1.free 0
         have f61 : w5.frozen? ⟨w.heap.size, 1, none⟩ = false := h5.1.2.2.2.1.free 1
         have f62 : w5.frozen? ⟨w.heap.size, 2, none⟩ = false := h5.1.2.2.2.1.free 2
         clear h5))
  have H7 := Lib.hid (((H5.out.1.store hBw (Nat.le_refl _) 0 (.int .i64 x1)).store hBw (Nat.le_refl _) 1 (.int .i64 x2)).store hBw (Nat.le_refl _) 2 (.string id))
  go_wp2_with fail
  exact bodyPost_ret (v := .agg #[.int .i64 x1, .int .i64 x2, .string id]) (by simp [results, Tryz.results147, go_sem, e60, e61, e62]) rfl ⟨rfl, H7.out.1, H7.out.2.1⟩
end Go.Proofs.YtljenganlknhbaaGreat.Mk
