/- Several texts in one. (Layer 19.) -/
import Derived.Test.YtljenganlknhbaaGreatPkS
import Derived.Deep.RegionHeld3
import Derived.Deep.RegionHeld
import Derived.Test.YtljenganlknhbaaGreatPkX
/- mark.reader: token, and what tomb reads inside, walked. (Layer 12.) -/
namespace Go.Proofs.YtljenganlknhbaaGreat.Mk
set_option linter.unusedVariables false
open Go.RowKit Oct
set_option maxRecDepth 100000 in
set_option maxHeartbeats 2000000 in
theorem rd_token (g : Nat) (s : RS) (w : World) (h : Rd w g s.1 s.2) : Calls Tryz.prog 108 #[.agg #[.pointer (some ⟨g, 0, none⟩)]] w fun e w' => e = .returned (aTok (rTok s).1) ∧ Rd w' g (rTok s).2.1 (rTok s).2.2 ∧ Moved g w w' := by
  have hgl := h.lt
  obtain ⟨x1, s1, hq1⟩ : ∃ x s', rNum s = (x, s') := ⟨_, _, rfl⟩
  obtain ⟨x2, s2, hq2⟩ : ∃ x s', rNum s1 = (x, s') := ⟨_, _, rfl⟩
  obtain ⟨x3, s3, hq3⟩ : ∃ x s', rTake 32 s2 = (x, s') := ⟨_, _, rfl⟩
  have hq : rTok s = (⟨x1, x2, x3⟩, s3) := by unfold rTok; simp only [hq1, hq2, hq3]
  rw [hq]
  show Calls Tryz.prog 108 #[.agg #[.pointer (some ⟨g, 0, none⟩)]] w fun e w' => e = .returned (.agg #[.int .i64 x1, .int .i64 x2, .string x3]) ∧ Rd w' g s3.1 s3.2 ∧ Moved g w w'
  obtain ⟨W1, hW1⟩ : ∃ W1, W1 = (w.alloc (.cells #[.pointer (some ⟨g, 0, none⟩)] 119)).alloc (.cells #[.int .i64 0, .int .i64 0, .string ⟨#[]⟩] 102) := ⟨_, rfl⟩
  have hb : Below w.heap.size w W1 := by rw [hW1]; exact ((Below.refl _ _).alloc (Nat.le_refl _) _).alloc (by simp) _
  have k1 : BlkIs W1 w.heap.size 119 #[.pointer (some ⟨g, 0, none⟩)] := by rw [hW1]; exact (BlkIs.new _ _ _).alloc _
  have k2 : BlkIs W1 (w.heap.size + 1) 102 #[.int .i64 0, .int .i64 0, .string ⟨#[]⟩] := by rw [hW1]; exact BlkIs.new2 _ _ _ _
  have HW := Lib.hid hW1
  have H1 := Lib.hid (show St w g s w.heap.size 119 #[.pointer (some ⟨g, 0, none⟩)] (w.heap.size + 1) 102 #[.int .i64 0, .int .i64 0, .string ⟨#[]⟩] W1 from ⟨BlkIs.below h hb hgl, Moved.of_below hb, k1, k2, by omega, by omega⟩)
  have Q1 := Lib.hid hq1
  have Q2 := Lib.hid hq2
  have Q3 := Lib.hid hq3
  have d0 : W1.cell? ⟨w.heap.size, 0, none⟩ = some (.pointer (some ⟨g, 0, none⟩)) := k1.cell 0
  clear hW1 hb k1 k2 h hgl hq hq1 hq2 hq3
  go_enter Tryz.func108, Tryz.ntmps108
  go_wp2_with fail
  rw [← HW.out]
  go_region_held (fun w' => w'.cell? ⟨w.heap.size, 0, none⟩ = some (.pointer (some ⟨g, 0, none⟩))) (go_keep)
    (first
      | (go_at_call 146
         refine (st_n x1 s1 Q1.out (by first | exact H1.out | exact H1.out.drew)).mono ?_
         rintro e w4 ⟨rfl, h4, c4⟩
         have H4 := Lib.hid h4
         have c4 : w4.cell? ⟨w.heap.size, 0, none⟩ = some (.pointer (some ⟨g, 0, none⟩)) := c4 0
         clear h4)
      | (go_at_call 146
         refine (st_n x2 s2 Q2.out (by first | exact H4.out | exact H4.out.drew)).mono ?_
         rintro e w5 ⟨rfl, h5, c5⟩
         have H5 := Lib.hid h5
         have c5 : w5.cell? ⟨w.heap.size, 0, none⟩ = some (.pointer (some ⟨g, 0, none⟩)) := c5 0
         clear h5)
      | (go_at_call 44
         refine (st_take 32 x3 s3 Q3.out (by first | exact H5.out | exact H5.out.drew)).mono ?_
         rintro e w6 ⟨rfl, h6, c6⟩
         have H6 := Lib.hid h6
         have c6 : w6.cell? ⟨w.heap.size, 0, none⟩ = some (.pointer (some ⟨g, 0, none⟩)) := c6 0
         have e60 : w6.cell? ⟨w.heap.size + 1, 0, none⟩ = some (.int .i64 0) := h6.2.2.2.1.cell 0
         have e61 : w6.cell? ⟨w.heap.size + 1, 1, none⟩ = some (.int .i64 0) := h6.2.2.2.1.cell 1
         have e62 : w6.cell? ⟨w.heap.size + 1, 2, none⟩ = some (.string ⟨#[]⟩) := h6.2.2.2.1.cell 2
         have f60 : w6.frozen? ⟨w.heap.size + 1, 0, none⟩ = false := h6.2.2.2.1.free 0
         have f61 : w6.frozen? ⟨w.heap.size + 1, 1, none⟩ = false := h6.2.2.2.1.free 1
         have f62 : w6.frozen? ⟨w.heap.size + 1, 2, none⟩ = false := h6.2.2.2.1.free 2
         clear h6))
  have hbn : w.heap.size ≠ w.heap.size + 1 := by omega
  have H7 := Lib.hid (((H6.out.store hbn (Nat.le_succ _) 0 (.int .i64 x1)).store hbn (Nat.le_succ _) 1 (.int .i64 x2)).store hbn (Nat.le_succ _) 2 (.string x3))
  go_wp2_with fail
  exact bodyPost_ret (v := .agg #[.int .i64 x1, .int .i64 x2, .string x3]) (by simp [results, Tryz.results108, go_sem, e60, e61, e62]) rfl ⟨rfl, H7.out.1, H7.out.2.1⟩
theorem rd_ne {w : World} {g B : Nat} {s : RS} {t : TypeId} {cs : Array Value} (h : Rd w g s.1 s.2) (hB : BlkIs w B t cs) (ht : t ≠ 116) : B ≠ g := fun e => by
  subst e
  have := h.shape
  rw [hB.shape] at this
  exact ht (Prod.mk.inj (Option.some.inj this)).1
/-- One block more beside these two. -/
def St3 (w : World) (g : Nat) (s : RS) (B : Nat) (t : TypeId) (cs : Array Value) (B2 : Nat) (t2 : TypeId) (cs2 : Array Value) (T : Nat) (t3 : TypeId) (cs3 : Array Value) (W : World) : Prop :=
  St w g s B t cs B2 t2 cs2 W ∧ BlkIs W T t3 cs3 ∧ T ≠ g
theorem St3.drew {w : World} {g : Nat} {s : RS} {B : Nat} {t : TypeId} {cs : Array Value} {B2 : Nat} {t2 : TypeId} {cs2 : Array Value} {T : Nat} {t3 : TypeId} {cs3 : Array Value} {W : World} (h : St3 w g s B t cs B2 t2 cs2 T t3 cs3 W) : St3 w g s B t cs B2 t2 cs2 T t3 cs3 W.drew := ⟨h.1.drew, h.2⟩
theorem st3_n {w : World} {g : Nat} {s : RS} {B : Nat} {t : TypeId} {cs : Array Value} {B2 : Nat} {t2 : TypeId} {cs2 : Array Value} {T : Nat} {t3 : TypeId} {cs3 : Array Value} {W : World} (x : Int) (s' : RS) (hq : rNum s = (x, s')) (h : St3 w g s B t cs B2 t2 cs2 T t3 cs3 W) :
    Calls Tryz.prog 146 #[.agg #[.pointer (some ⟨g, 0, none⟩)]] W fun e w' => e = .returned (.int .i64 x) ∧ St3 w g s' B t cs B2 t2 cs2 T t3 cs3 w' ∧ (∀ i, w'.cell? ⟨B, i, none⟩ = cs[i]?) ∧ ∀ i, w'.cell? ⟨T, i, none⟩ = cs3[i]? := by
  have := rd_n g s W h.1.1
  rw [hq] at this
  refine this.mono ?_
  rintro e w' ⟨he, hr, hm⟩
  exact ⟨he, ⟨h.1.moved hr hm, hm.blk h.2.1 h.2.2, h.2.2⟩, fun i => (hm.blk h.1.2.2.1 h.1.2.2.2.2.1).cell i, fun i => (hm.blk h.2.1 h.2.2).cell i⟩
set_option maxRecDepth 100000 in
set_option maxHeartbeats 2000000 in
theorem rd_cov (g B T : Nat) (s : RS) (id : ByteArray) (n0 n1 : Int) (c0 a0 : Value) (w : World) (h : Rd w g s.1 s.2) (hB : BlkIs w B 119 #[.pointer (some ⟨g, 0, none⟩)]) (hT : BlkIs w T 54 #[.int .i64 n0, .int .i64 n1, .string id, c0, a0]) :
    Calls Tryz.prog 147 #[.pointer (some ⟨B, 0, none⟩), .pointer (some ⟨T, 0, none⟩)] w fun e w' => e = .returned (aTok (rCov id s).1) ∧ Rd w' g (rCov id s).2.1 (rCov id s).2.2 ∧ Moved g w w' := by
  have hgl := h.lt
  have hBl := hB.lt
  have hTl := hT.lt
  have hgB : B ≠ g := rd_ne h hB (by decide)
  have hgT : T ≠ g := rd_ne h hT (by decide)
  obtain ⟨x1, s1, hq1⟩ : ∃ x s', rNum s = (x, s') := ⟨_, _, rfl⟩
  obtain ⟨x2, s2, hq2⟩ : ∃ x s', rNum s1 = (x, s') := ⟨_, _, rfl⟩
  have hq : rCov id s = (⟨x1, x2, id⟩, s2) := by unfold rCov; simp only [hq1, hq2]
  rw [hq]
  show Calls Tryz.prog 147 #[.pointer (some ⟨B, 0, none⟩), .pointer (some ⟨T, 0, none⟩)] w fun e w' => e = .returned (.agg #[.int .i64 x1, .int .i64 x2, .string id]) ∧ Rd w' g s2.1 s2.2 ∧ Moved g w w'
  obtain ⟨W1, hW1⟩ : ∃ W1, W1 = w.alloc (.cells #[.int .i64 0, .int .i64 0, .string ⟨#[]⟩] 102) := ⟨_, rfl⟩
  have hb : Below w.heap.size w W1 := by rw [hW1]; exact (Below.refl _ _).alloc (Nat.le_refl _) _
  have k2 : BlkIs W1 w.heap.size 102 #[.int .i64 0, .int .i64 0, .string ⟨#[]⟩] := by rw [hW1]; exact BlkIs.new _ _ _
  have HW := Lib.hid hW1
  have H1 := Lib.hid (show St3 w g s B 119 #[.pointer (some ⟨g, 0, none⟩)] w.heap.size 102 #[.int .i64 0, .int .i64 0, .string ⟨#[]⟩] T 54 #[.int .i64 n0, .int .i64 n1, .string id, c0, a0] W1 from
    ⟨⟨BlkIs.below h hb hgl, Moved.of_below hb, BlkIs.below hB hb hBl, k2, hgB, by omega⟩, BlkIs.below hT hb hTl, hgT⟩)
  have Q1 := Lib.hid hq1
  have Q2 := Lib.hid hq2
  have d0 : W1.cell? ⟨B, 0, none⟩ = some (.pointer (some ⟨g, 0, none⟩)) := H1.out.1.2.2.1.cell 0
  have d1 : W1.cell? ⟨T, 2, none⟩ = some (.string id) := H1.out.2.1.cell 2
  have hBw : B ≠ w.heap.size := by omega
  have hwB : w.heap.size ≠ B := by omega
  have hwT : w.heap.size ≠ T := by omega
  clear hW1 hb k2 h hgl hq hq1 hq2 hB hT hBl hTl hgB hgT
  go_enter Tryz.func147, Tryz.ntmps147
  go_wp2_with fail
  rw [← HW.out]
  go_region_held (fun w' => w'.cell? ⟨B, 0, none⟩ = some (.pointer (some ⟨g, 0, none⟩)) ∧ w'.cell? ⟨T, 2, none⟩ = some (.string id)) (first | exact ⟨d0, d1⟩ | exact ⟨c4, b4⟩ | exact ⟨c5, b5⟩ | (constructor <;> go_keep))
    (first
      | (go_at_call 146
         refine (st3_n x1 s1 Q1.out (by first | exact H1.out | exact H1.out.drew)).mono ?_
         rintro e w4 ⟨rfl, h4, c4, b4⟩
         have H4 := Lib.hid h4
         have c4 : w4.cell? ⟨B, 0, none⟩ = some (.pointer (some ⟨g, 0, none⟩)) := c4 0
         have b4 : w4.cell? ⟨T, 2, none⟩ = some (.string id) := b4 2
         clear h4)
      | (go_at_call 146
         refine (st3_n x2 s2 Q2.out (by first | exact H4.out | exact H4.out.drew)).mono ?_
         rintro e w5 ⟨rfl, h5, c5, b5⟩
         have H5 := Lib.hid h5
         have c5 : w5.cell? ⟨B, 0, none⟩ = some (.pointer (some ⟨g, 0, none⟩)) := c5 0
         have b5 : w5.cell? ⟨T, 2, none⟩ = some (.string id) := b5 2
         have e60 : w5.cell? ⟨w.heap.size, 0, none⟩ = some (.int .i64 0) := h5.1.2.2.2.1.cell 0
         have e61 : w5.cell? ⟨w.heap.size, 1, none⟩ = some (.int .i64 0) := h5.1.2.2.2.1.cell 1
         have e62 : w5.cell? ⟨w.heap.size, 2, none⟩ = some (.string ⟨#[]⟩) := h5.1.2.2.2.1.cell 2
         have f60 : w5.frozen? ⟨w.heap.size, 0, none⟩ = false := h5.1.2.2.2.1.free 0
         have f61 : w5.frozen? ⟨w.heap.size, 1, none⟩ = false := h5.1.2.2.2.1.free 1
         have f62 : w5.frozen? ⟨w.heap.size, 2, none⟩ = false := h5.1.2.2.2.1.free 2
         clear h5))
  have H7 := Lib.hid (((H5.out.1.store hBw (Nat.le_refl _) 0 (.int .i64 x1)).store hBw (Nat.le_refl _) 1 (.int .i64 x2)).store hBw (Nat.le_refl _) 2 (.string id))
  go_wp2_with fail
  exact bodyPost_ret (v := .agg #[.int .i64 x1, .int .i64 x2, .string id]) (by simp [results, Tryz.results147, go_sem, e60, e61, e62]) rfl ⟨rfl, H7.out.1, H7.out.2.1⟩
end Go.Proofs.YtljenganlknhbaaGreat.Mk

/- mark.reader.tomb, walked. (Layer 12.) -/
namespace Go.Proofs.YtljenganlknhbaaGreat.Mk
set_option linter.unusedVariables false
open Go.RowKit Oct
theorem St.al {w : World} {g : Nat} {s : RS} {B : Nat} {t : TypeId} {cs : Array Value} {B2 : Nat} {t2 : TypeId} {cs2 : Array Value} {W : World} (h : St w g s B t cs B2 t2 cs2 W) (o : Obj) : St w g s B t cs B2 t2 cs2 (W.alloc o) :=
  ⟨BlkIs.alloc h.1 o, h.2.1.alloc o, h.2.2.1.alloc o, h.2.2.2.1.alloc o, h.2.2.2.2⟩
theorem st_n' {w : World} {g : Nat} {s : RS} {B : Nat} {t : TypeId} {cs : Array Value} {B2 : Nat} {t2 : TypeId} {cs2 : Array Value} {W : World} (x : Int) (s' : RS) (hq : rNum s = (x, s')) (h : St w g s B t cs B2 t2 cs2 W) :
    Calls Tryz.prog 146 #[.agg #[.pointer (some ⟨g, 0, none⟩)]] W fun e w' => e = .returned (.int .i64 x) ∧ St w g s' B t cs B2 t2 cs2 w' ∧ (∀ i, w'.cell? ⟨B, i, none⟩ = cs[i]?) ∧ Moved g W w' := by
  have := rd_n g s W h.1
  rw [hq] at this
  refine this.mono ?_
  rintro e w' ⟨he, hr, hm⟩
  exact ⟨he, h.moved hr hm, fun i => (hm.blk h.2.2.1 h.2.2.2.2.1).cell i, hm⟩
theorem st_take' {w : World} {g : Nat} {s : RS} {B : Nat} {t : TypeId} {cs : Array Value} {B2 : Nat} {t2 : TypeId} {cs2 : Array Value} {W : World} (n : Int) (x : ByteArray) (s' : RS) (hq : rTake n s = (x, s')) (h : St w g s B t cs B2 t2 cs2 W) :
    Calls Tryz.prog 44 #[.pointer (some ⟨g, 0, none⟩), .int .i64 n] W fun e w' => e = .returned (.string x) ∧ St w g s' B t cs B2 t2 cs2 w' ∧ (∀ i, w'.cell? ⟨B, i, none⟩ = cs[i]?) ∧ Moved g W w' := by
  have := rd_take g s.1 s.2 n W h.1
  rw [show takeR s.1 s.2 n = (x, s') from hq] at this
  refine this.mono ?_
  rintro e w' ⟨he, hr, hm⟩
  exact ⟨he, h.moved hr hm, fun i => (hm.blk h.2.2.1 h.2.2.2.2.1).cell i, hm⟩
theorem sl_far5 {w : World} {base : Nat} {e : TypeId} {k : Nat} {v : Value} {n : Nat} {xs : List Value} (h : SlIs w base e k v n xs) {g : Nat} (hg : v.ownBlock ≠ some g) (a b c d f : Value) :
    SlIs (((((w.setCell ⟨g, 0, none⟩ a).setCell ⟨g, 1, none⟩ b).setCell ⟨g, 2, none⟩ c).setCell ⟨g, 3, none⟩ d).setCell ⟨g, 4, none⟩ f) base e k v n xs :=
  ((((h.far (p := ⟨g, 0, none⟩) hg a).far (p := ⟨g, 1, none⟩) hg b).far (p := ⟨g, 2, none⟩) hg c).far (p := ⟨g, 3, none⟩) hg d).far (p := ⟨g, 4, none⟩) hg f
/-- Behind the statement that lays the tomb. -/
def TombMid (g : Nat) (s3 : RS) (x1 x2 : Int) (x3 : ByteArray) (w : World) : Exit → Act → World → Prop
  | .normal, a, W => ∃ (T : Nat) (u4 u5 u6 u7 u8 u9 u10 u11 : Value), a = { tmps := #[.agg #[.pointer (some ⟨g, 0, none⟩)], .pointer (some ⟨w.heap.size, 0, none⟩), .pointer (some ⟨w.heap.size + 1, 0, none⟩), .pointer (some ⟨T, 0, none⟩), u4, u5, u6, u7, u8, u9, u10, u11, undef, undef, undef, undef, undef, undef, undef, undef, undef, undef], defers := [] } ∧
      w.heap.size + 2 ≤ T ∧ St w g s3 w.heap.size 119 #[.pointer (some ⟨g, 0, none⟩)] (w.heap.size + 1) 54 #[.int .i64 0, .int .i64 0, .string ⟨#[]⟩, .slice none 0 0, .slice none 0 0] W ∧
      BlkIs W T 54 #[.int .i64 x1, .int .i64 x2, .string x3, .slice none 0 0, .slice none 0 0]
  | _, _, _ => False
theorem St.far {w : World} {g : Nat} {s : RS} {B : Nat} {t : TypeId} {cs : Array Value} {B2 : Nat} {t2 : TypeId} {cs2 : Array Value} {W : World} (h : St w g s B t cs B2 t2 cs2 W) {p : Addr} (h1 : g ≠ p.block) (h2 : B ≠ p.block) (h3 : B2 ≠ p.block) (hw : w.heap.size ≤ p.block) (v : Value) :
    St w g s B t cs B2 t2 cs2 (W.setCell p v) := by
  obtain ⟨k1, k2, k3, k4, k5, k6⟩ := h
  refine ⟨BlkIs.far k1 h1 v, ?_, k3.far h2 v, k4.far h3 v, k5, k6⟩
  exact ⟨k2.os, k2.tape, k2.output, by simpa using k2.size, fun k hk hne => (Below.heap_setCell W p v k (by omega)).trans (k2.block k hk hne)⟩
theorem tomb_leaf {g : Nat} {s3 : RS} {x1 x2 : Int} {x3 : ByteArray} {w W : World} {T : Nat} {u4 u5 u6 u7 u8 u9 u10 u11 : Value} (hg : g < w.heap.size) (hT : w.heap.size + 2 ≤ T)
    (h : St w g s3 w.heap.size 119 #[.pointer (some ⟨g, 0, none⟩)] (w.heap.size + 1) 54 #[.int .i64 0, .int .i64 0, .string ⟨#[]⟩, .slice none 0 0, .slice none 0 0] W) (hB : BlkIs W T 54 #[.int .i64 0, .int .i64 0, .string ⟨#[]⟩, .slice none 0 0, .slice none 0 0]) :
    TombMid g s3 x1 x2 x3 w .normal { tmps := #[.agg #[.pointer (some ⟨g, 0, none⟩)], .pointer (some ⟨w.heap.size, 0, none⟩), .pointer (some ⟨w.heap.size + 1, 0, none⟩), .pointer (some ⟨T, 0, none⟩), u4, u5, u6, u7, u8, u9, u10, u11, undef, undef, undef, undef, undef, undef, undef, undef, undef, undef], defers := [] }
      (((((W.setCell ⟨T, 0, none⟩ (.int .i64 x1)).setCell ⟨T, 1, none⟩ (.int .i64 x2)).setCell ⟨T, 2, none⟩ (.string x3)).setCell ⟨T, 3, none⟩ (.slice none 0 0)).setCell ⟨T, 4, none⟩ (.slice none 0 0)) := by
  have e1 : g ≠ T := by omega
  have e2 : w.heap.size ≠ T := by omega
  have e3 : w.heap.size + 1 ≠ T := by omega
  have e4 : w.heap.size ≤ T := by omega
  refine ⟨T, _, _, _, _, _, _, _, _, rfl, hT, ?_, (((((hB.put 0 _).put 1 _).put 2 _).put 3 _).put 4 _)⟩
  exact ((((h.far (p := ⟨T, 0, none⟩) e1 e2 e3 e4 _).far (p := ⟨T, 1, none⟩) e1 e2 e3 e4 _).far (p := ⟨T, 2, none⟩) e1 e2 e3 e4 _).far (p := ⟨T, 3, none⟩) e1 e2 e3 e4 _).far (p := ⟨T, 4, none⟩) e1 e2 e3 e4 _
set_option maxRecDepth 100000 in
set_option maxHeartbeats 2000000 in
theorem rd_tomb (g : Nat) (s : RS) (w : World) (h : Rd w g s.1 s.2) : Calls Tryz.prog 110 #[.agg #[.pointer (some ⟨g, 0, none⟩)]] w fun e w' => ∃ r : TbR, e = .returned (aTb r) ∧ r.t = (rTb s).1 ∧ r.Own w.heap.size w' ∧ Rd w' g (rTb s).2.1 (rTb s).2.2 ∧ Moved g w w' := by
  have hgl := h.lt
  obtain ⟨x1, s1, hq1⟩ : ∃ x s', rNum s = (x, s') := ⟨_, _, rfl⟩
  obtain ⟨x2, s2, hq2⟩ : ∃ x s', rNum s1 = (x, s') := ⟨_, _, rfl⟩
  obtain ⟨x3, s3, hq3⟩ : ∃ x s', rTake 32 s2 = (x, s') := ⟨_, _, rfl⟩
  have hq : rTok s = (⟨x1, x2, x3⟩, s3) := by unfold rTok; simp only [hq1, hq2, hq3]
  obtain ⟨W1, hW1⟩ : ∃ W1, W1 = (w.alloc (.cells #[.pointer (some ⟨g, 0, none⟩)] 119)).alloc (.cells #[.int .i64 0, .int .i64 0, .string ⟨#[]⟩, .slice none 0 0, .slice none 0 0] 54) := ⟨_, rfl⟩
  have hb : Below w.heap.size w W1 := by rw [hW1]; exact ((Below.refl _ _).alloc (Nat.le_refl _) _).alloc (by simp) _
  have k1 : BlkIs W1 w.heap.size 119 #[.pointer (some ⟨g, 0, none⟩)] := by rw [hW1]; exact (BlkIs.new _ _ _).alloc _
  have k2 : BlkIs W1 (w.heap.size + 1) 54 #[.int .i64 0, .int .i64 0, .string ⟨#[]⟩, .slice none 0 0, .slice none 0 0] := by rw [hW1]; exact BlkIs.new2 _ _ _ _
  have HW := Lib.hid hW1
  have H1 := Lib.hid (show St w g s w.heap.size 119 #[.pointer (some ⟨g, 0, none⟩)] (w.heap.size + 1) 54 #[.int .i64 0, .int .i64 0, .string ⟨#[]⟩, .slice none 0 0, .slice none 0 0] W1 from ⟨BlkIs.below h hb hgl, Moved.of_below hb, k1, k2, by omega, by omega⟩)
  have Q1 := Lib.hid hq1
  have Q2 := Lib.hid hq2
  have Q3 := Lib.hid hq3
  have d0 : W1.cell? ⟨w.heap.size, 0, none⟩ = some (.pointer (some ⟨g, 0, none⟩)) := k1.cell 0
  have nW : W1.heap.size ≠ w.heap.size := Nat.ne_of_gt k1.lt
  have HG := Lib.hid hgl
  have HQ := Lib.hid hq
  clear hW1 hb k1 k2 h hgl hq hq1 hq2 hq3
  go_enter Tryz.func110, Tryz.ntmps110
  go_wp2_with fail
  rw [← HW.out]
  refine Code.wp_mono (Q := TombMid g s3 x1 x2 x3 w) ?_ ?_
  · intro e a W hM
    cases e
    case normal =>
      obtain ⟨T, u4, u5, u6, u7, u8, u9, u10, u11, rfl, hT, HS, HB⟩ := hM
      have d1 : W.cell? ⟨w.heap.size, 0, none⟩ = some (.pointer (some ⟨g, 0, none⟩)) := HS.2.2.1.cell 0
      have HS := Lib.hid HS
      have HB := Lib.hid HB
      have HT := Lib.hid hT
      clear hT d0 nW
      have nT : T ≠ w.heap.size := by have := HT.out; omega
      have nT' : w.heap.size ≠ T := by have := HT.out; omega
      have nR : T ≠ w.heap.size + 1 := by have := HT.out; omega
      have nR' : w.heap.size + 1 ≠ T := by have := HT.out; omega
      have nB : w.heap.size ≠ w.heap.size + 1 := by omega
      go_wp2_with fail
      have OK1 : OneOk 147 #[] #[.pointer (some ⟨w.heap.size, 0, none⟩), .pointer (some ⟨T, 0, none⟩)] aTok (fun x : Tok => x) (fun _ _ => True) (rCov x3) g W :=
        ⟨fun _ _ => rfl, fun s V hm hr => (rd_cov g w.heap.size T s x3 x1 x2 _ _ V hr (hm.blk HS.out.2.2.1 (Nat.ne_of_gt HG.out)) (hm.blk HB.out (by have := HG.out; have := HT.out; omega))).mono fun e V' h => ⟨_, h.1, rfl, trivial, h.2.1, h.2.2⟩⟩
      refine (list_tok g s3 256 _ _ _ (rCov x3) W HS.out.1 (by decide) (by decide) OK1).mono ?_
      rintro e W2 ⟨v, l1, rfl, hs1, hl1, hr1, hm1, -⟩
      clear OK1
      obtain ⟨o1, f1, rfl, -, -, -⟩ := hs1.form
      obtain ⟨m1, hml1⟩ : ∃ m, m = l1.length := ⟨_, rfl⟩
      rw [← hml1] at hs1 ⊢
      have hB2 : BlkIs W2 T 54 #[.int .i64 x1, .int .i64 x2, .string x3, .slice none 0 0, .slice none 0 0] := hm1.blk HB.out (by have := HG.out; have := HT.out; omega)
      have hS2 : St w g (rMany (rCov x3) 256 s3).2 w.heap.size 119 #[.pointer (some ⟨g, 0, none⟩)] (w.heap.size + 1) 54 #[.int .i64 0, .int .i64 0, .string ⟨#[]⟩, .slice none 0 0, .slice none 0 0] W2 := HS.out.moved hr1 hm1
      have d2 : W2.cell? ⟨w.heap.size, 0, none⟩ = some (.pointer (some ⟨g, 0, none⟩)) := hS2.2.2.1.cell 0
      have e23 : W2.cell? ⟨T, 3, none⟩ = some (.slice none 0 0) := hB2.cell 3
      have f23 : W2.frozen? ⟨T, 3, none⟩ = false := hB2.free 3
      have hB3 := hB2.put 3 (.slice o1 m1 f1)
      have hS3 := hS2.far (p := ⟨T, 3, none⟩) (by have := HG.out; show g ≠ T; have := HT.out; omega) nT' nR' (by show w.heap.size ≤ T; have := HT.out; omega) (.slice o1 m1 f1)
      have hs3 := hs1.far (p := ⟨T, 3, none⟩) (fun e => by have := (hs1.lt T e).1; have := HB.out.lt; omega) (.slice o1 m1 f1)
      have W3H := Lib.hid (And.intro hB3 (And.intro hS3 (hs3.mono (base' := w.heap.size) (by have := HS.out.2.1.size; omega))))
      have HL1 := Lib.hid (And.intro hl1 hml1)
      clear hs1 hl1 hr1 hm1 hml1 hB2 hS2 hB3 hS3 hs3 d1
      go_wp2_with fail
      obtain ⟨W3, hW3⟩ : ∃ W3, W3 = W2.setCell ⟨T, 3, none⟩ (.slice o1 m1 f1) := ⟨_, rfl⟩
      rw [← hW3] at W3H ⊢
      clear hW3
      have OK2 : OneOk 146 #[.agg #[.pointer (some ⟨g, 0, none⟩)]] #[] aInt (fun x : Int => x) (fun _ _ => True) rNum g W3 :=
        ⟨fun _ _ => rfl, fun s V hm hr => (rd_n g s V hr).mono fun e V' h => ⟨_, h.1, rfl, trivial, h.2.1, h.2.2⟩⟩
      refine (list_int g (rMany (rCov x3) 256 s3).2 7 _ _ _ rNum W3 W3H.out.2.1.1 (by decide) (by decide) OK2).mono ?_
      rintro e W4 ⟨v, l2, rfl, hs4, hl4, hr4, hm4, -⟩
      clear OK2 d2 e23 f23
      obtain ⟨o2, f2, rfl, -, -, -⟩ := hs4.form
      obtain ⟨m2, hml2⟩ : ∃ m, m = l2.length := ⟨_, rfl⟩
      rw [← hml2] at hs4 ⊢
      have hB4 : BlkIs W4 T 54 #[.int .i64 x1, .int .i64 x2, .string x3, .slice o1 m1 f1, .slice none 0 0] := hm4.blk W3H.out.1 (by have := HG.out; have := HT.out; omega)
      have hS4 := W3H.out.2.1.moved hr4 hm4
      have hR4 := hS4.2.2.2.1
      have hs14 := hm4.sl W3H.out.2.2 HG.out
      have e40 : W4.cell? ⟨T, 0, none⟩ = some (.int .i64 x1) := hB4.cell 0
      have f40 : W4.frozen? ⟨T, 0, none⟩ = false := hB4.free 0
      have e41 : W4.cell? ⟨T, 1, none⟩ = some (.int .i64 x2) := hB4.cell 1
      have f41 : W4.frozen? ⟨T, 1, none⟩ = false := hB4.free 1
      have e42 : W4.cell? ⟨T, 2, none⟩ = some (.string x3) := hB4.cell 2
      have f42 : W4.frozen? ⟨T, 2, none⟩ = false := hB4.free 2
      have e43 : W4.cell? ⟨T, 3, none⟩ = some (.slice o1 m1 f1) := hB4.cell 3
      have f43 : W4.frozen? ⟨T, 3, none⟩ = false := hB4.free 3
      have e44 : W4.cell? ⟨T, 4, none⟩ = some (.slice none 0 0) := hB4.cell 4
      have f44 : W4.frozen? ⟨T, 4, none⟩ = false := hB4.free 4
      have e50 : W4.cell? ⟨(w.heap.size + 1), 0, none⟩ = some (.int .i64 0) := hR4.cell 0
      have f50 : W4.frozen? ⟨(w.heap.size + 1), 0, none⟩ = false := hR4.free 0
      have e51 : W4.cell? ⟨(w.heap.size + 1), 1, none⟩ = some (.int .i64 0) := hR4.cell 1
      have f51 : W4.frozen? ⟨(w.heap.size + 1), 1, none⟩ = false := hR4.free 1
      have e52 : W4.cell? ⟨(w.heap.size + 1), 2, none⟩ = some (.string ⟨#[]⟩) := hR4.cell 2
      have f52 : W4.frozen? ⟨(w.heap.size + 1), 2, none⟩ = false := hR4.free 2
      have e53 : W4.cell? ⟨(w.heap.size + 1), 3, none⟩ = some (.slice none 0 0) := hR4.cell 3
      have f53 : W4.frozen? ⟨(w.heap.size + 1), 3, none⟩ = false := hR4.free 3
      have e54 : W4.cell? ⟨(w.heap.size + 1), 4, none⟩ = some (.slice none 0 0) := hR4.cell 4
      have f54 : W4.frozen? ⟨(w.heap.size + 1), 4, none⟩ = false := hR4.free 4
      have hl4t : T < W3.heap.size := W3H.out.1.lt
      have hs5 := hs4.far (p := ⟨T, 4, none⟩) (fun e => by have := (hs4.lt T e).1; omega) (.slice o2 m2 f2)
      have hs15 := hs14.far (p := ⟨T, 4, none⟩) (hs14.ne_blk hB4 (by decide)) (.slice o2 m2 f2)
      have hS5 := hS4.far (p := ⟨T, 4, none⟩) (by have := HG.out; show g ≠ T; have := HT.out; omega) nT' nR' (by show w.heap.size ≤ T; have := HT.out; omega) (.slice o2 m2 f2)
      have H5 := Lib.hid (And.intro (hs5.mono (base' := w.heap.size) (by have := W3H.out.2.1.2.1.size; omega)) (And.intro hs15 hS5))
      have HL2 := Lib.hid (And.intro hl4 hml2)
      clear hs4 hl4 hr4 hm4 hml2 hB4 hS4 hR4 hs14 hl4t hs5 hs15 hS5
      go_wp2_with fail
      obtain ⟨h51, h52, h5⟩ := H5.out
      have nb1 := h51.ne_blk h5.2.2.2.1 (by decide)
      have nb2 := h52.ne_blk h5.2.2.2.1 (by decide)
      obtain ⟨hl1, hm1⟩ := HL1.out
      obtain ⟨hl2, hm2⟩ := HL2.out
      have hq := HQ.out
      subst hm1 hm2
      have H6 := ((((h5.store nB (Nat.le_succ _) 0 (.int .i64 x1)).store nB (Nat.le_succ _) 1 (.int .i64 x2)).store nB (Nat.le_succ _) 2 (.string x3)).store nB (Nat.le_succ _) 3 (.slice o1 l1.length f1)).store nB (Nat.le_succ _) 4 (.slice o2 l2.length f2)
      refine bodyPost_ret (v := .agg #[.int .i64 x1, .int .i64 x2, .string x3, .slice o1 l1.length f1, .slice o2 l2.length f2]) (by simp [results, Tryz.results110, go_sem, e50, e51, e52, e53, e54]) rfl
        ⟨⟨⟨x1, x2, x3, l1, l2⟩, .slice o1 l1.length f1, .slice o2 l2.length f2⟩, rfl, ?_, ⟨sl_far5 h52 nb2 _ _ _ _ _, sl_far5 h51 nb1 _ _ _ _ _⟩, ?_⟩
      · unfold rTb
        rw [hq]
        simp only [List.map_id'] at hl1 hl2
        show (⟨x1, x2, x3, l1, l2⟩ : Tb) = ⟨x1, x2, x3, _, _⟩
        rw [hl1, hl2]
      · unfold rTb
        rw [hq]
        exact ⟨H6.1, H6.2.1⟩
    all_goals exact hM.elim
  · go_region_held (fun w' => w'.cell? ⟨w.heap.size, 0, none⟩ = some (.pointer (some ⟨g, 0, none⟩))) (go_keep)
      (first
        | (go_at_call 146
           refine (st_n' x1 s1 Q1.out (by first | exact H1.out | exact H1.out.drew | exact H1.out.drew.al _)).mono ?_
           rintro e w4 ⟨rfl, h4, c4, m4⟩
           have H4 := Lib.hid h4
           have n4 : w4.heap.size ≠ w.heap.size := Nat.ne_of_gt h4.2.2.1.lt
           have c4 : w4.cell? ⟨w.heap.size, 0, none⟩ = some (.pointer (some ⟨g, 0, none⟩)) := c4 0
           have z4 : g < W1.heap.size := H1.out.1.lt
           first
             | (have B4 := Lib.hid (show BlkIs w4 W1.heap.size 54 #[.int .i64 0, .int .i64 0, .string ⟨#[]⟩, .slice none 0 0, .slice none 0 0] from m4.blk (BlkIs.new W1.drew _ _) (Nat.ne_of_gt z4)))
             | skip
           clear h4 m4 z4)
        | (go_at_call 146
           refine (st_n' x2 s2 Q2.out (by first | exact H4.out | exact H4.out.al _)).mono ?_
           rintro e w5 ⟨rfl, h5, c5, m5⟩
           have H5 := Lib.hid h5
           have n5 : w5.heap.size ≠ w.heap.size := Nat.ne_of_gt h5.2.2.1.lt
           have c5 : w5.cell? ⟨w.heap.size, 0, none⟩ = some (.pointer (some ⟨g, 0, none⟩)) := c5 0
           have z5 : g < w4.heap.size := H4.out.1.lt
           first
             | (have B5 := Lib.hid (show BlkIs w5 W1.heap.size 54 #[.int .i64 0, .int .i64 0, .string ⟨#[]⟩, .slice none 0 0, .slice none 0 0] from m5.blk B4.out (Nat.ne_of_gt H1.out.1.lt)))
             | (have B5 := Lib.hid (show BlkIs w5 w4.heap.size 54 #[.int .i64 0, .int .i64 0, .string ⟨#[]⟩, .slice none 0 0, .slice none 0 0] from m5.blk (BlkIs.new w4 _ _) (Nat.ne_of_gt z5)))
             | skip
           clear h5 m5 z5)
        | (go_at_call 44
           refine (st_take' 32 x3 s3 Q3.out (by first | exact H5.out | exact H5.out.al _)).mono ?_
           rintro e w6 ⟨rfl, h6, c6, m6⟩
           have H6 := Lib.hid h6
           have n6 : w6.heap.size ≠ w.heap.size := Nat.ne_of_gt h6.2.2.1.lt
           have c6 : w6.cell? ⟨w.heap.size, 0, none⟩ = some (.pointer (some ⟨g, 0, none⟩)) := c6 0
           have z6 : g < w5.heap.size := H5.out.1.lt
           first
             | (have B6 := Lib.hid (show BlkIs w6 W1.heap.size 54 #[.int .i64 0, .int .i64 0, .string ⟨#[]⟩, .slice none 0 0, .slice none 0 0] from m6.blk B5.out (Nat.ne_of_gt H1.out.1.lt))
                have e70 : w6.cell? ⟨W1.heap.size, 0, none⟩ = some (.int .i64 0) := B6.out.cell 0
                have f70 : w6.frozen? ⟨W1.heap.size, 0, none⟩ = false := B6.out.free 0
                have e71 : w6.cell? ⟨W1.heap.size, 1, none⟩ = some (.int .i64 0) := B6.out.cell 1
                have f71 : w6.frozen? ⟨W1.heap.size, 1, none⟩ = false := B6.out.free 1
                have e72 : w6.cell? ⟨W1.heap.size, 2, none⟩ = some (.string ⟨#[]⟩) := B6.out.cell 2
                have f72 : w6.frozen? ⟨W1.heap.size, 2, none⟩ = false := B6.out.free 2
                have e73 : w6.cell? ⟨W1.heap.size, 3, none⟩ = some (.slice none 0 0) := B6.out.cell 3
                have f73 : w6.frozen? ⟨W1.heap.size, 3, none⟩ = false := B6.out.free 3
                have e74 : w6.cell? ⟨W1.heap.size, 4, none⟩ = some (.slice none 0 0) := B6.out.cell 4
                have f74 : w6.frozen? ⟨W1.heap.size, 4, none⟩ = false := B6.out.free 4
                skip)
             | (have B6 := Lib.hid (show BlkIs w6 w4.heap.size 54 #[.int .i64 0, .int .i64 0, .string ⟨#[]⟩, .slice none 0 0, .slice none 0 0] from m6.blk B5.out (Nat.ne_of_gt H4.out.1.lt))
                have e70 : w6.cell? ⟨w4.heap.size, 0, none⟩ = some (.int .i64 0) := B6.out.cell 0
                have f70 : w6.frozen? ⟨w4.heap.size, 0, none⟩ = false := B6.out.free 0
                have e71 : w6.cell? ⟨w4.heap.size, 1, none⟩ = some (.int .i64 0) := B6.out.cell 1
                have f71 : w6.frozen? ⟨w4.heap.size, 1, none⟩ = false := B6.out.free 1
                have e72 : w6.cell? ⟨w4.heap.size, 2, none⟩ = some (.string ⟨#[]⟩) := B6.out.cell 2
                have f72 : w6.frozen? ⟨w4.heap.size, 2, none⟩ = false := B6.out.free 2
                have e73 : w6.cell? ⟨w4.heap.size, 3, none⟩ = some (.slice none 0 0) := B6.out.cell 3
                have f73 : w6.frozen? ⟨w4.heap.size, 3, none⟩ = false := B6.out.free 3
                have e74 : w6.cell? ⟨w4.heap.size, 4, none⟩ = some (.slice none 0 0) := B6.out.cell 4
                have f74 : w6.frozen? ⟨w4.heap.size, 4, none⟩ = false := B6.out.free 4
                skip)
             | (have B6 := Lib.hid (show BlkIs w6 w5.heap.size 54 #[.int .i64 0, .int .i64 0, .string ⟨#[]⟩, .slice none 0 0, .slice none 0 0] from m6.blk (BlkIs.new w5 _ _) (Nat.ne_of_gt z6))
                have e70 : w6.cell? ⟨w5.heap.size, 0, none⟩ = some (.int .i64 0) := B6.out.cell 0
                have f70 : w6.frozen? ⟨w5.heap.size, 0, none⟩ = false := B6.out.free 0
                have e71 : w6.cell? ⟨w5.heap.size, 1, none⟩ = some (.int .i64 0) := B6.out.cell 1
                have f71 : w6.frozen? ⟨w5.heap.size, 1, none⟩ = false := B6.out.free 1
                have e72 : w6.cell? ⟨w5.heap.size, 2, none⟩ = some (.string ⟨#[]⟩) := B6.out.cell 2
                have f72 : w6.frozen? ⟨w5.heap.size, 2, none⟩ = false := B6.out.free 2
                have e73 : w6.cell? ⟨w5.heap.size, 3, none⟩ = some (.slice none 0 0) := B6.out.cell 3
                have f73 : w6.frozen? ⟨w5.heap.size, 3, none⟩ = false := B6.out.free 3
                have e74 : w6.cell? ⟨w5.heap.size, 4, none⟩ = some (.slice none 0 0) := B6.out.cell 4
                have f74 : w6.frozen? ⟨w5.heap.size, 4, none⟩ = false := B6.out.free 4
                skip)
             | skip
           clear h6 m6 z6))
    · exact ⟨_, _, _, _, _, _, _, _, _, rfl, H6.out.2.2.2.1.lt, H6.out.al _, BlkIs.new _ _ _⟩
    · exact tomb_leaf HG.out H5.out.2.2.2.1.lt H6.out B6.out
    · exact tomb_leaf HG.out H4.out.2.2.2.1.lt H6.out B6.out
    · exact tomb_leaf HG.out H1.out.2.2.2.1.lt H6.out B6.out
end Go.Proofs.YtljenganlknhbaaGreat.Mk

/- mark.Decode, walked. (Layer 12.) -/
namespace Go.Proofs.YtljenganlknhbaaGreat.Mk
set_option linter.unusedVariables false
open Go.RowKit Oct
theorem rList_len {α : Type} (one : RS → α × RS) : ∀ (n : Nat) (s : RS), (rList one n s).1.length ≤ n
  | 0, s => by simp [rList]
  | n + 1, s => by
    rw [rList]
    split
    · simp
    · have := rList_len one n (one s).2
      simp only [List.length_cons]
      omega
theorem rList_all {α : Type} {one : RS → α × RS} {P : α → Prop} (h : ∀ s, P (one s).1) : ∀ (n : Nat) (s : RS), ∀ x ∈ (rList one n s).1, P x
  | 0, s => by simp [rList]
  | n + 1, s => by
    rw [rList]
    split
    · simp
    · intro x hx
      rcases List.mem_cons.1 hx with rfl | hx
      · exact h s
      · exact rList_all h n _ x hx
theorem rMany_len {α : Type} (one : RS → α × RS) (most : Int) (s : RS) (h : 0 ≤ most) : ((rMany one most s).1.length : Int) ≤ most := by
  unfold rMany
  split
  · next hc => rw [rList_bad one _ spoilt rfl]; simpa using h
  · next hc =>
    have h1 := rList_len one (rNum s).1.toNat (rNum s).2
    have h2 := (rNum_lt s).1
    omega
theorem rTb_fit (s : RS) : (rTb s).1.acks.length ≤ 1000000 ∧ (rTb s).1.cov.length ≤ 1000000 := by
  have h1 := rMany_len rNum 7 (rMany (rCov (rTok s).1.id) 256 (rTok s).2).2 (by decide)
  have h2 := rMany_len (rCov (rTok s).1.id) 256 (rTok s).2 (by decide)
  exact ⟨by show (rMany rNum 7 (rMany (rCov (rTok s).1.id) 256 (rTok s).2).2).1.length ≤ _; omega, by show (rMany (rCov (rTok s).1.id) 256 (rTok s).2).1.length ≤ _; omega⟩
theorem moved_below {g : Nat} {w w' : World} (h : Moved g w w') (hg : w.heap.size ≤ g) : Below w.heap.size w w' := ⟨h.os, h.tape, h.output, h.size, fun k hk => h.block k hk (by simp; omega)⟩
theorem St3.moved {w : World} {g : Nat} {s s' : RS} {B : Nat} {t : TypeId} {cs : Array Value} {B2 : Nat} {t2 : TypeId} {cs2 : Array Value} {T : Nat} {t3 : TypeId} {cs3 : Array Value} {W W' : World} (h : St3 w g s B t cs B2 t2 cs2 T t3 cs3 W) (hr : Rd W' g s'.1 s'.2) (hm : Moved g W W') : St3 w g s' B t cs B2 t2 cs2 T t3 cs3 W' :=
  ⟨h.1.moved hr hm, hm.blk h.2.1 h.2.2, h.2.2⟩
theorem St3.put {w : World} {g : Nat} {s : RS} {B : Nat} {t : TypeId} {cs : Array Value} {B2 : Nat} {t2 : TypeId} {cs2 : Array Value} {T : Nat} {t3 : TypeId} {cs3 : Array Value} {W : World} (h : St3 w g s B t cs B2 t2 cs2 T t3 cs3 W) (hB : B ≠ B2) (hT : T ≠ B2) (hw : w.heap.size ≤ B2) (i : Nat) (v : Value) :
    St3 w g s B t cs B2 t2 (cs2.setIfInBounds i v) T t3 cs3 (W.setCell ⟨B2, i, none⟩ v) := ⟨h.1.store hB hw i v, h.2.1.far (p := ⟨B2, i, none⟩) hT v, h.2.2⟩
/-- Nothing has been read. -/
def MkR.none_ : MkR := ⟨[], [], [], .slice none 0 0, .slice none 0 0, .slice none 0 0⟩
theorem RowAt.nil_ {k : Nat} {α : Type} (enc : α → List Value) (hk : ∀ x, (enc x).length = k) (w : World) : RowAt k enc w (.slice none 0 0) [] := RowAt.of_sl (base := 0) (e := 0) hk (SlIs.nil_ _ _ _ _)
theorem MkR.none_reads (w : World) : MkR.none_.Reads w := ⟨RowAt.nil_ vRf (fun _ => rfl) w, RowAt.nil_ vTok (fun _ => rfl) w, RowAt.nil_ vTb (fun _ => rfl) w, fun z hz => by cases hz⟩
theorem MkR.none_small : MkR.none_.Small := ⟨by decide, by decide, by decide, fun z hz => by cases hz⟩
/-- Marks whose lists a call has made itself, from base on. -/
def MkR.Own (base : Nat) (w : World) (m : MkR) : Prop := SlIs w base 51 3 m.rv m.refs.length (rowCells vRf m.refs) ∧ SlIs w base 102 3 m.kv m.toks.length (rowCells vTok m.toks) ∧ SlIs w base 54 5 m.bv m.tombs.length (rowCells vTb m.tombs) ∧ ∀ z ∈ m.tombs, z.Own base w
theorem MkR.Own.later {base : Nat} {w w' : World} {m : MkR} (h : m.Own base w) (hb : Below w.heap.size w w') : m.Own base w' := ⟨h.1.later hb, h.2.1.later hb, h.2.2.1.later hb, fun z hz => (h.2.2.2 z hz).later hb⟩
theorem TbR.Own.far {base : Nat} {w : World} {x : TbR} (h : x.Own base w) {g : Nat} {cs : Array Value} (hB : BlkIs w g 28 cs) (i : Nat) (u : Value) : x.Own base (w.setCell ⟨g, i, none⟩ u) :=
  ⟨h.1.far (p := ⟨g, i, none⟩) (h.1.ne_blk hB (by decide)) u, h.2.far (p := ⟨g, i, none⟩) (h.2.ne_blk hB (by decide)) u⟩
theorem MkR.Own.far {base : Nat} {w : World} {m : MkR} (h : m.Own base w) {g : Nat} {cs : Array Value} (hB : BlkIs w g 28 cs) (i : Nat) (u : Value) : m.Own base (w.setCell ⟨g, i, none⟩ u) :=
  ⟨h.1.far (p := ⟨g, i, none⟩) (h.1.ne_blk hB (by decide)) u, h.2.1.far (p := ⟨g, i, none⟩) (h.2.1.ne_blk hB (by decide)) u, h.2.2.1.far (p := ⟨g, i, none⟩) (h.2.2.1.ne_blk hB (by decide)) u, fun z hz => (h.2.2.2 z hz).far hB i u⟩
theorem MkR.Own.reads {base : Nat} {w : World} {m : MkR} (h : m.Own base w) : m.Reads w := ⟨RowAt.of_sl (fun _ => rfl) h.1, RowAt.of_sl (fun _ => rfl) h.2.1, RowAt.of_sl (fun _ => rfl) h.2.2.1, fun z hz => (h.2.2.2 z hz).reads⟩
/-- What Decode hands back. -/
def DecOut (s : ByteArray) (w : World) (e : Ending) (w' : World) : Prop :=
  ∃ (m : MkR) (k : Int), e = .returned (.tuple #[aMk m, .int .i64 k]) ∧ m.Reads w' ∧ m.Small ∧ Below w.heap.size w w' ∧ ((dec s = some m.mk_ ∧ k = 0) ∨ (dec s = none ∧ m = MkR.none_ ∧ k = 4))
/-- The same; its lists are the call's own. -/
def DecOwn (s : ByteArray) (w : World) (e : Ending) (w' : World) : Prop :=
  ∃ (m : MkR) (k : Int), e = .returned (.tuple #[aMk m, .int .i64 k]) ∧ m.Own w.heap.size w' ∧ m.Small ∧ Below w.heap.size w w' ∧ ((dec s = some m.mk_ ∧ k = 0) ∨ (dec s = none ∧ m = MkR.none_ ∧ k = 4))
theorem DecOwn.out {s : ByteArray} {w w' : World} {e : Ending} (h : DecOwn s w e w') : DecOut s w e w' := by
  obtain ⟨m, k, h1, h2, h3⟩ := h
  exact ⟨m, k, h1, h2.reads, h3⟩
theorem MkR.none_own (base : Nat) (w : World) : MkR.none_.Own base w := ⟨SlIs.nil_ _ _ _ _, SlIs.nil_ _ _ _ _, SlIs.nil_ _ _ _ _, fun z hz => by cases hz⟩
theorem MkR.Own.mono {base base' : Nat} {w : World} {m : MkR} (h : m.Own base w) (hb : base' ≤ base) : m.Own base' w := ⟨h.1.mono hb, h.2.1.mono hb, h.2.2.1.mono hb, fun z hz => (h.2.2.2 z hz).mono hb⟩
set_option maxRecDepth 100000 in
set_option maxHeartbeats 4000000 in
theorem decode_own (s : ByteArray) (w : World) : Calls Tryz.prog 53 #[.string s] w fun e w' => DecOwn s w e w' := by
  obtain ⟨W1, hW1⟩ : ∃ W1, W1 = w.alloc (.cells #[.slice none 0 0, .slice none 0 0, .slice none 0 0] 28) := ⟨_, rfl⟩
  have k0 : BlkIs W1 w.heap.size 28 #[.slice none 0 0, .slice none 0 0, .slice none 0 0] := by rw [hW1]; exact BlkIs.new _ _ _
  have hb0 : Below w.heap.size w W1 := by rw [hW1]; exact (Below.refl _ _).alloc (Nat.le_refl _) _
  have HW := Lib.hid hW1
  have H1 := Lib.hid (And.intro k0 hb0)
  clear hW1 k0 hb0
  go_enter Tryz.func53, Tryz.ntmps53
  go_wp2_with fail
  rw [← HW.out]
  refine (rd_new s W1).mono ?_
  rintro e w2 ⟨rfl, hr2, hb2⟩
  obtain ⟨g, hg⟩ : ∃ g, g = W1.heap.size := ⟨_, rfl⟩
  rw [← hg] at hr2 ⊢
  obtain ⟨B, hB⟩ : ∃ B, B = w2.heap.size := ⟨_, rfl⟩
  obtain ⟨M, hM⟩ : ∃ M, M = w2.heap.size + 1 := ⟨_, rfl⟩
  have hwW : w.heap.size < W1.heap.size := H1.out.1.lt
  obtain ⟨W3, hW3⟩ : ∃ W3, W3 = (w2.alloc (.cells #[.pointer (some ⟨g, 0, none⟩)] 119)).alloc (.cells #[.slice none 0 0, .slice none 0 0, .slice none 0 0] 28) := ⟨_, rfl⟩
  have hbW : Below w2.heap.size w2 W3 := by rw [hW3]; exact ((Below.refl _ _).alloc (Nat.le_refl _) _).alloc (by simp) _
  have k1 : BlkIs W3 B 119 #[.pointer (some ⟨g, 0, none⟩)] := by rw [hW3, hB]; exact (BlkIs.new _ _ _).alloc _
  have k2 : BlkIs W3 M 28 #[.slice none 0 0, .slice none 0 0, .slice none 0 0] := by rw [hW3, hM]; exact BlkIs.new2 _ _ _ _
  have hgl : g < w2.heap.size := hr2.lt
  have k0 : BlkIs W3 w.heap.size 28 #[.slice none 0 0, .slice none 0 0, .slice none 0 0] := BlkIs.below (BlkIs.below H1.out.1 hb2 hwW) hbW (by omega)
  have bW : Below w.heap.size w W3 := H1.out.2.trans ((hb2.mono (by omega)).trans (hbW.mono (by omega)))
  have HS := Lib.hid (show St3 w g (s, false) B 119 #[.pointer (some ⟨g, 0, none⟩)] M 28 #[.slice none 0 0, .slice none 0 0, .slice none 0 0] w.heap.size 28 #[.slice none 0 0, .slice none 0 0, .slice none 0 0] W3 from
    ⟨⟨BlkIs.below hr2 hbW hgl, Moved.of_below bW, k1, k2, by omega, by omega⟩, k0, by omega⟩)
  have NB : B ≠ M := by omega
  have NB' : M ≠ B := by omega
  have NR : w.heap.size ≠ M := by omega
  have NR' : M ≠ w.heap.size := by omega
  have NRB : w.heap.size ≠ B := by omega
  have NRB' : B ≠ w.heap.size := by omega
  have HN := Lib.hid (show w.heap.size ≤ g ∧ w.heap.size ≤ M ∧ M < W3.heap.size from ⟨by omega, by omega, k2.lt⟩)
  have d0 : W3.cell? ⟨B, 0, none⟩ = some (.pointer (some ⟨g, 0, none⟩)) := k1.cell 0
  have HW3 := Lib.hid (show W3 = (w2.alloc (.cells #[.pointer (some ⟨g, 0, none⟩)] 119)).alloc (.cells #[.slice none 0 0, .slice none 0 0, .slice none 0 0] 28) from hW3)
  have HB := Lib.hid hB
  have HM := Lib.hid hM
  clear hg hb2 hB hM hwW hW3 hbW k1 k2 hgl k0 bW hr2
  go_wp2_with fail
  rw [← HM.out, ← HB.out, ← HW3.out]
  clear HB HM HW3 H1 HW
  have OK : OneOk 106 #[.agg #[.pointer (some ⟨g, 0, none⟩)]] #[] aRf (fun x : Rf => x) (fun _ _ => True) rRf g W3 :=
    ⟨fun _ _ => rfl, fun s V hm hr => (rd_ref g s V hr).mono fun e V' h => ⟨_, h.1, rfl, trivial, h.2.1, h.2.2⟩⟩
  refine (list_rf g (s, false) 64 _ _ _ rRf W3 HS.out.1.1 (by decide) (by decide) OK).mono ?_
  rintro e Y0 ⟨v, l0, rfl, hs, hl, hr, hm, hown⟩
  clear OK
  obtain ⟨o0, c0, rfl, -, -, -⟩ := hs.form
  obtain ⟨n0, hn⟩ : ∃ n, n = l0.length := ⟨_, rfl⟩
  rw [← hn] at hs ⊢
  have S2 : St3 w g (rMany rRf 64 (s, false)).2 B 119 #[.pointer (some ⟨g, 0, none⟩)] M 28 #[.slice none 0 0, .slice none 0 0, .slice none 0 0] w.heap.size 28 #[.slice none 0 0, .slice none 0 0, .slice none 0 0] Y0 := HS.out.moved hr hm
  have d1 : Y0.cell? ⟨B, 0, none⟩ = some (.pointer (some ⟨g, 0, none⟩)) := S2.1.2.2.1.cell 0
  have e0 : Y0.cell? ⟨M, 0, none⟩ = some (.slice none 0 0) := S2.1.2.2.2.1.cell 0
  have f0 : Y0.frozen? ⟨M, 0, none⟩ = false := S2.1.2.2.2.1.free 0
  have gW : g + 1 ≤ W3.heap.size := HS.out.1.1.lt
  have hs2 := (hs.far (p := ⟨M, 0, none⟩) (hs.ne_blk S2.1.2.2.2.1 (by decide)) (.slice o0 n0 c0)).mono (base' := g + 1) gW
  have S3 := S2.put NB NR HN.out.2.1 0 (.slice o0 n0 c0)
  have HT0 := Lib.hid (show St3 w g (rMany rRf 64 (s, false)).2 B 119 #[.pointer (some ⟨g, 0, none⟩)] M 28 #[.slice o0 n0 c0, .slice none 0 0, .slice none 0 0] w.heap.size 28 #[.slice none 0 0, .slice none 0 0, .slice none 0 0] (Y0.setCell ⟨M, 0, none⟩ (.slice o0 n0 c0)) from S3)
  have HL0 := Lib.hid (And.intro hl hn)
  have HO0 := Lib.hid (And.intro hs2 trivial)
  clear hs hl hr hm hown hn S2 S3 gW hs2  d0
  go_wp2_with fail
  obtain ⟨X0, hX⟩ : ∃ X, X = Y0.setCell ⟨M, 0, none⟩ (.slice o0 n0 c0) := ⟨_, rfl⟩
  rw [← hX] at HT0 HO0 ⊢
  clear hX
  have OK : OneOk 108 #[.agg #[.pointer (some ⟨g, 0, none⟩)]] #[] aTok (fun x : Tok => x) (fun _ _ => True) rTok g X0 :=
    ⟨fun _ _ => rfl, fun s V hm hr => (rd_token g s V hr).mono fun e V' h => ⟨_, h.1, rfl, trivial, h.2.1, h.2.2⟩⟩
  refine (list_tok g (rMany rRf 64 (s, false)).2 256 _ _ _ rTok X0 HT0.out.1.1 (by decide) (by decide) OK).mono ?_
  rintro e Y1 ⟨v, l1, rfl, hs, hl, hr, hm, hown⟩
  clear OK
  obtain ⟨o1, c1, rfl, -, -, -⟩ := hs.form
  obtain ⟨n1, hn⟩ : ∃ n, n = l1.length := ⟨_, rfl⟩
  rw [← hn] at hs ⊢
  have S2 : St3 w g (rMany rTok 256 (rMany rRf 64 (s, false)).2).2 B 119 #[.pointer (some ⟨g, 0, none⟩)] M 28 #[.slice o0 n0 c0, .slice none 0 0, .slice none 0 0] w.heap.size 28 #[.slice none 0 0, .slice none 0 0, .slice none 0 0] Y1 := HT0.out.moved hr hm
  have d2 : Y1.cell? ⟨B, 0, none⟩ = some (.pointer (some ⟨g, 0, none⟩)) := S2.1.2.2.1.cell 0
  have e1 : Y1.cell? ⟨M, 1, none⟩ = some (.slice none 0 0) := S2.1.2.2.2.1.cell 1
  have f1 : Y1.frozen? ⟨M, 1, none⟩ = false := S2.1.2.2.2.1.free 1
  have gW : g + 1 ≤ X0.heap.size := HT0.out.1.1.lt
  have hs2 := (hs.far (p := ⟨M, 1, none⟩) (hs.ne_blk S2.1.2.2.2.1 (by decide)) (.slice o1 n1 c1)).mono (base' := g + 1) gW
  have hq0 := hm.sl HO0.out.1 (Nat.lt_succ_self g)
  have hq0 := hq0.far (p := ⟨M, 1, none⟩) (hq0.ne_blk S2.1.2.2.2.1 (by decide)) (.slice o1 n1 c1)
  have S3 := S2.put NB NR HN.out.2.1 1 (.slice o1 n1 c1)
  have HT1 := Lib.hid (show St3 w g (rMany rTok 256 (rMany rRf 64 (s, false)).2).2 B 119 #[.pointer (some ⟨g, 0, none⟩)] M 28 #[.slice o0 n0 c0, .slice o1 n1 c1, .slice none 0 0] w.heap.size 28 #[.slice none 0 0, .slice none 0 0, .slice none 0 0] (Y1.setCell ⟨M, 1, none⟩ (.slice o1 n1 c1)) from S3)
  have HL1 := Lib.hid (And.intro hl hn)
  have HO0 := Lib.hid (And.intro hq0 trivial)
  have HO1 := Lib.hid (And.intro hs2 trivial)
  clear hs hl hr hm hown hn S2 S3 gW hs2 hq0 d1
  go_wp2_with fail
  obtain ⟨X1, hX⟩ : ∃ X, X = Y1.setCell ⟨M, 1, none⟩ (.slice o1 n1 c1) := ⟨_, rfl⟩
  rw [← hX] at HT1 HO0 HO1 ⊢
  clear hX
  have OK : OneOk 110 #[.agg #[.pointer (some ⟨g, 0, none⟩)]] #[] aTb (fun x : TbR => x.t) (fun W (x : TbR) => x.Own X1.heap.size W) rTb g X1 :=
    ⟨fun _ _ => rfl, fun s V hm hr => (rd_tomb g s V hr).mono fun e V' h => let ⟨r, h1, h2, h3, h4, h5⟩ := h; ⟨r, h1, h2, h3.mono hm.size, h4, h5⟩⟩
  refine (list_tb g (rMany rTok 256 (rMany rRf 64 (s, false)).2).2 64 _ _ _ rTb X1 HT1.out.1.1 (by decide) (by decide) OK).mono ?_
  rintro e Y2 ⟨v, l2, rfl, hs, hl, hr, hm, hown⟩
  clear OK
  obtain ⟨o2, c2, rfl, -, -, -⟩ := hs.form
  obtain ⟨n2, hn⟩ : ∃ n, n = l2.length := ⟨_, rfl⟩
  rw [← hn] at hs ⊢
  have S2 : St3 w g (rMany rTb 64 (rMany rTok 256 (rMany rRf 64 (s, false)).2).2).2 B 119 #[.pointer (some ⟨g, 0, none⟩)] M 28 #[.slice o0 n0 c0, .slice o1 n1 c1, .slice none 0 0] w.heap.size 28 #[.slice none 0 0, .slice none 0 0, .slice none 0 0] Y2 := HT1.out.moved hr hm
  have d3 : Y2.cell? ⟨B, 0, none⟩ = some (.pointer (some ⟨g, 0, none⟩)) := S2.1.2.2.1.cell 0
  have e2 : Y2.cell? ⟨M, 2, none⟩ = some (.slice none 0 0) := S2.1.2.2.2.1.cell 2
  have f2 : Y2.frozen? ⟨M, 2, none⟩ = false := S2.1.2.2.2.1.free 2
  have gW : g + 1 ≤ X1.heap.size := HT1.out.1.1.lt
  have hs2 := (hs.far (p := ⟨M, 2, none⟩) (hs.ne_blk S2.1.2.2.2.1 (by decide)) (.slice o2 n2 c2)).mono (base' := g + 1) gW
  have hq0 := hm.sl HO0.out.1 (Nat.lt_succ_self g)
  have hq0 := hq0.far (p := ⟨M, 2, none⟩) (hq0.ne_blk S2.1.2.2.2.1 (by decide)) (.slice o2 n2 c2)
  have hq1 := hm.sl HO1.out.1 (Nat.lt_succ_self g)
  have hq1 := hq1.far (p := ⟨M, 2, none⟩) (hq1.ne_blk S2.1.2.2.2.1 (by decide)) (.slice o2 n2 c2)
  have hown := fun z hz => ((hown z hz).far S2.1.2.2.2.1 2 (.slice o2 n2 c2)).mono (base' := g + 1) gW
  have S3 := S2.put NB NR HN.out.2.1 2 (.slice o2 n2 c2)
  have HT2 := Lib.hid (show St3 w g (rMany rTb 64 (rMany rTok 256 (rMany rRf 64 (s, false)).2).2).2 B 119 #[.pointer (some ⟨g, 0, none⟩)] M 28 #[.slice o0 n0 c0, .slice o1 n1 c1, .slice o2 n2 c2] w.heap.size 28 #[.slice none 0 0, .slice none 0 0, .slice none 0 0] (Y2.setCell ⟨M, 2, none⟩ (.slice o2 n2 c2)) from S3)
  have HL2 := Lib.hid (And.intro hl hn)
  have HO0 := Lib.hid (And.intro hq0 trivial)
  have HO1 := Lib.hid (And.intro hq1 trivial)
  have HO2 := Lib.hid (And.intro hs2 hown)
  clear hs hl hr hm hown hn S2 S3 gW hs2 hq0 hq1 d2
  go_wp2_with fail
  obtain ⟨X2, hX⟩ : ∃ X, X = Y2.setCell ⟨M, 2, none⟩ (.slice o2 n2 c2) := ⟨_, rfl⟩
  rw [← hX] at HT2 HO0 HO1 HO2 ⊢
  clear hX
  clear e0 f0 e1 f1 e2 f2
  have hO : MkR.Own (g + 1) X2 ⟨l0, l1, l2, .slice o0 n0 c0, .slice o1 n1 c1, .slice o2 n2 c2⟩ := by
    obtain ⟨-, q0⟩ := HL0.out
    obtain ⟨-, q1⟩ := HL1.out
    obtain ⟨-, q2⟩ := HL2.out
    have p0 := HO0.out.1
    have p1 := HO1.out.1
    have p2 := HO2.out.1
    subst q0 q1 q2
    exact ⟨p0, p1, p2, HO2.out.2⟩
  obtain ⟨sE, hsE⟩ : ∃ sE, sE = (rMany rTb 64 (rMany rTok 256 (rMany rRf 64 (s, false)).2).2).2 := ⟨_, rfl⟩
  have hT := HT2.out
  rw [← hsE] at hT
  obtain ⟨m, hm⟩ : ∃ m : MkR, m = ⟨l0, l1, l2, .slice o0 n0 c0, .slice o1 n1 c1, .slice o2 n2 c2⟩ := ⟨_, rfl⟩
  have hma : aMk m = .agg #[.slice o0 n0 c0, .slice o1 n1 c1, .slice o2 n2 c2] := by rw [hm]; rfl
  have hmk : m.mk_ = (rMk (s, false)).1 := by
    have q0 := HL0.out.1
    have q1 := HL1.out.1
    have q2 := HL2.out.1
    simp only [List.map_id'] at q0 q1
    rw [hm]
    show (⟨l0, l1, l2.map (fun x : TbR => x.t)⟩ : Mks) = ⟨_, _, _⟩
    rw [q0, q1, q2]
  have hmS : m.Small := by
    have q0 := rMany_len rRf 64 (s, false) (by decide)
    have q1 := rMany_len rTok 256 (rMany rRf 64 (s, false)).2 (by decide)
    have q2 := rMany_len rTb 64 (rMany rTok 256 (rMany rRf 64 (s, false)).2).2 (by decide)
    rw [← HL0.out.1, List.length_map] at q0
    rw [← HL1.out.1, List.length_map] at q1
    rw [← HL2.out.1, List.length_map] at q2
    rw [hm]
    refine ⟨by show l0.length ≤ _; omega, by show l1.length ≤ _; omega, by show l2.length ≤ _; omega, fun z hz => ?_⟩
    have hz' : z.t ∈ (rMany rTb 64 (rMany rTok 256 (rMany rRf 64 (s, false)).2).2).1 := by
      rw [← HL2.out.1]
      exact List.mem_map.2 ⟨z, hz, rfl⟩
    exact rList_all (P := fun t : Tb => t.acks.length ≤ 1000000 ∧ t.cov.length ≤ 1000000) rTb_fit _ _ _ hz'
  rw [← hm] at hO
  have HD := Lib.hid (show dec s = if sE.2 = false ∧ sE.1.size = 0 ∧ goodB m.mk_ = true then some m.mk_ else none by rw [hmk, hsE]; rfl)
  have HA := Lib.hid hma
  have HX := Lib.hid (And.intro hO hmS)
  have HT := Lib.hid hT
  have c0_ : X2.cell? ⟨M, 0, none⟩ = some (.slice o0 n0 c0) := hT.1.2.2.2.1.cell 0
  have c1_ : X2.cell? ⟨M, 1, none⟩ = some (.slice o1 n1 c1) := hT.1.2.2.2.1.cell 1
  have c2_ : X2.cell? ⟨M, 2, none⟩ = some (.slice o2 n2 c2) := hT.1.2.2.2.1.cell 2
  clear hO hm hma hmk hmS hT hsE HO0 HO1 HO2 HL0 HL1 HL2 HT0 HT1 HT2 HS
  obtain ⟨r, b⟩ := sE
  refine (rd_whole g r b X2 HT.out.1.1).mono ?_
  rintro e X3 ⟨rfl, rfl⟩
  by_cases hw : b = false ∧ r.size = 0
  · have ew : (!b && decide (r.size = 0)) = true := by simp [hw.1, hw.2]
    rw [ew]
    go_wp2_with fail
    have GD := good_any m X2 HX.out.1.reads HX.out.2.2.2.2
    rw [HA.out] at GD
    obtain ⟨q, hq⟩ : ∃ q, q = goodB m.mk_ := ⟨_, rfl⟩
    rw [← hq] at GD
    have HQ := Lib.hid hq
    clear hq
    refine GD.mono ?_
    rintro e X3 ⟨rfl, hb3⟩
    have hT3 := HT.out
    have kM : BlkIs X3 M 28 #[.slice o0 n0 c0, .slice o1 n1 c1, .slice o2 n2 c2] := BlkIs.below hT3.1.2.2.2.1 hb3 hT3.1.2.2.2.1.lt
    have kR : BlkIs X3 w.heap.size 28 #[.slice none 0 0, .slice none 0 0, .slice none 0 0] := BlkIs.below hT3.2.1 hb3 hT3.2.1.lt
    have bB : Below w.heap.size w X3 := (moved_below hT3.1.2.1 HN.out.1).trans (hb3.mono hT3.1.2.1.size)
    have r0 : X3.cell? ⟨w.heap.size, 0, none⟩ = some (.slice none 0 0) := kR.cell 0
    have r1 : X3.cell? ⟨w.heap.size, 1, none⟩ = some (.slice none 0 0) := kR.cell 1
    have r2 : X3.cell? ⟨w.heap.size, 2, none⟩ = some (.slice none 0 0) := kR.cell 2
    have z0 : X3.frozen? ⟨w.heap.size, 0, none⟩ = false := kR.free 0
    have z1 : X3.frozen? ⟨w.heap.size, 1, none⟩ = false := kR.free 1
    have z2 : X3.frozen? ⟨w.heap.size, 2, none⟩ = false := kR.free 2
    have m0 : X3.cell? ⟨M, 0, none⟩ = some (.slice o0 n0 c0) := kM.cell 0
    have m1 : X3.cell? ⟨M, 1, none⟩ = some (.slice o1 n1 c1) := kM.cell 1
    have m2 : X3.cell? ⟨M, 2, none⟩ = some (.slice o2 n2 c2) := kM.cell 2
    have HO3 := Lib.hid (HX.out.1.later hb3)
    have HBB := Lib.hid bB
    have HKR := Lib.hid kR
    clear GD hT3 kM kR bB hb3 c0_ c1_ c2_
    cases q
    · go_wp2_with fail
      refine bodyPost_ret (v := .tuple #[.agg #[.slice none 0 0, .slice none 0 0, .slice none 0 0], .int .i64 4]) (by simp [results, Tryz.results53, go_sem, r0, r1, r2]) rfl
        ⟨MkR.none_, 4, rfl, MkR.none_own _ _, MkR.none_small, ((HBB.out.setCell (p := ⟨w.heap.size, 0, none⟩) (Nat.le_refl _) _).setCell (p := ⟨w.heap.size, 1, none⟩) (Nat.le_refl _) _).setCell (p := ⟨w.heap.size, 2, none⟩) (Nat.le_refl _) _, .inr ⟨?_, rfl, rfl⟩⟩
      rw [HD.out, if_neg]
      intro h
      rw [← HQ.out] at h
      exact Bool.noConfusion h.2.2
    · go_wp2_with fail
      refine bodyPost_ret (v := .tuple #[.agg #[.slice o0 n0 c0, .slice o1 n1 c1, .slice o2 n2 c2], .int .i64 0]) (by simp [results, Tryz.results53, go_sem, r0, r1, r2]) rfl
        ⟨m, 0, by rw [HA.out], ?_, HX.out.2, ((HBB.out.setCell (p := ⟨w.heap.size, 0, none⟩) (Nat.le_refl _) _).setCell (p := ⟨w.heap.size, 1, none⟩) (Nat.le_refl _) _).setCell (p := ⟨w.heap.size, 2, none⟩) (Nat.le_refl _) _, .inl ⟨?_, rfl⟩⟩
      · exact (((HO3.out.far HKR.out 0 _).far (HKR.out.put 0 _) 1 _).far ((HKR.out.put 0 _).put 1 _) 2 _).mono (by have := HN.out; omega)
      · rw [HD.out, if_pos ⟨hw.1, hw.2, HQ.out.symm⟩]
  · have ew : (!b && decide (r.size = 0)) = false := by
      cases b
      · simpa using fun h => hw ⟨rfl, h⟩
      · rfl
    rw [ew]
    have kR : BlkIs X2 w.heap.size 28 #[.slice none 0 0, .slice none 0 0, .slice none 0 0] := HT.out.2.1
    have bB : Below w.heap.size w X2 := moved_below HT.out.1.2.1 HN.out.1
    have r0 : X2.cell? ⟨w.heap.size, 0, none⟩ = some (.slice none 0 0) := kR.cell 0
    have r1 : X2.cell? ⟨w.heap.size, 1, none⟩ = some (.slice none 0 0) := kR.cell 1
    have r2 : X2.cell? ⟨w.heap.size, 2, none⟩ = some (.slice none 0 0) := kR.cell 2
    have z0 : X2.frozen? ⟨w.heap.size, 0, none⟩ = false := kR.free 0
    have z1 : X2.frozen? ⟨w.heap.size, 1, none⟩ = false := kR.free 1
    have z2 : X2.frozen? ⟨w.heap.size, 2, none⟩ = false := kR.free 2
    have HBB := Lib.hid bB
    have HKR := Lib.hid kR
    have HWN := Lib.hid hw
    clear kR bB hw
    go_wp2_with fail
    refine bodyPost_ret (v := .tuple #[.agg #[.slice none 0 0, .slice none 0 0, .slice none 0 0], .int .i64 4]) (by simp [results, Tryz.results53, go_sem, r0, r1, r2]) rfl
      ⟨MkR.none_, 4, rfl, MkR.none_own _ _, MkR.none_small, ((HBB.out.setCell (p := ⟨w.heap.size, 0, none⟩) (Nat.le_refl _) _).setCell (p := ⟨w.heap.size, 1, none⟩) (Nat.le_refl _) _).setCell (p := ⟨w.heap.size, 2, none⟩) (Nat.le_refl _) _, .inr ⟨?_, rfl, rfl⟩⟩
    rw [HD.out, if_neg]
    intro h
    exact HWN.out ⟨h.1, h.2.1⟩
theorem decode_any (s : ByteArray) (w : World) : Calls Tryz.prog 53 #[.string s] w fun e w' => DecOut s w e w' := (decode_own s w).mono fun _ _ h => h.out
end Go.Proofs.YtljenganlknhbaaGreat.Mk

