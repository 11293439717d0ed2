/- mark.goodThing, isAhead, thing, goodRef and the closures of Good and goodTomb, walked. (Layer 12.) -/
import Derived.Test.YtbmknmjcoeinkaaGreatMk3
import Derived.Test.YtbmknmjcoeinkaaGreatPath
namespace Go.Proofs.YtbmknmjcoeinkaaGreat.Mk
set_option linter.unusedVariables false
open Go.RowKit
theorem ret_b {a b : Bool} (h : a = b) : Ending.returned (.bool a) = .returned (.bool b) := by rw [h]
theorem goodThing_any (x : Tok) (w : World) : Calls Tryz.prog 97 #[.agg #[.int .i64 x.node, .int .i64 x.n, .string x.id]] w fun e w' => e = .returned (.bool (thingB x)) ∧ Below w.heap.size w w' := by
  obtain ⟨a0, a1, a2⟩ := x
  dsimp only
  have HB := Lib.hid ((Below.refl w.heap.size w).alloc (Nat.le_refl _) (.cells #[.int .i64 a0, .int .i64 a1, .string a2] 45))
  have HT := Lib.hid (show thingB ⟨a0, a1, a2⟩ = decide (1 ≤ a0 ∧ a0 ≤ 7 ∧ 1 ≤ a1 ∧ a1 ≤ 1073741824 ∧ a2.size = 32) from rfl)
  go_enter Tryz.func97, Tryz.ntmps97
  go_wp2_with (go_at_call 92; refine (Path.ident_good _ _).mono ?_; rintro e w' ⟨rfl, rfl⟩)
  all_goals
    go_ret
    refine ⟨?_, HB.out⟩
    rw [HT.out]
    refine ret_b ?_
    first
      | (rw [Bool.eq_iff_iff]; simp only [beq_iff_eq, decide_eq_true_eq]; omega)
      | (symm; rw [decide_eq_false_iff_not]; omega)
theorem isAhead_any (x y : Tok) (w : World) : Calls Tryz.prog 49 #[.agg #[.int .i64 x.node, .int .i64 x.n, .string x.id], .agg #[.int .i64 y.node, .int .i64 y.n, .string y.id]] w fun e w' => e = .returned (.bool (aheadB x y)) ∧ Below w.heap.size w w' := by
  obtain ⟨a0, a1, a2⟩ := x
  obtain ⟨b0, b1, b2⟩ := y
  dsimp only
  have HB := Lib.hid (((Below.refl w.heap.size w).alloc (Nat.le_refl _) (.cells #[.int .i64 a0, .int .i64 a1, .string a2] 45)).alloc (by simp) (.cells #[.int .i64 b0, .int .i64 b1, .string b2] 45))
  have HT := Lib.hid (show aheadB ⟨a0, a1, a2⟩ ⟨b0, b1, b2⟩ = decide (a0 < b0 ∨ a0 = b0 ∧ a1 < b1) from rfl)
  go_enter Tryz.func49, Tryz.ntmps49
  rcases Int.lt_trichotomy a0 b0 with h | h | h
  · go_wp2_with fail
    go_ret
    exact ⟨ret_b (by rw [HT.out]; simp [h]), HB.out⟩
  · subst h
    have e0 : ((a0 : Int) == a0) = true := by simp
    have e1 : decide (a0 < a0) = false := by simp
    go_wp2_with fail
    go_ret
    refine ⟨ret_b ?_, HB.out⟩
    rw [HT.out]
    simp
  · have e0 : ((a0 : Int) == b0) = false := by rw [beq_eq_false_iff_ne]; omega
    have e1 : decide (a0 < b0) = false := by simp; omega
    go_wp2_with fail
    go_ret
    refine ⟨ret_b ?_, HB.out⟩
    rw [HT.out]
    symm
    rw [decide_eq_false_iff_not]
    omega
theorem thing_any (x : TbR) (w : World) : Calls Tryz.prog 50 #[aTb x] w fun e w' => e = .returned (aTok (thingOf x.t)) ∧ Below w.heap.size w w' := by
  obtain ⟨⟨a0, a1, a2, a5, a6⟩, a3, a4⟩ := x
  show Calls Tryz.prog 50 #[.agg #[.int .i64 a0, .int .i64 a1, .string a2, a3, a4]] w fun e w' => e = .returned (.agg #[.int .i64 a0, .int .i64 a1, .string a2]) ∧ Below w.heap.size w w'
  go_enter Tryz.func50, Tryz.ntmps50
  go_wp2_with fail
  exact bodyPost_ret (v := .agg #[.int .i64 a0, .int .i64 a1, .string a2]) (by simp [results, Tryz.results50, go_sem]) rfl ⟨rfl, ((Below.refl _ _).alloc (Nat.le_refl _) _).alloc (by simp) _⟩
theorem less_name (a b : ByteArray) : Op.bytesLess a.toList b.toList = decide (a.data.toList < b.data.toList) := by
  rw [Go.Proofs.bytesLess_eq, ByteArray.toList_eq, ByteArray.toList_eq]
theorem names_any (x y : Rf) (w : World) : Calls Tryz.prog 47 #[.agg #[.string x.name, .string x.id, .int .i64 x.h], .agg #[.string y.name, .string y.id, .int .i64 y.h]] w fun e w' => e = .returned (.bool (nameLt x y)) ∧ Below w.heap.size w w' := by
  obtain ⟨a0, a1, a2⟩ := x
  obtain ⟨b0, b1, b2⟩ := y
  dsimp only
  have HB := Lib.hid (((Below.refl w.heap.size w).alloc (Nat.le_refl _) (.cells #[.string a0, .string a1, .int .i64 a2] 49)).alloc (by simp) (.cells #[.string b0, .string b1, .int .i64 b2] 49))
  have hl := less_name a0 b0
  have HT := Lib.hid (show nameLt ⟨a0, a1, a2⟩ ⟨b0, b1, b2⟩ = Op.bytesLess a0.toList b0.toList from hl.symm)
  clear hl
  go_enter Tryz.func47, Tryz.ntmps47
  go_wp2_with fail
  go_ret
  exact ⟨ret_b HT.out.symm, HB.out⟩
theorem tombs_any (x y : TbR) (w : World) : Calls Tryz.prog 48 #[aTb x, aTb y] w fun e w' => e = .returned (.bool (tombLt x.t y.t)) ∧ Below w.heap.size w w' := by
  have T1 := Lib.hid (fun w => thing_any x w)
  have T2 := Lib.hid (fun w => thing_any y w)
  have T3 := Lib.hid (fun w => isAhead_any (thingOf x.t) (thingOf y.t) w)
  have HT := Lib.hid (show tombLt x.t y.t = aheadB (thingOf x.t) (thingOf y.t) from rfl)
  obtain ⟨q, hq⟩ : ∃ q, q = aheadB (thingOf x.t) (thingOf y.t) := ⟨_, rfl⟩
  obtain ⟨⟨a0, a1, a2, a5, a6⟩, a3, a4⟩ := x
  obtain ⟨⟨b0, b1, b2, b5, b6⟩, b3, b4⟩ := y
  have U1 := Lib.hid (show ∀ w, Calls Tryz.prog 50 #[.agg #[.int .i64 a0, .int .i64 a1, .string a2, a3, a4]] w fun e w' => e = .returned (.agg #[.int .i64 a0, .int .i64 a1, .string a2]) ∧ Below w.heap.size w w' from T1.out)
  have U2 := Lib.hid (show ∀ w, Calls Tryz.prog 50 #[.agg #[.int .i64 b0, .int .i64 b1, .string b2, b3, b4]] w fun e w' => e = .returned (.agg #[.int .i64 b0, .int .i64 b1, .string b2]) ∧ Below w.heap.size w w' from T2.out)
  have U3 := Lib.hid (show ∀ w, Calls Tryz.prog 49 #[.agg #[.int .i64 a0, .int .i64 a1, .string a2], .agg #[.int .i64 b0, .int .i64 b1, .string b2]] w fun e w' => e = .returned (.bool q) ∧ Below w.heap.size w w' from by rw [hq]; exact T3.out)
  rw [HT.out, ← hq]
  show Calls Tryz.prog 48 #[.agg #[.int .i64 a0, .int .i64 a1, .string a2, a3, a4], .agg #[.int .i64 b0, .int .i64 b1, .string b2, b3, b4]] w fun e w' => e = .returned (.bool q) ∧ Below w.heap.size w w'
  clear T1 T2 T3 HT hq
  obtain ⟨W1, hW1⟩ : ∃ W1, W1 = (w.alloc (.cells #[.int .i64 a0, .int .i64 a1, .string a2, a3, a4] 43)).alloc (.cells #[.int .i64 b0, .int .i64 b1, .string b2, b3, b4] 43) := ⟨_, rfl⟩
  have hb1 : Below w.heap.size w W1 := by rw [hW1]; exact ((Below.refl _ _).alloc (Nat.le_refl _) _).alloc (by simp) _
  have k1 : BlkIs W1 w.heap.size 43 #[.int .i64 a0, .int .i64 a1, .string a2, a3, a4] := by rw [hW1]; exact (BlkIs.new _ _ _).alloc _
  have k2 : BlkIs W1 (w.heap.size + 1) 43 #[.int .i64 b0, .int .i64 b1, .string b2, b3, b4] := by rw [hW1]; exact BlkIs.new2 _ _ _ _
  have HW := Lib.hid hW1
  have HB := Lib.hid hb1
  have x0 : ∀ X : LaterOf W1, X.w.cell? ⟨w.heap.size, 0, none⟩ = some (.int .i64 a0) := fun X => (X.blk k1).cell 0
  have x1 : ∀ X : LaterOf W1, X.w.cell? ⟨w.heap.size, 1, none⟩ = some (.int .i64 a1) := fun X => (X.blk k1).cell 1
  have x2 : ∀ X : LaterOf W1, X.w.cell? ⟨w.heap.size, 2, none⟩ = some (.string a2) := fun X => (X.blk k1).cell 2
  have x3 : ∀ X : LaterOf W1, X.w.cell? ⟨w.heap.size, 3, none⟩ = some a3 := fun X => (X.blk k1).cell 3
  have x4 : ∀ X : LaterOf W1, X.w.cell? ⟨w.heap.size, 4, none⟩ = some a4 := fun X => (X.blk k1).cell 4
  have y0 : ∀ X : LaterOf W1, X.w.cell? ⟨w.heap.size + 1, 0, none⟩ = some (.int .i64 b0) := fun X => (X.blk k2).cell 0
  have y1 : ∀ X : LaterOf W1, X.w.cell? ⟨w.heap.size + 1, 1, none⟩ = some (.int .i64 b1) := fun X => (X.blk k2).cell 1
  have y2 : ∀ X : LaterOf W1, X.w.cell? ⟨w.heap.size + 1, 2, none⟩ = some (.string b2) := fun X => (X.blk k2).cell 2
  have y3 : ∀ X : LaterOf W1, X.w.cell? ⟨w.heap.size + 1, 3, none⟩ = some b3 := fun X => (X.blk k2).cell 3
  have y4 : ∀ X : LaterOf W1, X.w.cell? ⟨w.heap.size + 1, 4, none⟩ = some b4 := fun X => (X.blk k2).cell 4
  clear hW1 hb1 k1 k2
  go_enter Tryz.func48, Tryz.ntmps48
  go_wp2_with fail
  rw [← HW.out]
  refine wp_region_all (fun w' => ∃ x : LaterOf W1, w' = x.w) (by kernel_rfl) (by kernel_rfl) ⟨LaterOf.start W1, rfl⟩ ?_
  repeat (go_big_quiet_step (first | with_reducible exact LaterOf.call _ (U1.out _) | with_reducible exact LaterOf.call _ (U2.out _) | with_reducible exact LaterOf.call _ (U3.out _)))
  refine wpQuiet_nil ?_
  intro w3 hw3
  obtain ⟨X, rfl⟩ := hw3
  have H3 := Lib.hid (HB.out.trans (X.h.mono HB.out.size))
  obtain ⟨w3, hx3⟩ := X
  clear x0 x1 x2 x3 x4 y0 y1 y2 y3 y4
  go_wp2_with fail
  go_ret
  exact ⟨rfl, H3.out⟩
theorem goodRef_any (x : Rf) (w : World) : Calls Tryz.prog 52 #[.agg #[.string x.name, .string x.id, .int .i64 x.h]] w fun e w' => e = .returned (.bool (refB x)) ∧ Below w.heap.size w w' := by
  obtain ⟨a0, a1, a2⟩ := x
  dsimp only
  have HB := Lib.hid ((Below.refl w.heap.size w).alloc (Nat.le_refl _) (.cells #[.string a0, .string a1, .int .i64 a2] 49))
  have P := Lib.hid (fun w => Path.path_good a0 w)
  have HT := Lib.hid (show refB ⟨a0, a1, a2⟩ = (Path.nameOk a0 && decide (a1.size = 32 ∧ 0 ≤ a2 ∧ a2 ≤ 1073741824)) from rfl)
  obtain ⟨q, hq⟩ : ∃ q, q = Path.nameOk a0 := ⟨_, rfl⟩
  rw [← hq] at P HT
  clear hq
  go_enter Tryz.func52, Tryz.ntmps52
  cases q
  · go_wp2_with (go_at_call 91; refine (P.out _).mono ?_; rintro e w' ⟨rfl, rfl⟩)
    go_ret
    exact ⟨ret_b (by rw [HT.out]; rfl), HB.out⟩
  · go_wp2_with (first | (go_at_call 91; refine (P.out _).mono ?_; rintro e w' ⟨rfl, rfl⟩) | (go_at_call 92; refine (Path.ident_good _ _).mono ?_; rintro e w' ⟨rfl, rfl⟩))
    all_goals
      go_ret
      refine ⟨?_, HB.out⟩
      rw [HT.out]
      refine ret_b ?_
      rw [Bool.true_and]
      first
        | (rw [Bool.eq_iff_iff]; simp only [decide_eq_true_eq]; omega)
        | (symm; rw [decide_eq_false_iff_not]; omega)
theorem same_any (t : TbR) (x : Tok) (B : Nat) (W : World) (hB : B < W.heap.size) (hc : W.cell? ⟨B, 2, none⟩ = some (.string t.t.id)) :
    Calls Tryz.prog 94 #[.agg #[.int .i64 x.node, .int .i64 x.n, .string x.id], .pointer (some ⟨B, 0, none⟩)] W fun e w' => e = .returned (.bool (sameId t.t x)) ∧ Below W.heap.size W w' := by
  obtain ⟨a0, a1, a2⟩ := x
  dsimp only
  have HB := Lib.hid ((Below.refl W.heap.size W).alloc (Nat.le_refl _) (.cells #[.int .i64 a0, .int .i64 a1, .string a2] 45))
  have HT := Lib.hid (show sameId t.t ⟨a0, a1, a2⟩ = (a2.toList == t.t.id.toList) from rfl)
  obtain ⟨i, hi⟩ : ∃ i, i = t.t.id := ⟨_, rfl⟩
  rw [← hi] at hc HT
  clear hi
  go_enter Tryz.func94, Tryz.ntmps94
  go_wp2_with fail
  go_ret
  exact ⟨ret_b HT.out.symm, HB.out⟩
theorem isNode_any (n : Int) (W : World) : Calls Tryz.prog 95 #[.int .i64 n] W fun e w' => e = .returned (.bool (isNodeB n)) ∧ Below W.heap.size W w' := by
  have HT := Lib.hid (show isNodeB n = decide (1 ≤ n ∧ n ≤ 7) from rfl)
  go_enter Tryz.func95, Tryz.ntmps95
  go_wp2_with fail
  all_goals
    go_ret
    refine ⟨ret_b ?_, Below.refl _ _⟩
    rw [HT.out]
    first
      | (rw [Bool.eq_iff_iff]; simp only [decide_eq_true_eq]; omega)
      | (symm; rw [decide_eq_false_iff_not]; omega)
theorem less_any (a b : Int) (W : World) : Calls Tryz.prog 96 #[.int .i64 a, .int .i64 b] W fun e w' => e = .returned (.bool (ltB a b)) ∧ Below W.heap.size W w' := by
  have HT := Lib.hid (show ltB a b = decide (a < b) from rfl)
  go_enter Tryz.func96, Tryz.ntmps96
  go_wp2_with fail
  go_ret
  exact ⟨ret_b (by rw [HT.out]), Below.refl _ _⟩
end Go.Proofs.YtbmknmjcoeinkaaGreat.Mk
