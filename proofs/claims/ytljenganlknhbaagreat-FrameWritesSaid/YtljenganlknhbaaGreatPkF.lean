/- Several texts in one. (Layer 19.) -/
import Derived.Test.YtljenganlknhbaaGreatMk3
import Derived.Test.YtljenganlknhbaaGreatPath
import Derived.Sort.Walk0
/- mark.goodThing, isAhead, thing, goodRef and the closures of Good and goodTomb, walked. (Layer 12.) -/
namespace Go.Proofs.YtljenganlknhbaaGreat.Mk
set_option linter.unusedVariables false
open Go.RowKit
theorem ret_b {a b : Bool} (h : a = b) : Ending.returned (.bool a) = .returned (.bool b) := by rw [h]
theorem goodThing_any (x : Tok) (w : World) : Calls Tryz.prog 136 #[.agg #[.int .i64 x.node, .int .i64 x.n, .string x.id]] w fun e w' => e = .returned (.bool (thingB x)) ∧ Below w.heap.size w w' := by
  obtain ⟨a0, a1, a2⟩ := x
  dsimp only
  have HB := Lib.hid ((Below.refl w.heap.size w).alloc (Nat.le_refl _) (.cells #[.int .i64 a0, .int .i64 a1, .string a2] 102))
  have HT := Lib.hid (show thingB ⟨a0, a1, a2⟩ = decide (1 ≤ a0 ∧ a0 ≤ 7 ∧ 1 ≤ a1 ∧ a1 ≤ 1073741824 ∧ a2.size = 32) from rfl)
  go_enter Tryz.func136, Tryz.ntmps136
  go_wp2_with (go_at_call 79; refine (Path.ident_good _ _).mono ?_; rintro e w' ⟨rfl, rfl⟩)
  all_goals
    go_ret
    refine ⟨?_, HB.out⟩
    rw [HT.out]
    refine ret_b ?_
    first
      | (rw [Bool.eq_iff_iff]; simp only [beq_iff_eq, decide_eq_true_eq]; omega)
      | (symm; rw [decide_eq_false_iff_not]; omega)
theorem isAhead_any (x y : Tok) (w : World) : Calls Tryz.prog 88 #[.agg #[.int .i64 x.node, .int .i64 x.n, .string x.id], .agg #[.int .i64 y.node, .int .i64 y.n, .string y.id]] w fun e w' => e = .returned (.bool (aheadB x y)) ∧ Below w.heap.size w w' := by
  obtain ⟨a0, a1, a2⟩ := x
  obtain ⟨b0, b1, b2⟩ := y
  dsimp only
  have HB := Lib.hid (((Below.refl w.heap.size w).alloc (Nat.le_refl _) (.cells #[.int .i64 a0, .int .i64 a1, .string a2] 102)).alloc (by simp) (.cells #[.int .i64 b0, .int .i64 b1, .string b2] 102))
  have HT := Lib.hid (show aheadB ⟨a0, a1, a2⟩ ⟨b0, b1, b2⟩ = decide (a0 < b0 ∨ a0 = b0 ∧ a1 < b1) from rfl)
  go_enter Tryz.func88, Tryz.ntmps88
  rcases Int.lt_trichotomy a0 b0 with h | h | h
  · go_wp2_with fail
    go_ret
    exact ⟨ret_b (by rw [HT.out]; simp [h]), HB.out⟩
  · subst h
    have e0 : ((a0 : Int) == a0) = true := by simp
    have e1 : decide (a0 < a0) = false := by simp
    go_wp2_with fail
    go_ret
    refine ⟨ret_b ?_, HB.out⟩
    rw [HT.out]
    simp
  · have e0 : ((a0 : Int) == b0) = false := by rw [beq_eq_false_iff_ne]; omega
    have e1 : decide (a0 < b0) = false := by simp; omega
    go_wp2_with fail
    go_ret
    refine ⟨ret_b ?_, HB.out⟩
    rw [HT.out]
    symm
    rw [decide_eq_false_iff_not]
    omega
theorem thing_any (x : TbR) (w : World) : Calls Tryz.prog 89 #[aTb x] w fun e w' => e = .returned (aTok (thingOf x.t)) ∧ Below w.heap.size w w' := by
  obtain ⟨⟨a0, a1, a2, a5, a6⟩, a3, a4⟩ := x
  show Calls Tryz.prog 89 #[.agg #[.int .i64 a0, .int .i64 a1, .string a2, a3, a4]] w fun e w' => e = .returned (.agg #[.int .i64 a0, .int .i64 a1, .string a2]) ∧ Below w.heap.size w w'
  go_enter Tryz.func89, Tryz.ntmps89
  go_wp2_with fail
  exact bodyPost_ret (v := .agg #[.int .i64 a0, .int .i64 a1, .string a2]) (by simp [results, Tryz.results89, go_sem]) rfl ⟨rfl, ((Below.refl _ _).alloc (Nat.le_refl _) _).alloc (by simp) _⟩
theorem less_name (a b : ByteArray) : Op.bytesLess a.toList b.toList = decide (a.data.toList < b.data.toList) := by
  rw [Go.Proofs.bytesLess_eq, ByteArray.toList_eq, ByteArray.toList_eq]
theorem names_any (x y : Rf) (w : World) : Calls Tryz.prog 86 #[.agg #[.string x.name, .string x.id, .int .i64 x.h], .agg #[.string y.name, .string y.id, .int .i64 y.h]] w fun e w' => e = .returned (.bool (nameLt x y)) ∧ Below w.heap.size w w' := by
  obtain ⟨a0, a1, a2⟩ := x
  obtain ⟨b0, b1, b2⟩ := y
  dsimp only
  have HB := Lib.hid (((Below.refl w.heap.size w).alloc (Nat.le_refl _) (.cells #[.string a0, .string a1, .int .i64 a2] 51)).alloc (by simp) (.cells #[.string b0, .string b1, .int .i64 b2] 51))
  have hl := less_name a0 b0
  have HT := Lib.hid (show nameLt ⟨a0, a1, a2⟩ ⟨b0, b1, b2⟩ = Op.bytesLess a0.toList b0.toList from hl.symm)
  clear hl
  go_enter Tryz.func86, Tryz.ntmps86
  go_wp2_with fail
  go_ret
  exact ⟨ret_b HT.out.symm, HB.out⟩
theorem tombs_any (x y : TbR) (w : World) : Calls Tryz.prog 87 #[aTb x, aTb y] w fun e w' => e = .returned (.bool (tombLt x.t y.t)) ∧ Below w.heap.size w w' := by
  have T1 := Lib.hid (fun w => thing_any x w)
  have T2 := Lib.hid (fun w => thing_any y w)
  have T3 := Lib.hid (fun w => isAhead_any (thingOf x.t) (thingOf y.t) w)
  have HT := Lib.hid (show tombLt x.t y.t = aheadB (thingOf x.t) (thingOf y.t) from rfl)
  obtain ⟨q, hq⟩ : ∃ q, q = aheadB (thingOf x.t) (thingOf y.t) := ⟨_, rfl⟩
  obtain ⟨⟨a0, a1, a2, a5, a6⟩, a3, a4⟩ := x
  obtain ⟨⟨b0, b1, b2, b5, b6⟩, b3, b4⟩ := y
  have U1 := Lib.hid (show ∀ w, Calls Tryz.prog 89 #[.agg #[.int .i64 a0, .int .i64 a1, .string a2, a3, a4]] w fun e w' => e = .returned (.agg #[.int .i64 a0, .int .i64 a1, .string a2]) ∧ Below w.heap.size w w' from T1.out)
  have U2 := Lib.hid (show ∀ w, Calls Tryz.prog 89 #[.agg #[.int .i64 b0, .int .i64 b1, .string b2, b3, b4]] w fun e w' => e = .returned (.agg #[.int .i64 b0, .int .i64 b1, .string b2]) ∧ Below w.heap.size w w' from T2.out)
  have U3 := Lib.hid (show ∀ w, Calls Tryz.prog 88 #[.agg #[.int .i64 a0, .int .i64 a1, .string a2], .agg #[.int .i64 b0, .int .i64 b1, .string b2]] w fun e w' => e = .returned (.bool q) ∧ Below w.heap.size w w' from by rw [hq]; exact T3.out)
  rw [HT.out, ← hq]
  show Calls Tryz.prog 87 #[.agg #[.int .i64 a0, .int .i64 a1, .string a2, a3, a4], .agg #[.int .i64 b0, .int .i64 b1, .string b2, b3, b4]] w fun e w' => e = .returned (.bool q) ∧ Below w.heap.size w w'
  clear T1 T2 T3 HT hq
  obtain ⟨W1, hW1⟩ : ∃ W1, W1 = (w.alloc (.cells #[.int .i64 a0, .int .i64 a1, .string a2, a3, a4] 54)).alloc (.cells #[.int .i64 b0, .int .i64 b1, .string b2, b3, b4] 54) := ⟨_, rfl⟩
  have hb1 : Below w.heap.size w W1 := by rw [hW1]; exact ((Below.refl _ _).alloc (Nat.le_refl _) _).alloc (by simp) _
  have k1 : BlkIs W1 w.heap.size 54 #[.int .i64 a0, .int .i64 a1, .string a2, a3, a4] := by rw [hW1]; exact (BlkIs.new _ _ _).alloc _
  have k2 : BlkIs W1 (w.heap.size + 1) 54 #[.int .i64 b0, .int .i64 b1, .string b2, b3, b4] := by rw [hW1]; exact BlkIs.new2 _ _ _ _
  have HW := Lib.hid hW1
  have HB := Lib.hid hb1
  have x0 : ∀ X : LaterOf W1, X.w.cell? ⟨w.heap.size, 0, none⟩ = some (.int .i64 a0) := fun X => (X.blk k1).cell 0
  have x1 : ∀ X : LaterOf W1, X.w.cell? ⟨w.heap.size, 1, none⟩ = some (.int .i64 a1) := fun X => (X.blk k1).cell 1
  have x2 : ∀ X : LaterOf W1, X.w.cell? ⟨w.heap.size, 2, none⟩ = some (.string a2) := fun X => (X.blk k1).cell 2
  have x3 : ∀ X : LaterOf W1, X.w.cell? ⟨w.heap.size, 3, none⟩ = some a3 := fun X => (X.blk k1).cell 3
  have x4 : ∀ X : LaterOf W1, X.w.cell? ⟨w.heap.size, 4, none⟩ = some a4 := fun X => (X.blk k1).cell 4
  have y0 : ∀ X : LaterOf W1, X.w.cell? ⟨w.heap.size + 1, 0, none⟩ = some (.int .i64 b0) := fun X => (X.blk k2).cell 0
  have y1 : ∀ X : LaterOf W1, X.w.cell? ⟨w.heap.size + 1, 1, none⟩ = some (.int .i64 b1) := fun X => (X.blk k2).cell 1
  have y2 : ∀ X : LaterOf W1, X.w.cell? ⟨w.heap.size + 1, 2, none⟩ = some (.string b2) := fun X => (X.blk k2).cell 2
  have y3 : ∀ X : LaterOf W1, X.w.cell? ⟨w.heap.size + 1, 3, none⟩ = some b3 := fun X => (X.blk k2).cell 3
  have y4 : ∀ X : LaterOf W1, X.w.cell? ⟨w.heap.size + 1, 4, none⟩ = some b4 := fun X => (X.blk k2).cell 4
  clear hW1 hb1 k1 k2
  go_enter Tryz.func87, Tryz.ntmps87
  go_wp2_with fail
  rw [← HW.out]
  refine wp_region_all (fun w' => ∃ x : LaterOf W1, w' = x.w) (by kernel_rfl) (by kernel_rfl) ⟨LaterOf.start W1, rfl⟩ ?_
  repeat (go_big_quiet_step (first | with_reducible exact LaterOf.call _ (U1.out _) | with_reducible exact LaterOf.call _ (U2.out _) | with_reducible exact LaterOf.call _ (U3.out _)))
  refine wpQuiet_nil ?_
  intro w3 hw3
  obtain ⟨X, rfl⟩ := hw3
  have H3 := Lib.hid (HB.out.trans (X.h.mono HB.out.size))
  obtain ⟨w3, hx3⟩ := X
  clear x0 x1 x2 x3 x4 y0 y1 y2 y3 y4
  go_wp2_with fail
  go_ret
  exact ⟨rfl, H3.out⟩
theorem goodRef_any (x : Rf) (w : World) : Calls Tryz.prog 91 #[.agg #[.string x.name, .string x.id, .int .i64 x.h]] w fun e w' => e = .returned (.bool (refB x)) ∧ Below w.heap.size w w' := by
  obtain ⟨a0, a1, a2⟩ := x
  dsimp only
  have HB := Lib.hid ((Below.refl w.heap.size w).alloc (Nat.le_refl _) (.cells #[.string a0, .string a1, .int .i64 a2] 51))
  have P := Lib.hid (fun w => Path.path_good a0 w)
  have HT := Lib.hid (show refB ⟨a0, a1, a2⟩ = (Path.nameOk a0 && decide (a1.size = 32 ∧ 0 ≤ a2 ∧ a2 ≤ 1073741824)) from rfl)
  obtain ⟨q, hq⟩ : ∃ q, q = Path.nameOk a0 := ⟨_, rfl⟩
  rw [← hq] at P HT
  clear hq
  go_enter Tryz.func91, Tryz.ntmps91
  cases q
  · go_wp2_with (go_at_call 130; refine (P.out _).mono ?_; rintro e w' ⟨rfl, rfl⟩)
    go_ret
    exact ⟨ret_b (by rw [HT.out]; rfl), HB.out⟩
  · go_wp2_with (first | (go_at_call 130; refine (P.out _).mono ?_; rintro e w' ⟨rfl, rfl⟩) | (go_at_call 79; refine (Path.ident_good _ _).mono ?_; rintro e w' ⟨rfl, rfl⟩))
    all_goals
      go_ret
      refine ⟨?_, HB.out⟩
      rw [HT.out]
      refine ret_b ?_
      rw [Bool.true_and]
      first
        | (rw [Bool.eq_iff_iff]; simp only [decide_eq_true_eq]; omega)
        | (symm; rw [decide_eq_false_iff_not]; omega)
theorem same_any (t : TbR) (x : Tok) (B : Nat) (W : World) (hB : B < W.heap.size) (hc : W.cell? ⟨B, 2, none⟩ = some (.string t.t.id)) :
    Calls Tryz.prog 133 #[.agg #[.int .i64 x.node, .int .i64 x.n, .string x.id], .pointer (some ⟨B, 0, none⟩)] W fun e w' => e = .returned (.bool (sameId t.t x)) ∧ Below W.heap.size W w' := by
  obtain ⟨a0, a1, a2⟩ := x
  dsimp only
  have HB := Lib.hid ((Below.refl W.heap.size W).alloc (Nat.le_refl _) (.cells #[.int .i64 a0, .int .i64 a1, .string a2] 102))
  have HT := Lib.hid (show sameId t.t ⟨a0, a1, a2⟩ = (a2.toList == t.t.id.toList) from rfl)
  obtain ⟨i, hi⟩ : ∃ i, i = t.t.id := ⟨_, rfl⟩
  rw [← hi] at hc HT
  clear hi
  go_enter Tryz.func133, Tryz.ntmps133
  go_wp2_with fail
  go_ret
  exact ⟨ret_b HT.out.symm, HB.out⟩
theorem isNode_any (n : Int) (W : World) : Calls Tryz.prog 134 #[.int .i64 n] W fun e w' => e = .returned (.bool (isNodeB n)) ∧ Below W.heap.size W w' := by
  have HT := Lib.hid (show isNodeB n = decide (1 ≤ n ∧ n ≤ 7) from rfl)
  go_enter Tryz.func134, Tryz.ntmps134
  go_wp2_with fail
  all_goals
    go_ret
    refine ⟨ret_b ?_, Below.refl _ _⟩
    rw [HT.out]
    first
      | (rw [Bool.eq_iff_iff]; simp only [decide_eq_true_eq]; omega)
      | (symm; rw [decide_eq_false_iff_not]; omega)
theorem less_any (a b : Int) (W : World) : Calls Tryz.prog 135 #[.int .i64 a, .int .i64 b] W fun e w' => e = .returned (.bool (ltB a b)) ∧ Below W.heap.size W w' := by
  have HT := Lib.hid (show ltB a b = decide (a < b) from rfl)
  go_enter Tryz.func135, Tryz.ntmps135
  go_wp2_with fail
  go_ret
  exact ⟨ret_b (by rw [HT.out]), Below.refl _ _⟩
end Go.Proofs.YtljenganlknhbaaGreat.Mk

/- mark.goodTokens, goodTomb and Good, walked. At most 1,000,000 things in each list. (Layer 12.) -/
namespace Go.Proofs.YtljenganlknhbaaGreat.Mk
set_option linter.unusedVariables false
open Go.RowKit
theorem goodThing_tells (l : List Tok) (w : World) : Tells 136 #[] aTok thingB l w :=
  ⟨enters_of Tryz.func136 (by kernel_rfl) rfl, fun x _ W _ => goodThing_any x W⟩
theorem isAhead_tells (l : List Tok) (w : World) : Tells2 88 #[] aTok aheadB l w :=
  ⟨enters_of Tryz.func88 (by kernel_rfl) rfl, fun x _ y _ W _ => isAhead_any x y W⟩
theorem goodRef_tells (l : List Rf) (w : World) : Tells 91 #[] aRf refB l w :=
  ⟨enters_of Tryz.func91 (by kernel_rfl) rfl, fun x _ W _ => goodRef_any x W⟩
theorem names_tells (l : List Rf) (w : World) : Tells2 86 #[] aRf nameLt l w :=
  ⟨enters_of Tryz.func86 (by kernel_rfl) rfl, fun x _ y _ W _ => names_any x y W⟩
theorem tombs_tells (l : List TbR) (w : World) : Tells2 87 #[] aTb (fun x y => tombLt x.t y.t) l w :=
  ⟨enters_of Tryz.func87 (by kernel_rfl) rfl, fun x _ y _ W _ => tombs_any x y W⟩
theorem isNode_tells (l : List Int) (w : World) : Tells 134 #[] aInt isNodeB l w :=
  ⟨enters_of Tryz.func134 (by kernel_rfl) rfl, fun x _ W _ => isNode_any x W⟩
theorem less_tells (l : List Int) (w : World) : Tells2 135 #[] aInt ltB l w :=
  ⟨enters_of Tryz.func135 (by kernel_rfl) rfl, fun x _ y _ W _ => less_any x y W⟩
theorem same_tells (t : TbR) (B : Nat) (l : List Tok) (w : World) (hB : B < w.heap.size) (hc : w.cell? ⟨B, 2, none⟩ = some (.string t.t.id)) : Tells 133 #[.pointer (some ⟨B, 0, none⟩)] aTok (sameId t.t) l w :=
  ⟨enters_of Tryz.func133 (by kernel_rfl) rfl, fun x _ W hW => same_any t x B W (Nat.lt_of_lt_of_le hB hW.size) ((hW.cell (p := ⟨B, 2, none⟩) hB).trans hc)⟩
theorem goodTokens_any (v : Value) (l : List Tok) (w : World) (h : RowAt 3 vTok w v l) : Calls Tryz.prog 96 #[v] w fun e w' => e = .returned (.bool (tokensB l)) ∧ Below w.heap.size w w' := by
  have HT := Lib.hid (show tokensB l = (decide (l.length ≤ 256) && l.all thingB && riseB aheadB l) from rfl)
  have H := Lib.hid h
  obtain ⟨ao, cap, rfl, -, -⟩ := h.form
  by_cases d : l.length ≤ 256
  · have A1 := Lib.hid (fun W (hW : Below w.heap.size w W) => all_tok (.slice ao l.length cap) l 136 #[] thingB W (H.out.later hW) (goodThing_tells l W) (by omega))
    have A2 := Lib.hid (fun W (hW : Below w.heap.size w W) => ri_tok (.slice ao l.length cap) l 88 #[] aheadB W (H.out.later hW) (isAhead_tells l W) (by omega))
    rw [decide_eq_true d, Bool.true_and] at HT
    obtain ⟨q1, hq1⟩ : ∃ q, q = l.all thingB := ⟨_, rfl⟩
    obtain ⟨q2, hq2⟩ : ∃ q, q = riseB aheadB l := ⟨_, rfl⟩
    rw [← hq1] at A1 HT
    rw [← hq2] at A2 HT
    obtain ⟨n, hn⟩ : ∃ n, n = l.length := ⟨_, rfl⟩
    rw [← hn] at A1 A2 d ⊢
    have d1 : (n : Int) ≤ 256 := by omega
    clear h hq1 hq2 hn H d
    go_enter Tryz.func96, Tryz.ntmps96
    cases q1
    · go_wp2_with fail
      refine (A1.out _ (Below.refl _ _)).mono ?_
      rintro e w2 ⟨rfl, hb⟩
      have HB := Lib.hid hb
      clear A1 A2 hb
      go_wp2_with fail
      go_ret
      exact ⟨ret_b (by rw [HT.out]; rfl), HB.out⟩
    · go_wp2_with fail
      refine (A1.out _ (Below.refl _ _)).mono ?_
      rintro e w2 ⟨rfl, hb⟩
      have HB := Lib.hid hb
      clear A1 hb
      go_wp2_with fail
      refine (A2.out _ HB.out).mono ?_
      rintro e w3 ⟨rfl, hb⟩
      have HB2 := Lib.hid (HB.out.trans (hb.mono HB.out.size))
      clear A2 hb
      go_wp2_with fail
      go_ret
      exact ⟨ret_b (by rw [HT.out, Bool.true_and]), HB2.out⟩
  · rw [decide_eq_false d] at HT
    obtain ⟨n, hn⟩ : ∃ n, n = l.length := ⟨_, rfl⟩
    rw [← hn] at d ⊢
    have d1 : decide ((n : Int) ≤ 256) = false := decide_eq_false (by omega)
    have d2 : (256 : Int) < n := by omega
    clear h hn H d
    go_enter Tryz.func96, Tryz.ntmps96
    go_wp2_with fail
    go_ret
    exact ⟨ret_b (by rw [HT.out]; rfl), Below.refl _ _⟩
set_option maxRecDepth 100000 in
set_option maxHeartbeats 2000000 in
theorem goodTomb_any (x : TbR) (w : World) (h : x.Reads w) (hn : x.t.acks.length ≤ 1000000) : Calls Tryz.prog 94 #[aTb x] w fun e w' => e = .returned (.bool (tombB x.t)) ∧ Below w.heap.size w w' := by
  have HT := Lib.hid (show tombB x.t = (thingB (thingOf x.t) && tokensB x.t.cov && x.t.cov.all (sameId x.t) && x.t.acks.all isNodeB && riseB ltB x.t.acks) from rfl)
  have H := Lib.hid h
  have hl : tokensB x.t.cov = true → x.t.cov.length ≤ 1000000 := fun h => by have := (tokensB_at h).1; omega
  have C1 := Lib.hid (fun W => thing_any x W)
  have C2 := Lib.hid (fun W => goodThing_any (thingOf x.t) W)
  have C3 := Lib.hid (fun W (hW : Below w.heap.size w W) => goodTokens_any x.cv x.t.cov W (H.out.later hW).1)
  have C4 := Lib.hid (fun hl W (hW : Below w.heap.size w W) (hB : w.heap.size < W.heap.size) (hc : W.cell? ⟨w.heap.size, 2, none⟩ = some (.string x.t.id)) => all_tok x.cv x.t.cov 133 #[.pointer (some ⟨w.heap.size, 0, none⟩)] (sameId x.t) W (H.out.later hW).1 (same_tells x w.heap.size x.t.cov W hB hc) hl)
  have C5 := Lib.hid (fun W (hW : Below w.heap.size w W) => all_int x.av x.t.acks 134 #[] isNodeB W (H.out.later hW).2 (isNode_tells _ W) hn)
  have C6 := Lib.hid (fun W (hW : Below w.heap.size w W) => ri_int x.av x.t.acks 135 #[] ltB W (H.out.later hW).2 (less_tells _ W) hn)
  obtain ⟨q1, hq1⟩ : ∃ q, q = thingB (thingOf x.t) := ⟨_, rfl⟩
  obtain ⟨q2, hq2⟩ : ∃ q, q = tokensB x.t.cov := ⟨_, rfl⟩
  obtain ⟨q3, hq3⟩ : ∃ q, q = x.t.cov.all (sameId x.t) := ⟨_, rfl⟩
  obtain ⟨q4, hq4⟩ : ∃ q, q = x.t.acks.all isNodeB := ⟨_, rfl⟩
  obtain ⟨q5, hq5⟩ : ∃ q, q = riseB ltB x.t.acks := ⟨_, rfl⟩
  rw [← hq1] at C2
  rw [← hq2] at C3 hl
  rw [← hq3] at C4
  rw [← hq4] at C5
  rw [← hq5] at C6
  rw [← hq1, ← hq2, ← hq3, ← hq4, ← hq5] at HT
  have HL := Lib.hid hl
  clear h hq1 hq2 hq3 hq4 hq5 hl hn
  obtain ⟨⟨a0, a1, a2, a5, a6⟩, a3, a4⟩ := x
  have D1 := Lib.hid (show ∀ W, Calls Tryz.prog 89 #[.agg #[.int .i64 a0, .int .i64 a1, .string a2, a3, a4]] W fun e w' => e = .returned (.agg #[.int .i64 a0, .int .i64 a1, .string a2]) ∧ Below W.heap.size W w' from C1.out)
  have D2 := Lib.hid (show ∀ W, Calls Tryz.prog 136 #[.agg #[.int .i64 a0, .int .i64 a1, .string a2]] W fun e w' => e = .returned (.bool q1) ∧ Below W.heap.size W w' from C2.out)
  show Calls Tryz.prog 94 #[.agg #[.int .i64 a0, .int .i64 a1, .string a2, a3, a4]] w fun e w' => e = .returned (.bool (tombB ⟨a0, a1, a2, a5, a6⟩)) ∧ Below w.heap.size w w'
  dsimp only at C3 C4 C5 C6 HT
  rw [HT.out]
  clear C1 C2 H HT
  obtain ⟨W1, hW1⟩ : ∃ W1, W1 = w.alloc (.cells #[.int .i64 a0, .int .i64 a1, .string a2, a3, a4] 54) := ⟨_, rfl⟩
  have hb1 : Below w.heap.size w W1 := by rw [hW1]; exact (Below.refl _ _).alloc (Nat.le_refl _) _
  have k1 : BlkIs W1 w.heap.size 54 #[.int .i64 a0, .int .i64 a1, .string a2, a3, a4] := by rw [hW1]; exact BlkIs.new _ _ _
  have HW := Lib.hid hW1
  have H1 := Lib.hid (And.intro k1 hb1)
  have d0 : W1.cell? ⟨w.heap.size, 0, none⟩ = some (.int .i64 a0) := k1.cell 0
  have d1 : W1.cell? ⟨w.heap.size, 1, none⟩ = some (.int .i64 a1) := k1.cell 1
  have d2 : W1.cell? ⟨w.heap.size, 2, none⟩ = some (.string a2) := k1.cell 2
  have d3 : W1.cell? ⟨w.heap.size, 3, none⟩ = some (a3) := k1.cell 3
  have d4 : W1.cell? ⟨w.heap.size, 4, none⟩ = some (a4) := k1.cell 4
  clear hW1 hb1 k1
  go_enter Tryz.func94, Tryz.ntmps94
  go_wp2_with fail
  rw [← HW.out]
  refine (D1.out W1).mono ?_
  rintro e w2 ⟨rfl, hb⟩
  have H2 := Lib.hid (show BlkIs w2 w.heap.size 54 #[.int .i64 a0, .int .i64 a1, .string a2, a3, a4] ∧ Below w.heap.size w w2 from ⟨H1.out.1.below hb H1.out.1.lt, H1.out.2.trans (hb.mono H1.out.2.size)⟩)
  clear D1 hb d0 d1 d2 d3 d4
  go_wp2_with fail
  refine (D2.out w2).mono ?_
  rintro e w3 ⟨rfl, hb⟩
  have H3 := Lib.hid (show BlkIs w3 w.heap.size 54 #[.int .i64 a0, .int .i64 a1, .string a2, a3, a4] ∧ Below w.heap.size w w3 from ⟨H2.out.1.below hb H2.out.1.lt, H2.out.2.trans (hb.mono H2.out.2.size)⟩)
  clear D2 hb
  have d0 : w3.cell? ⟨w.heap.size, 0, none⟩ = some (.int .i64 a0) := H3.out.1.cell 0
  have d1 : w3.cell? ⟨w.heap.size, 1, none⟩ = some (.int .i64 a1) := H3.out.1.cell 1
  have d2 : w3.cell? ⟨w.heap.size, 2, none⟩ = some (.string a2) := H3.out.1.cell 2
  have d3 : w3.cell? ⟨w.heap.size, 3, none⟩ = some (a3) := H3.out.1.cell 3
  have d4 : w3.cell? ⟨w.heap.size, 4, none⟩ = some (a4) := H3.out.1.cell 4
  cases q1
  case false =>
    clear C3 C4 C5 C6
    go_wp2_with fail
    go_ret
    exact ⟨ret_b (by simp), H3.out.2⟩
  case true =>
  go_wp2_with fail
  refine (C3.out w3 H3.out.2).mono ?_
  rintro e w4 ⟨rfl, hb⟩
  have H4 := Lib.hid (show BlkIs w4 w.heap.size 54 #[.int .i64 a0, .int .i64 a1, .string a2, a3, a4] ∧ Below w.heap.size w w4 from ⟨H3.out.1.below hb H3.out.1.lt, H3.out.2.trans (hb.mono H3.out.2.size)⟩)
  clear hb d0 d1 d2 d3 d4
  have d0 : w4.cell? ⟨w.heap.size, 0, none⟩ = some (.int .i64 a0) := H4.out.1.cell 0
  have d1 : w4.cell? ⟨w.heap.size, 1, none⟩ = some (.int .i64 a1) := H4.out.1.cell 1
  have d2 : w4.cell? ⟨w.heap.size, 2, none⟩ = some (.string a2) := H4.out.1.cell 2
  have d3 : w4.cell? ⟨w.heap.size, 3, none⟩ = some (a3) := H4.out.1.cell 3
  have d4 : w4.cell? ⟨w.heap.size, 4, none⟩ = some (a4) := H4.out.1.cell 4
  cases q2
  case false =>
    clear C3 C4 C5 C6
    go_wp2_with fail
    go_ret
    exact ⟨ret_b (by simp), H4.out.2⟩
  case true =>
  go_wp2_with fail
  refine (C4.out (HL.out (by simp)) w4 H4.out.2 H4.out.1.lt (H4.out.1.cell 2)).mono ?_
  rintro e w5 ⟨rfl, hb⟩
  have H5 := Lib.hid (show BlkIs w5 w.heap.size 54 #[.int .i64 a0, .int .i64 a1, .string a2, a3, a4] ∧ Below w.heap.size w w5 from ⟨H4.out.1.below hb H4.out.1.lt, H4.out.2.trans (hb.mono H4.out.2.size)⟩)
  clear hb d0 d1 d2 d3 d4
  have d0 : w5.cell? ⟨w.heap.size, 0, none⟩ = some (.int .i64 a0) := H5.out.1.cell 0
  have d1 : w5.cell? ⟨w.heap.size, 1, none⟩ = some (.int .i64 a1) := H5.out.1.cell 1
  have d2 : w5.cell? ⟨w.heap.size, 2, none⟩ = some (.string a2) := H5.out.1.cell 2
  have d3 : w5.cell? ⟨w.heap.size, 3, none⟩ = some (a3) := H5.out.1.cell 3
  have d4 : w5.cell? ⟨w.heap.size, 4, none⟩ = some (a4) := H5.out.1.cell 4
  cases q3
  case false =>
    clear C3 C4 C5 C6
    go_wp2_with fail
    go_ret
    exact ⟨ret_b (by simp), H5.out.2⟩
  case true =>
  go_wp2_with fail
  refine (C5.out w5 H5.out.2).mono ?_
  rintro e w6 ⟨rfl, hb⟩
  have H6 := Lib.hid (show BlkIs w6 w.heap.size 54 #[.int .i64 a0, .int .i64 a1, .string a2, a3, a4] ∧ Below w.heap.size w w6 from ⟨H5.out.1.below hb H5.out.1.lt, H5.out.2.trans (hb.mono H5.out.2.size)⟩)
  clear hb d0 d1 d2 d3 d4
  have d0 : w6.cell? ⟨w.heap.size, 0, none⟩ = some (.int .i64 a0) := H6.out.1.cell 0
  have d1 : w6.cell? ⟨w.heap.size, 1, none⟩ = some (.int .i64 a1) := H6.out.1.cell 1
  have d2 : w6.cell? ⟨w.heap.size, 2, none⟩ = some (.string a2) := H6.out.1.cell 2
  have d3 : w6.cell? ⟨w.heap.size, 3, none⟩ = some (a3) := H6.out.1.cell 3
  have d4 : w6.cell? ⟨w.heap.size, 4, none⟩ = some (a4) := H6.out.1.cell 4
  cases q4
  case false =>
    clear C3 C4 C5 C6
    go_wp2_with fail
    go_ret
    exact ⟨ret_b (by simp), H6.out.2⟩
  case true =>
  go_wp2_with fail
  refine (C6.out w6 H6.out.2).mono ?_
  rintro e w7 ⟨rfl, hb⟩
  have H7 := Lib.hid (show BlkIs w7 w.heap.size 54 #[.int .i64 a0, .int .i64 a1, .string a2, a3, a4] ∧ Below w.heap.size w w7 from ⟨H6.out.1.below hb H6.out.1.lt, H6.out.2.trans (hb.mono H6.out.2.size)⟩)
  clear hb d0 d1 d2 d3 d4
  have d0 : w7.cell? ⟨w.heap.size, 0, none⟩ = some (.int .i64 a0) := H7.out.1.cell 0
  have d1 : w7.cell? ⟨w.heap.size, 1, none⟩ = some (.int .i64 a1) := H7.out.1.cell 1
  have d2 : w7.cell? ⟨w.heap.size, 2, none⟩ = some (.string a2) := H7.out.1.cell 2
  have d3 : w7.cell? ⟨w.heap.size, 3, none⟩ = some (a3) := H7.out.1.cell 3
  have d4 : w7.cell? ⟨w.heap.size, 4, none⟩ = some (a4) := H7.out.1.cell 4
  clear C3 C4 C5 C6
  go_wp2_with fail
  go_ret
  exact ⟨ret_b (by simp), H7.out.2⟩
end Go.Proofs.YtljenganlknhbaaGreat.Mk

/- mark.Good, walked. At most 1,000,000 things in each list of a tomb. (Layer 12.) -/
namespace Go.Proofs.YtljenganlknhbaaGreat.Mk
set_option linter.unusedVariables false
open Go.RowKit
theorem riseB_map {α β : Type} (f : α → β) (p : β → β → Bool) : ∀ (l : List α), riseB (fun x y => p (f x) (f y)) l = riseB p (l.map f)
  | [] => rfl
  | [_] => rfl
  | a :: b :: l => by
    show (p (f a) (f b) && riseB _ (b :: l)) = (p (f a) (f b) && riseB p ((b :: l).map f))
    rw [riseB_map f p (b :: l)]
/-- The lists of each tomb are not great. -/
def Fit (zs : List TbR) : Prop := ∀ z ∈ zs, z.t.acks.length ≤ 1000000 ∧ z.t.cov.length ≤ 1000000
theorem goodTomb_tells (zs : List TbR) (w : World) (h : ∀ z ∈ zs, z.Reads w) (hf : Fit zs) : Tells 94 #[] aTb (fun z => tombB z.t) zs w :=
  ⟨enters_of Tryz.func94 (by kernel_rfl) rfl, fun x hx W hW => goodTomb_any x W ((h x hx).later hW) (hf x hx).1⟩
set_option maxRecDepth 100000 in
set_option maxHeartbeats 8000000 in
theorem good_any (m : MkR) (w : World) (h : m.Reads w) (hf : Fit m.tombs) : Calls Tryz.prog 34 #[aMk m] w fun e w' => e = .returned (.bool (goodB m.mk_)) ∧ Below w.heap.size w w' := by
  obtain ⟨refs, toks, zs, rv, kv, bv⟩ := m
  obtain ⟨h1, h2, h3, h4⟩ := h
  dsimp only at h1 h2 h3 h4 hf
  have HT := Lib.hid (show goodB ⟨refs, toks, zs.map (·.t)⟩ = ((decide (refs.length ≤ 64) && refs.all refB && riseB nameLt refs) && (decide ((zs.map (·.t)).length ≤ 64) && (zs.map (·.t)).all tombB && riseB tombLt (zs.map (·.t))) && tokensB toks) from rfl)
  rw [List.length_map, List.all_map, ← riseB_map] at HT
  have H := Lib.hid (And.intro h1 (And.intro h2 (And.intro h3 h4)))
  have A1 := Lib.hid (fun (hl : refs.length ≤ 64) W (hW : Below w.heap.size w W) => all_rf rv refs 91 #[] refB W (H.out.1.later hW) (goodRef_tells refs W) (by omega))
  have A2 := Lib.hid (fun (hl : refs.length ≤ 64) W (hW : Below w.heap.size w W) => ri_rf rv refs 86 #[] nameLt W (H.out.1.later hW) (names_tells refs W) (by omega))
  have A3 := Lib.hid (fun (hl : zs.length ≤ 64) W (hW : Below w.heap.size w W) => all_tb bv zs 94 #[] (fun z => tombB z.t) W (H.out.2.2.1.later hW) (goodTomb_tells zs W (fun z hz => (H.out.2.2.2 z hz).later hW) hf) (by omega))
  have A4 := Lib.hid (fun (hl : zs.length ≤ 64) W (hW : Below w.heap.size w W) => ri_tb bv zs 87 #[] (fun x y => tombLt x.t y.t) W (H.out.2.2.1.later hW) (tombs_tells zs W) (by omega))
  have A5 := Lib.hid (fun W (hW : Below w.heap.size w W) => goodTokens_any kv toks W (H.out.2.1.later hW))
  obtain ⟨ao1, c1, rfl, -, -⟩ := h1.form
  obtain ⟨ao3, c3, rfl, -, -⟩ := h3.form
  obtain ⟨q1, hq1⟩ : ∃ q, q = refs.all refB := ⟨_, rfl⟩
  obtain ⟨q2, hq2⟩ : ∃ q, q = riseB nameLt refs := ⟨_, rfl⟩
  obtain ⟨q3, hq3⟩ : ∃ q, q = zs.all fun z => tombB z.t := ⟨_, rfl⟩
  obtain ⟨q4, hq4⟩ : ∃ q, q = riseB (fun x y => tombLt x.t y.t) zs := ⟨_, rfl⟩
  obtain ⟨q5, hq5⟩ : ∃ q, q = tokensB toks := ⟨_, rfl⟩
  rw [← hq1] at A1
  rw [← hq2] at A2
  rw [← hq3] at A3
  rw [← hq4] at A4
  rw [← hq5] at A5
  rw [← hq1, ← hq2, show (zs.all (tombB ∘ fun x => x.t)) = zs.all (fun z => tombB z.t) from rfl, ← hq3, ← hq4, ← hq5] at HT
  show Calls Tryz.prog 34 #[.agg #[.slice ao1 refs.length c1, kv, .slice ao3 zs.length c3]] w fun e w' => e = .returned (.bool (goodB ⟨refs, toks, zs.map (·.t)⟩)) ∧ Below w.heap.size w w'
  rw [HT.out]
  obtain ⟨n1, hn1⟩ : ∃ n, n = refs.length := ⟨_, rfl⟩
  obtain ⟨n3, hn3⟩ : ∃ n, n = zs.length := ⟨_, rfl⟩
  rw [← hn1] at A1 A2 ⊢
  rw [← hn3] at A3 A4 ⊢
  clear h1 h2 h3 h4 hf hq1 hq2 hq3 hq4 hq5 HT hn1 hn3 H
  obtain ⟨W1, hW1⟩ : ∃ W1, W1 = w.alloc (.cells #[.slice ao1 n1 c1, kv, .slice ao3 n3 c3] 28) := ⟨_, rfl⟩
  have hb1 : Below w.heap.size w W1 := by rw [hW1]; exact (Below.refl _ _).alloc (Nat.le_refl _) _
  have k1 : BlkIs W1 w.heap.size 28 #[.slice ao1 n1 c1, kv, .slice ao3 n3 c3] := by rw [hW1]; exact BlkIs.new _ _ _
  have HW := Lib.hid hW1
  have H1 := Lib.hid (And.intro k1 hb1)
  have d0 : W1.cell? ⟨w.heap.size, 0, none⟩ = some (.slice ao1 n1 c1) := k1.cell 0
  have d1 : W1.cell? ⟨w.heap.size, 1, none⟩ = some kv := k1.cell 1
  have d2 : W1.cell? ⟨w.heap.size, 2, none⟩ = some (.slice ao3 n3 c3) := k1.cell 2
  clear hW1 hb1 k1
  have er : ((64 : Int) < n1 ∧ ¬ n1 ≤ 64) ∨ ((n1 : Int) ≤ 64 ∧ n1 ≤ 64) := by omega
  have et : ((64 : Int) < n3 ∧ ¬ n3 ≤ 64) ∨ ((n3 : Int) ≤ 64 ∧ n3 ≤ 64) := by omega
  go_enter Tryz.func34, Tryz.ntmps34
  rcases er with ⟨r1, r2⟩ | ⟨r1, r2⟩
  · skip
    rcases et with ⟨t1, t2⟩ | ⟨t1, t2⟩
    · skip
      go_wp2_with fail
      rw [← HW.out]
      go_ret
      exact ⟨ret_b (by first | (simp; done) | (simp [r2]; done) | (simp [t2]; done) | (simp [r2, t2]; done)), H1.out.2⟩
    · cases q3
      · skip
        go_wp2_with fail
        rw [← HW.out]
        refine ((A3.out t2) W1 H1.out.2).mono ?_
        rintro e w2 ⟨rfl, hb⟩
        have H2 := Lib.hid (show BlkIs w2 w.heap.size 28 #[.slice ao1 n1 c1, kv, .slice ao3 n3 c3] ∧ Below w.heap.size w w2 from ⟨H1.out.1.below hb H1.out.1.lt, H1.out.2.trans (hb.mono H1.out.2.size)⟩)
        clear hb d0 d1 d2
        have d0 : w2.cell? ⟨w.heap.size, 0, none⟩ = some (.slice ao1 n1 c1) := H2.out.1.cell 0
        have d1 : w2.cell? ⟨w.heap.size, 1, none⟩ = some kv := H2.out.1.cell 1
        have d2 : w2.cell? ⟨w.heap.size, 2, none⟩ = some (.slice ao3 n3 c3) := H2.out.1.cell 2
        go_wp2_with fail
        go_ret
        exact ⟨ret_b (by first | (simp; done) | (simp [r2]; done) | (simp [t2]; done) | (simp [r2, t2]; done)), H2.out.2⟩
      · cases q4
        · skip
          go_wp2_with fail
          rw [← HW.out]
          refine ((A3.out t2) W1 H1.out.2).mono ?_
          rintro e w2 ⟨rfl, hb⟩
          have H2 := Lib.hid (show BlkIs w2 w.heap.size 28 #[.slice ao1 n1 c1, kv, .slice ao3 n3 c3] ∧ Below w.heap.size w w2 from ⟨H1.out.1.below hb H1.out.1.lt, H1.out.2.trans (hb.mono H1.out.2.size)⟩)
          clear hb d0 d1 d2
          have d0 : w2.cell? ⟨w.heap.size, 0, none⟩ = some (.slice ao1 n1 c1) := H2.out.1.cell 0
          have d1 : w2.cell? ⟨w.heap.size, 1, none⟩ = some kv := H2.out.1.cell 1
          have d2 : w2.cell? ⟨w.heap.size, 2, none⟩ = some (.slice ao3 n3 c3) := H2.out.1.cell 2
          go_wp2_with fail
          refine ((A4.out t2) w2 H2.out.2).mono ?_
          rintro e w3 ⟨rfl, hb⟩
          have H3 := Lib.hid (show BlkIs w3 w.heap.size 28 #[.slice ao1 n1 c1, kv, .slice ao3 n3 c3] ∧ Below w.heap.size w w3 from ⟨H2.out.1.below hb H2.out.1.lt, H2.out.2.trans (hb.mono H2.out.2.size)⟩)
          clear hb d0 d1 d2
          have d0 : w3.cell? ⟨w.heap.size, 0, none⟩ = some (.slice ao1 n1 c1) := H3.out.1.cell 0
          have d1 : w3.cell? ⟨w.heap.size, 1, none⟩ = some kv := H3.out.1.cell 1
          have d2 : w3.cell? ⟨w.heap.size, 2, none⟩ = some (.slice ao3 n3 c3) := H3.out.1.cell 2
          go_wp2_with fail
          go_ret
          exact ⟨ret_b (by first | (simp; done) | (simp [r2]; done) | (simp [t2]; done) | (simp [r2, t2]; done)), H3.out.2⟩
        · skip
          go_wp2_with fail
          rw [← HW.out]
          refine ((A3.out t2) W1 H1.out.2).mono ?_
          rintro e w2 ⟨rfl, hb⟩
          have H2 := Lib.hid (show BlkIs w2 w.heap.size 28 #[.slice ao1 n1 c1, kv, .slice ao3 n3 c3] ∧ Below w.heap.size w w2 from ⟨H1.out.1.below hb H1.out.1.lt, H1.out.2.trans (hb.mono H1.out.2.size)⟩)
          clear hb d0 d1 d2
          have d0 : w2.cell? ⟨w.heap.size, 0, none⟩ = some (.slice ao1 n1 c1) := H2.out.1.cell 0
          have d1 : w2.cell? ⟨w.heap.size, 1, none⟩ = some kv := H2.out.1.cell 1
          have d2 : w2.cell? ⟨w.heap.size, 2, none⟩ = some (.slice ao3 n3 c3) := H2.out.1.cell 2
          go_wp2_with fail
          refine ((A4.out t2) w2 H2.out.2).mono ?_
          rintro e w3 ⟨rfl, hb⟩
          have H3 := Lib.hid (show BlkIs w3 w.heap.size 28 #[.slice ao1 n1 c1, kv, .slice ao3 n3 c3] ∧ Below w.heap.size w w3 from ⟨H2.out.1.below hb H2.out.1.lt, H2.out.2.trans (hb.mono H2.out.2.size)⟩)
          clear hb d0 d1 d2
          have d0 : w3.cell? ⟨w.heap.size, 0, none⟩ = some (.slice ao1 n1 c1) := H3.out.1.cell 0
          have d1 : w3.cell? ⟨w.heap.size, 1, none⟩ = some kv := H3.out.1.cell 1
          have d2 : w3.cell? ⟨w.heap.size, 2, none⟩ = some (.slice ao3 n3 c3) := H3.out.1.cell 2
          go_wp2_with fail
          go_ret
          exact ⟨ret_b (by first | (simp; done) | (simp [r2]; done) | (simp [t2]; done) | (simp [r2, t2]; done)), H3.out.2⟩
  · cases q1
    · skip
      rcases et with ⟨t1, t2⟩ | ⟨t1, t2⟩
      · skip
        go_wp2_with fail
        rw [← HW.out]
        refine ((A1.out r2) W1 H1.out.2).mono ?_
        rintro e w2 ⟨rfl, hb⟩
        have H2 := Lib.hid (show BlkIs w2 w.heap.size 28 #[.slice ao1 n1 c1, kv, .slice ao3 n3 c3] ∧ Below w.heap.size w w2 from ⟨H1.out.1.below hb H1.out.1.lt, H1.out.2.trans (hb.mono H1.out.2.size)⟩)
        clear hb d0 d1 d2
        have d0 : w2.cell? ⟨w.heap.size, 0, none⟩ = some (.slice ao1 n1 c1) := H2.out.1.cell 0
        have d1 : w2.cell? ⟨w.heap.size, 1, none⟩ = some kv := H2.out.1.cell 1
        have d2 : w2.cell? ⟨w.heap.size, 2, none⟩ = some (.slice ao3 n3 c3) := H2.out.1.cell 2
        go_wp2_with fail
        go_ret
        exact ⟨ret_b (by first | (simp; done) | (simp [r2]; done) | (simp [t2]; done) | (simp [r2, t2]; done)), H2.out.2⟩
      · cases q3
        · skip
          go_wp2_with fail
          rw [← HW.out]
          refine ((A1.out r2) W1 H1.out.2).mono ?_
          rintro e w2 ⟨rfl, hb⟩
          have H2 := Lib.hid (show BlkIs w2 w.heap.size 28 #[.slice ao1 n1 c1, kv, .slice ao3 n3 c3] ∧ Below w.heap.size w w2 from ⟨H1.out.1.below hb H1.out.1.lt, H1.out.2.trans (hb.mono H1.out.2.size)⟩)
          clear hb d0 d1 d2
          have d0 : w2.cell? ⟨w.heap.size, 0, none⟩ = some (.slice ao1 n1 c1) := H2.out.1.cell 0
          have d1 : w2.cell? ⟨w.heap.size, 1, none⟩ = some kv := H2.out.1.cell 1
          have d2 : w2.cell? ⟨w.heap.size, 2, none⟩ = some (.slice ao3 n3 c3) := H2.out.1.cell 2
          go_wp2_with fail
          refine ((A3.out t2) w2 H2.out.2).mono ?_
          rintro e w3 ⟨rfl, hb⟩
          have H3 := Lib.hid (show BlkIs w3 w.heap.size 28 #[.slice ao1 n1 c1, kv, .slice ao3 n3 c3] ∧ Below w.heap.size w w3 from ⟨H2.out.1.below hb H2.out.1.lt, H2.out.2.trans (hb.mono H2.out.2.size)⟩)
          clear hb d0 d1 d2
          have d0 : w3.cell? ⟨w.heap.size, 0, none⟩ = some (.slice ao1 n1 c1) := H3.out.1.cell 0
          have d1 : w3.cell? ⟨w.heap.size, 1, none⟩ = some kv := H3.out.1.cell 1
          have d2 : w3.cell? ⟨w.heap.size, 2, none⟩ = some (.slice ao3 n3 c3) := H3.out.1.cell 2
          go_wp2_with fail
          go_ret
          exact ⟨ret_b (by first | (simp; done) | (simp [r2]; done) | (simp [t2]; done) | (simp [r2, t2]; done)), H3.out.2⟩
        · cases q4
          · skip
            go_wp2_with fail
            rw [← HW.out]
            refine ((A1.out r2) W1 H1.out.2).mono ?_
            rintro e w2 ⟨rfl, hb⟩
            have H2 := Lib.hid (show BlkIs w2 w.heap.size 28 #[.slice ao1 n1 c1, kv, .slice ao3 n3 c3] ∧ Below w.heap.size w w2 from ⟨H1.out.1.below hb H1.out.1.lt, H1.out.2.trans (hb.mono H1.out.2.size)⟩)
            clear hb d0 d1 d2
            have d0 : w2.cell? ⟨w.heap.size, 0, none⟩ = some (.slice ao1 n1 c1) := H2.out.1.cell 0
            have d1 : w2.cell? ⟨w.heap.size, 1, none⟩ = some kv := H2.out.1.cell 1
            have d2 : w2.cell? ⟨w.heap.size, 2, none⟩ = some (.slice ao3 n3 c3) := H2.out.1.cell 2
            go_wp2_with fail
            refine ((A3.out t2) w2 H2.out.2).mono ?_
            rintro e w3 ⟨rfl, hb⟩
            have H3 := Lib.hid (show BlkIs w3 w.heap.size 28 #[.slice ao1 n1 c1, kv, .slice ao3 n3 c3] ∧ Below w.heap.size w w3 from ⟨H2.out.1.below hb H2.out.1.lt, H2.out.2.trans (hb.mono H2.out.2.size)⟩)
            clear hb d0 d1 d2
            have d0 : w3.cell? ⟨w.heap.size, 0, none⟩ = some (.slice ao1 n1 c1) := H3.out.1.cell 0
            have d1 : w3.cell? ⟨w.heap.size, 1, none⟩ = some kv := H3.out.1.cell 1
            have d2 : w3.cell? ⟨w.heap.size, 2, none⟩ = some (.slice ao3 n3 c3) := H3.out.1.cell 2
            go_wp2_with fail
            refine ((A4.out t2) w3 H3.out.2).mono ?_
            rintro e w4 ⟨rfl, hb⟩
            have H4 := Lib.hid (show BlkIs w4 w.heap.size 28 #[.slice ao1 n1 c1, kv, .slice ao3 n3 c3] ∧ Below w.heap.size w w4 from ⟨H3.out.1.below hb H3.out.1.lt, H3.out.2.trans (hb.mono H3.out.2.size)⟩)
            clear hb d0 d1 d2
            have d0 : w4.cell? ⟨w.heap.size, 0, none⟩ = some (.slice ao1 n1 c1) := H4.out.1.cell 0
            have d1 : w4.cell? ⟨w.heap.size, 1, none⟩ = some kv := H4.out.1.cell 1
            have d2 : w4.cell? ⟨w.heap.size, 2, none⟩ = some (.slice ao3 n3 c3) := H4.out.1.cell 2
            go_wp2_with fail
            go_ret
            exact ⟨ret_b (by first | (simp; done) | (simp [r2]; done) | (simp [t2]; done) | (simp [r2, t2]; done)), H4.out.2⟩
          · skip
            go_wp2_with fail
            rw [← HW.out]
            refine ((A1.out r2) W1 H1.out.2).mono ?_
            rintro e w2 ⟨rfl, hb⟩
            have H2 := Lib.hid (show BlkIs w2 w.heap.size 28 #[.slice ao1 n1 c1, kv, .slice ao3 n3 c3] ∧ Below w.heap.size w w2 from ⟨H1.out.1.below hb H1.out.1.lt, H1.out.2.trans (hb.mono H1.out.2.size)⟩)
            clear hb d0 d1 d2
            have d0 : w2.cell? ⟨w.heap.size, 0, none⟩ = some (.slice ao1 n1 c1) := H2.out.1.cell 0
            have d1 : w2.cell? ⟨w.heap.size, 1, none⟩ = some kv := H2.out.1.cell 1
            have d2 : w2.cell? ⟨w.heap.size, 2, none⟩ = some (.slice ao3 n3 c3) := H2.out.1.cell 2
            go_wp2_with fail
            refine ((A3.out t2) w2 H2.out.2).mono ?_
            rintro e w3 ⟨rfl, hb⟩
            have H3 := Lib.hid (show BlkIs w3 w.heap.size 28 #[.slice ao1 n1 c1, kv, .slice ao3 n3 c3] ∧ Below w.heap.size w w3 from ⟨H2.out.1.below hb H2.out.1.lt, H2.out.2.trans (hb.mono H2.out.2.size)⟩)
            clear hb d0 d1 d2
            have d0 : w3.cell? ⟨w.heap.size, 0, none⟩ = some (.slice ao1 n1 c1) := H3.out.1.cell 0
            have d1 : w3.cell? ⟨w.heap.size, 1, none⟩ = some kv := H3.out.1.cell 1
            have d2 : w3.cell? ⟨w.heap.size, 2, none⟩ = some (.slice ao3 n3 c3) := H3.out.1.cell 2
            go_wp2_with fail
            refine ((A4.out t2) w3 H3.out.2).mono ?_
            rintro e w4 ⟨rfl, hb⟩
            have H4 := Lib.hid (show BlkIs w4 w.heap.size 28 #[.slice ao1 n1 c1, kv, .slice ao3 n3 c3] ∧ Below w.heap.size w w4 from ⟨H3.out.1.below hb H3.out.1.lt, H3.out.2.trans (hb.mono H3.out.2.size)⟩)
            clear hb d0 d1 d2
            have d0 : w4.cell? ⟨w.heap.size, 0, none⟩ = some (.slice ao1 n1 c1) := H4.out.1.cell 0
            have d1 : w4.cell? ⟨w.heap.size, 1, none⟩ = some kv := H4.out.1.cell 1
            have d2 : w4.cell? ⟨w.heap.size, 2, none⟩ = some (.slice ao3 n3 c3) := H4.out.1.cell 2
            go_wp2_with fail
            go_ret
            exact ⟨ret_b (by first | (simp; done) | (simp [r2]; done) | (simp [t2]; done) | (simp [r2, t2]; done)), H4.out.2⟩
    · cases q2
      · skip
        rcases et with ⟨t1, t2⟩ | ⟨t1, t2⟩
        · skip
          go_wp2_with fail
          rw [← HW.out]
          refine ((A1.out r2) W1 H1.out.2).mono ?_
          rintro e w2 ⟨rfl, hb⟩
          have H2 := Lib.hid (show BlkIs w2 w.heap.size 28 #[.slice ao1 n1 c1, kv, .slice ao3 n3 c3] ∧ Below w.heap.size w w2 from ⟨H1.out.1.below hb H1.out.1.lt, H1.out.2.trans (hb.mono H1.out.2.size)⟩)
          clear hb d0 d1 d2
          have d0 : w2.cell? ⟨w.heap.size, 0, none⟩ = some (.slice ao1 n1 c1) := H2.out.1.cell 0
          have d1 : w2.cell? ⟨w.heap.size, 1, none⟩ = some kv := H2.out.1.cell 1
          have d2 : w2.cell? ⟨w.heap.size, 2, none⟩ = some (.slice ao3 n3 c3) := H2.out.1.cell 2
          go_wp2_with fail
          refine ((A2.out r2) w2 H2.out.2).mono ?_
          rintro e w3 ⟨rfl, hb⟩
          have H3 := Lib.hid (show BlkIs w3 w.heap.size 28 #[.slice ao1 n1 c1, kv, .slice ao3 n3 c3] ∧ Below w.heap.size w w3 from ⟨H2.out.1.below hb H2.out.1.lt, H2.out.2.trans (hb.mono H2.out.2.size)⟩)
          clear hb d0 d1 d2
          have d0 : w3.cell? ⟨w.heap.size, 0, none⟩ = some (.slice ao1 n1 c1) := H3.out.1.cell 0
          have d1 : w3.cell? ⟨w.heap.size, 1, none⟩ = some kv := H3.out.1.cell 1
          have d2 : w3.cell? ⟨w.heap.size, 2, none⟩ = some (.slice ao3 n3 c3) := H3.out.1.cell 2
          go_wp2_with fail
          go_ret
          exact ⟨ret_b (by first | (simp; done) | (simp [r2]; done) | (simp [t2]; done) | (simp [r2, t2]; done)), H3.out.2⟩
        · cases q3
          · skip
            go_wp2_with fail
            rw [← HW.out]
            refine ((A1.out r2) W1 H1.out.2).mono ?_
            rintro e w2 ⟨rfl, hb⟩
            have H2 := Lib.hid (show BlkIs w2 w.heap.size 28 #[.slice ao1 n1 c1, kv, .slice ao3 n3 c3] ∧ Below w.heap.size w w2 from ⟨H1.out.1.below hb H1.out.1.lt, H1.out.2.trans (hb.mono H1.out.2.size)⟩)
            clear hb d0 d1 d2
            have d0 : w2.cell? ⟨w.heap.size, 0, none⟩ = some (.slice ao1 n1 c1) := H2.out.1.cell 0
            have d1 : w2.cell? ⟨w.heap.size, 1, none⟩ = some kv := H2.out.1.cell 1
            have d2 : w2.cell? ⟨w.heap.size, 2, none⟩ = some (.slice ao3 n3 c3) := H2.out.1.cell 2
            go_wp2_with fail
            refine ((A2.out r2) w2 H2.out.2).mono ?_
            rintro e w3 ⟨rfl, hb⟩
            have H3 := Lib.hid (show BlkIs w3 w.heap.size 28 #[.slice ao1 n1 c1, kv, .slice ao3 n3 c3] ∧ Below w.heap.size w w3 from ⟨H2.out.1.below hb H2.out.1.lt, H2.out.2.trans (hb.mono H2.out.2.size)⟩)
            clear hb d0 d1 d2
            have d0 : w3.cell? ⟨w.heap.size, 0, none⟩ = some (.slice ao1 n1 c1) := H3.out.1.cell 0
            have d1 : w3.cell? ⟨w.heap.size, 1, none⟩ = some kv := H3.out.1.cell 1
            have d2 : w3.cell? ⟨w.heap.size, 2, none⟩ = some (.slice ao3 n3 c3) := H3.out.1.cell 2
            go_wp2_with fail
            refine ((A3.out t2) w3 H3.out.2).mono ?_
            rintro e w4 ⟨rfl, hb⟩
            have H4 := Lib.hid (show BlkIs w4 w.heap.size 28 #[.slice ao1 n1 c1, kv, .slice ao3 n3 c3] ∧ Below w.heap.size w w4 from ⟨H3.out.1.below hb H3.out.1.lt, H3.out.2.trans (hb.mono H3.out.2.size)⟩)
            clear hb d0 d1 d2
            have d0 : w4.cell? ⟨w.heap.size, 0, none⟩ = some (.slice ao1 n1 c1) := H4.out.1.cell 0
            have d1 : w4.cell? ⟨w.heap.size, 1, none⟩ = some kv := H4.out.1.cell 1
            have d2 : w4.cell? ⟨w.heap.size, 2, none⟩ = some (.slice ao3 n3 c3) := H4.out.1.cell 2
            go_wp2_with fail
            go_ret
            exact ⟨ret_b (by first | (simp; done) | (simp [r2]; done) | (simp [t2]; done) | (simp [r2, t2]; done)), H4.out.2⟩
          · cases q4
            · skip
              go_wp2_with fail
              rw [← HW.out]
              refine ((A1.out r2) W1 H1.out.2).mono ?_
              rintro e w2 ⟨rfl, hb⟩
              have H2 := Lib.hid (show BlkIs w2 w.heap.size 28 #[.slice ao1 n1 c1, kv, .slice ao3 n3 c3] ∧ Below w.heap.size w w2 from ⟨H1.out.1.below hb H1.out.1.lt, H1.out.2.trans (hb.mono H1.out.2.size)⟩)
              clear hb d0 d1 d2
              have d0 : w2.cell? ⟨w.heap.size, 0, none⟩ = some (.slice ao1 n1 c1) := H2.out.1.cell 0
              have d1 : w2.cell? ⟨w.heap.size, 1, none⟩ = some kv := H2.out.1.cell 1
              have d2 : w2.cell? ⟨w.heap.size, 2, none⟩ = some (.slice ao3 n3 c3) := H2.out.1.cell 2
              go_wp2_with fail
              refine ((A2.out r2) w2 H2.out.2).mono ?_
              rintro e w3 ⟨rfl, hb⟩
              have H3 := Lib.hid (show BlkIs w3 w.heap.size 28 #[.slice ao1 n1 c1, kv, .slice ao3 n3 c3] ∧ Below w.heap.size w w3 from ⟨H2.out.1.below hb H2.out.1.lt, H2.out.2.trans (hb.mono H2.out.2.size)⟩)
              clear hb d0 d1 d2
              have d0 : w3.cell? ⟨w.heap.size, 0, none⟩ = some (.slice ao1 n1 c1) := H3.out.1.cell 0
              have d1 : w3.cell? ⟨w.heap.size, 1, none⟩ = some kv := H3.out.1.cell 1
              have d2 : w3.cell? ⟨w.heap.size, 2, none⟩ = some (.slice ao3 n3 c3) := H3.out.1.cell 2
              go_wp2_with fail
              refine ((A3.out t2) w3 H3.out.2).mono ?_
              rintro e w4 ⟨rfl, hb⟩
              have H4 := Lib.hid (show BlkIs w4 w.heap.size 28 #[.slice ao1 n1 c1, kv, .slice ao3 n3 c3] ∧ Below w.heap.size w w4 from ⟨H3.out.1.below hb H3.out.1.lt, H3.out.2.trans (hb.mono H3.out.2.size)⟩)
              clear hb d0 d1 d2
              have d0 : w4.cell? ⟨w.heap.size, 0, none⟩ = some (.slice ao1 n1 c1) := H4.out.1.cell 0
              have d1 : w4.cell? ⟨w.heap.size, 1, none⟩ = some kv := H4.out.1.cell 1
              have d2 : w4.cell? ⟨w.heap.size, 2, none⟩ = some (.slice ao3 n3 c3) := H4.out.1.cell 2
              go_wp2_with fail
              refine ((A4.out t2) w4 H4.out.2).mono ?_
              rintro e w5 ⟨rfl, hb⟩
              have H5 := Lib.hid (show BlkIs w5 w.heap.size 28 #[.slice ao1 n1 c1, kv, .slice ao3 n3 c3] ∧ Below w.heap.size w w5 from ⟨H4.out.1.below hb H4.out.1.lt, H4.out.2.trans (hb.mono H4.out.2.size)⟩)
              clear hb d0 d1 d2
              have d0 : w5.cell? ⟨w.heap.size, 0, none⟩ = some (.slice ao1 n1 c1) := H5.out.1.cell 0
              have d1 : w5.cell? ⟨w.heap.size, 1, none⟩ = some kv := H5.out.1.cell 1
              have d2 : w5.cell? ⟨w.heap.size, 2, none⟩ = some (.slice ao3 n3 c3) := H5.out.1.cell 2
              go_wp2_with fail
              go_ret
              exact ⟨ret_b (by first | (simp; done) | (simp [r2]; done) | (simp [t2]; done) | (simp [r2, t2]; done)), H5.out.2⟩
            · skip
              go_wp2_with fail
              rw [← HW.out]
              refine ((A1.out r2) W1 H1.out.2).mono ?_
              rintro e w2 ⟨rfl, hb⟩
              have H2 := Lib.hid (show BlkIs w2 w.heap.size 28 #[.slice ao1 n1 c1, kv, .slice ao3 n3 c3] ∧ Below w.heap.size w w2 from ⟨H1.out.1.below hb H1.out.1.lt, H1.out.2.trans (hb.mono H1.out.2.size)⟩)
              clear hb d0 d1 d2
              have d0 : w2.cell? ⟨w.heap.size, 0, none⟩ = some (.slice ao1 n1 c1) := H2.out.1.cell 0
              have d1 : w2.cell? ⟨w.heap.size, 1, none⟩ = some kv := H2.out.1.cell 1
              have d2 : w2.cell? ⟨w.heap.size, 2, none⟩ = some (.slice ao3 n3 c3) := H2.out.1.cell 2
              go_wp2_with fail
              refine ((A2.out r2) w2 H2.out.2).mono ?_
              rintro e w3 ⟨rfl, hb⟩
              have H3 := Lib.hid (show BlkIs w3 w.heap.size 28 #[.slice ao1 n1 c1, kv, .slice ao3 n3 c3] ∧ Below w.heap.size w w3 from ⟨H2.out.1.below hb H2.out.1.lt, H2.out.2.trans (hb.mono H2.out.2.size)⟩)
              clear hb d0 d1 d2
              have d0 : w3.cell? ⟨w.heap.size, 0, none⟩ = some (.slice ao1 n1 c1) := H3.out.1.cell 0
              have d1 : w3.cell? ⟨w.heap.size, 1, none⟩ = some kv := H3.out.1.cell 1
              have d2 : w3.cell? ⟨w.heap.size, 2, none⟩ = some (.slice ao3 n3 c3) := H3.out.1.cell 2
              go_wp2_with fail
              refine ((A3.out t2) w3 H3.out.2).mono ?_
              rintro e w4 ⟨rfl, hb⟩
              have H4 := Lib.hid (show BlkIs w4 w.heap.size 28 #[.slice ao1 n1 c1, kv, .slice ao3 n3 c3] ∧ Below w.heap.size w w4 from ⟨H3.out.1.below hb H3.out.1.lt, H3.out.2.trans (hb.mono H3.out.2.size)⟩)
              clear hb d0 d1 d2
              have d0 : w4.cell? ⟨w.heap.size, 0, none⟩ = some (.slice ao1 n1 c1) := H4.out.1.cell 0
              have d1 : w4.cell? ⟨w.heap.size, 1, none⟩ = some kv := H4.out.1.cell 1
              have d2 : w4.cell? ⟨w.heap.size, 2, none⟩ = some (.slice ao3 n3 c3) := H4.out.1.cell 2
              go_wp2_with fail
              refine ((A4.out t2) w4 H4.out.2).mono ?_
              rintro e w5 ⟨rfl, hb⟩
              have H5 := Lib.hid (show BlkIs w5 w.heap.size 28 #[.slice ao1 n1 c1, kv, .slice ao3 n3 c3] ∧ Below w.heap.size w w5 from ⟨H4.out.1.below hb H4.out.1.lt, H4.out.2.trans (hb.mono H4.out.2.size)⟩)
              clear hb d0 d1 d2
              have d0 : w5.cell? ⟨w.heap.size, 0, none⟩ = some (.slice ao1 n1 c1) := H5.out.1.cell 0
              have d1 : w5.cell? ⟨w.heap.size, 1, none⟩ = some kv := H5.out.1.cell 1
              have d2 : w5.cell? ⟨w.heap.size, 2, none⟩ = some (.slice ao3 n3 c3) := H5.out.1.cell 2
              go_wp2_with fail
              go_ret
              exact ⟨ret_b (by first | (simp; done) | (simp [r2]; done) | (simp [t2]; done) | (simp [r2, t2]; done)), H5.out.2⟩
      · skip
        rcases et with ⟨t1, t2⟩ | ⟨t1, t2⟩
        · skip
          go_wp2_with fail
          rw [← HW.out]
          refine ((A1.out r2) W1 H1.out.2).mono ?_
          rintro e w2 ⟨rfl, hb⟩
          have H2 := Lib.hid (show BlkIs w2 w.heap.size 28 #[.slice ao1 n1 c1, kv, .slice ao3 n3 c3] ∧ Below w.heap.size w w2 from ⟨H1.out.1.below hb H1.out.1.lt, H1.out.2.trans (hb.mono H1.out.2.size)⟩)
          clear hb d0 d1 d2
          have d0 : w2.cell? ⟨w.heap.size, 0, none⟩ = some (.slice ao1 n1 c1) := H2.out.1.cell 0
          have d1 : w2.cell? ⟨w.heap.size, 1, none⟩ = some kv := H2.out.1.cell 1
          have d2 : w2.cell? ⟨w.heap.size, 2, none⟩ = some (.slice ao3 n3 c3) := H2.out.1.cell 2
          go_wp2_with fail
          refine ((A2.out r2) w2 H2.out.2).mono ?_
          rintro e w3 ⟨rfl, hb⟩
          have H3 := Lib.hid (show BlkIs w3 w.heap.size 28 #[.slice ao1 n1 c1, kv, .slice ao3 n3 c3] ∧ Below w.heap.size w w3 from ⟨H2.out.1.below hb H2.out.1.lt, H2.out.2.trans (hb.mono H2.out.2.size)⟩)
          clear hb d0 d1 d2
          have d0 : w3.cell? ⟨w.heap.size, 0, none⟩ = some (.slice ao1 n1 c1) := H3.out.1.cell 0
          have d1 : w3.cell? ⟨w.heap.size, 1, none⟩ = some kv := H3.out.1.cell 1
          have d2 : w3.cell? ⟨w.heap.size, 2, none⟩ = some (.slice ao3 n3 c3) := H3.out.1.cell 2
          go_wp2_with fail
          go_ret
          exact ⟨ret_b (by first | (simp; done) | (simp [r2]; done) | (simp [t2]; done) | (simp [r2, t2]; done)), H3.out.2⟩
        · cases q3
          · skip
            go_wp2_with fail
            rw [← HW.out]
            refine ((A1.out r2) W1 H1.out.2).mono ?_
            rintro e w2 ⟨rfl, hb⟩
            have H2 := Lib.hid (show BlkIs w2 w.heap.size 28 #[.slice ao1 n1 c1, kv, .slice ao3 n3 c3] ∧ Below w.heap.size w w2 from ⟨H1.out.1.below hb H1.out.1.lt, H1.out.2.trans (hb.mono H1.out.2.size)⟩)
            clear hb d0 d1 d2
            have d0 : w2.cell? ⟨w.heap.size, 0, none⟩ = some (.slice ao1 n1 c1) := H2.out.1.cell 0
            have d1 : w2.cell? ⟨w.heap.size, 1, none⟩ = some kv := H2.out.1.cell 1
            have d2 : w2.cell? ⟨w.heap.size, 2, none⟩ = some (.slice ao3 n3 c3) := H2.out.1.cell 2
            go_wp2_with fail
            refine ((A2.out r2) w2 H2.out.2).mono ?_
            rintro e w3 ⟨rfl, hb⟩
            have H3 := Lib.hid (show BlkIs w3 w.heap.size 28 #[.slice ao1 n1 c1, kv, .slice ao3 n3 c3] ∧ Below w.heap.size w w3 from ⟨H2.out.1.below hb H2.out.1.lt, H2.out.2.trans (hb.mono H2.out.2.size)⟩)
            clear hb d0 d1 d2
            have d0 : w3.cell? ⟨w.heap.size, 0, none⟩ = some (.slice ao1 n1 c1) := H3.out.1.cell 0
            have d1 : w3.cell? ⟨w.heap.size, 1, none⟩ = some kv := H3.out.1.cell 1
            have d2 : w3.cell? ⟨w.heap.size, 2, none⟩ = some (.slice ao3 n3 c3) := H3.out.1.cell 2
            go_wp2_with fail
            refine ((A3.out t2) w3 H3.out.2).mono ?_
            rintro e w4 ⟨rfl, hb⟩
            have H4 := Lib.hid (show BlkIs w4 w.heap.size 28 #[.slice ao1 n1 c1, kv, .slice ao3 n3 c3] ∧ Below w.heap.size w w4 from ⟨H3.out.1.below hb H3.out.1.lt, H3.out.2.trans (hb.mono H3.out.2.size)⟩)
            clear hb d0 d1 d2
            have d0 : w4.cell? ⟨w.heap.size, 0, none⟩ = some (.slice ao1 n1 c1) := H4.out.1.cell 0
            have d1 : w4.cell? ⟨w.heap.size, 1, none⟩ = some kv := H4.out.1.cell 1
            have d2 : w4.cell? ⟨w.heap.size, 2, none⟩ = some (.slice ao3 n3 c3) := H4.out.1.cell 2
            go_wp2_with fail
            go_ret
            exact ⟨ret_b (by first | (simp; done) | (simp [r2]; done) | (simp [t2]; done) | (simp [r2, t2]; done)), H4.out.2⟩
          · cases q4
            · skip
              go_wp2_with fail
              rw [← HW.out]
              refine ((A1.out r2) W1 H1.out.2).mono ?_
              rintro e w2 ⟨rfl, hb⟩
              have H2 := Lib.hid (show BlkIs w2 w.heap.size 28 #[.slice ao1 n1 c1, kv, .slice ao3 n3 c3] ∧ Below w.heap.size w w2 from ⟨H1.out.1.below hb H1.out.1.lt, H1.out.2.trans (hb.mono H1.out.2.size)⟩)
              clear hb d0 d1 d2
              have d0 : w2.cell? ⟨w.heap.size, 0, none⟩ = some (.slice ao1 n1 c1) := H2.out.1.cell 0
              have d1 : w2.cell? ⟨w.heap.size, 1, none⟩ = some kv := H2.out.1.cell 1
              have d2 : w2.cell? ⟨w.heap.size, 2, none⟩ = some (.slice ao3 n3 c3) := H2.out.1.cell 2
              go_wp2_with fail
              refine ((A2.out r2) w2 H2.out.2).mono ?_
              rintro e w3 ⟨rfl, hb⟩
              have H3 := Lib.hid (show BlkIs w3 w.heap.size 28 #[.slice ao1 n1 c1, kv, .slice ao3 n3 c3] ∧ Below w.heap.size w w3 from ⟨H2.out.1.below hb H2.out.1.lt, H2.out.2.trans (hb.mono H2.out.2.size)⟩)
              clear hb d0 d1 d2
              have d0 : w3.cell? ⟨w.heap.size, 0, none⟩ = some (.slice ao1 n1 c1) := H3.out.1.cell 0
              have d1 : w3.cell? ⟨w.heap.size, 1, none⟩ = some kv := H3.out.1.cell 1
              have d2 : w3.cell? ⟨w.heap.size, 2, none⟩ = some (.slice ao3 n3 c3) := H3.out.1.cell 2
              go_wp2_with fail
              refine ((A3.out t2) w3 H3.out.2).mono ?_
              rintro e w4 ⟨rfl, hb⟩
              have H4 := Lib.hid (show BlkIs w4 w.heap.size 28 #[.slice ao1 n1 c1, kv, .slice ao3 n3 c3] ∧ Below w.heap.size w w4 from ⟨H3.out.1.below hb H3.out.1.lt, H3.out.2.trans (hb.mono H3.out.2.size)⟩)
              clear hb d0 d1 d2
              have d0 : w4.cell? ⟨w.heap.size, 0, none⟩ = some (.slice ao1 n1 c1) := H4.out.1.cell 0
              have d1 : w4.cell? ⟨w.heap.size, 1, none⟩ = some kv := H4.out.1.cell 1
              have d2 : w4.cell? ⟨w.heap.size, 2, none⟩ = some (.slice ao3 n3 c3) := H4.out.1.cell 2
              go_wp2_with fail
              refine ((A4.out t2) w4 H4.out.2).mono ?_
              rintro e w5 ⟨rfl, hb⟩
              have H5 := Lib.hid (show BlkIs w5 w.heap.size 28 #[.slice ao1 n1 c1, kv, .slice ao3 n3 c3] ∧ Below w.heap.size w w5 from ⟨H4.out.1.below hb H4.out.1.lt, H4.out.2.trans (hb.mono H4.out.2.size)⟩)
              clear hb d0 d1 d2
              have d0 : w5.cell? ⟨w.heap.size, 0, none⟩ = some (.slice ao1 n1 c1) := H5.out.1.cell 0
              have d1 : w5.cell? ⟨w.heap.size, 1, none⟩ = some kv := H5.out.1.cell 1
              have d2 : w5.cell? ⟨w.heap.size, 2, none⟩ = some (.slice ao3 n3 c3) := H5.out.1.cell 2
              go_wp2_with fail
              go_ret
              exact ⟨ret_b (by first | (simp; done) | (simp [r2]; done) | (simp [t2]; done) | (simp [r2, t2]; done)), H5.out.2⟩
            · skip
              go_wp2_with fail
              rw [← HW.out]
              refine ((A1.out r2) W1 H1.out.2).mono ?_
              rintro e w2 ⟨rfl, hb⟩
              have H2 := Lib.hid (show BlkIs w2 w.heap.size 28 #[.slice ao1 n1 c1, kv, .slice ao3 n3 c3] ∧ Below w.heap.size w w2 from ⟨H1.out.1.below hb H1.out.1.lt, H1.out.2.trans (hb.mono H1.out.2.size)⟩)
              clear hb d0 d1 d2
              have d0 : w2.cell? ⟨w.heap.size, 0, none⟩ = some (.slice ao1 n1 c1) := H2.out.1.cell 0
              have d1 : w2.cell? ⟨w.heap.size, 1, none⟩ = some kv := H2.out.1.cell 1
              have d2 : w2.cell? ⟨w.heap.size, 2, none⟩ = some (.slice ao3 n3 c3) := H2.out.1.cell 2
              go_wp2_with fail
              refine ((A2.out r2) w2 H2.out.2).mono ?_
              rintro e w3 ⟨rfl, hb⟩
              have H3 := Lib.hid (show BlkIs w3 w.heap.size 28 #[.slice ao1 n1 c1, kv, .slice ao3 n3 c3] ∧ Below w.heap.size w w3 from ⟨H2.out.1.below hb H2.out.1.lt, H2.out.2.trans (hb.mono H2.out.2.size)⟩)
              clear hb d0 d1 d2
              have d0 : w3.cell? ⟨w.heap.size, 0, none⟩ = some (.slice ao1 n1 c1) := H3.out.1.cell 0
              have d1 : w3.cell? ⟨w.heap.size, 1, none⟩ = some kv := H3.out.1.cell 1
              have d2 : w3.cell? ⟨w.heap.size, 2, none⟩ = some (.slice ao3 n3 c3) := H3.out.1.cell 2
              go_wp2_with fail
              refine ((A3.out t2) w3 H3.out.2).mono ?_
              rintro e w4 ⟨rfl, hb⟩
              have H4 := Lib.hid (show BlkIs w4 w.heap.size 28 #[.slice ao1 n1 c1, kv, .slice ao3 n3 c3] ∧ Below w.heap.size w w4 from ⟨H3.out.1.below hb H3.out.1.lt, H3.out.2.trans (hb.mono H3.out.2.size)⟩)
              clear hb d0 d1 d2
              have d0 : w4.cell? ⟨w.heap.size, 0, none⟩ = some (.slice ao1 n1 c1) := H4.out.1.cell 0
              have d1 : w4.cell? ⟨w.heap.size, 1, none⟩ = some kv := H4.out.1.cell 1
              have d2 : w4.cell? ⟨w.heap.size, 2, none⟩ = some (.slice ao3 n3 c3) := H4.out.1.cell 2
              go_wp2_with fail
              refine ((A4.out t2) w4 H4.out.2).mono ?_
              rintro e w5 ⟨rfl, hb⟩
              have H5 := Lib.hid (show BlkIs w5 w.heap.size 28 #[.slice ao1 n1 c1, kv, .slice ao3 n3 c3] ∧ Below w.heap.size w w5 from ⟨H4.out.1.below hb H4.out.1.lt, H4.out.2.trans (hb.mono H4.out.2.size)⟩)
              clear hb d0 d1 d2
              have d0 : w5.cell? ⟨w.heap.size, 0, none⟩ = some (.slice ao1 n1 c1) := H5.out.1.cell 0
              have d1 : w5.cell? ⟨w.heap.size, 1, none⟩ = some kv := H5.out.1.cell 1
              have d2 : w5.cell? ⟨w.heap.size, 2, none⟩ = some (.slice ao3 n3 c3) := H5.out.1.cell 2
              go_wp2_with fail
              refine (A5.out w5 H5.out.2).mono ?_
              rintro e w6 ⟨rfl, hb⟩
              have H6 := Lib.hid (show BlkIs w6 w.heap.size 28 #[.slice ao1 n1 c1, kv, .slice ao3 n3 c3] ∧ Below w.heap.size w w6 from ⟨H5.out.1.below hb H5.out.1.lt, H5.out.2.trans (hb.mono H5.out.2.size)⟩)
              clear hb d0 d1 d2
              have d0 : w6.cell? ⟨w.heap.size, 0, none⟩ = some (.slice ao1 n1 c1) := H6.out.1.cell 0
              have d1 : w6.cell? ⟨w.heap.size, 1, none⟩ = some kv := H6.out.1.cell 1
              have d2 : w6.cell? ⟨w.heap.size, 2, none⟩ = some (.slice ao3 n3 c3) := H6.out.1.cell 2
              go_wp2_with fail
              go_ret
              exact ⟨ret_b (by first | (simp; done) | (simp [r2]; done) | (simp [t2]; done) | (simp [r2, t2]; done)), H6.out.2⟩
end Go.Proofs.YtljenganlknhbaaGreat.Mk

