/- mark.goodTokens, goodTomb and Good, walked. At most 1,000,000 things in each list. (Layer 12.) -/
import Derived.Test.YtbmknmjcoeinkaaGreatMk4
namespace Go.Proofs.YtbmknmjcoeinkaaGreat.Mk
set_option linter.unusedVariables false
open Go.RowKit
theorem goodThing_tells (l : List Tok) (w : World) : Tells 97 #[] aTok thingB l w :=
  ⟨enters_of Tryz.func97 (by kernel_rfl) rfl, fun x _ W _ => goodThing_any x W⟩
theorem isAhead_tells (l : List Tok) (w : World) : Tells2 49 #[] aTok aheadB l w :=
  ⟨enters_of Tryz.func49 (by kernel_rfl) rfl, fun x _ y _ W _ => isAhead_any x y W⟩
theorem goodRef_tells (l : List Rf) (w : World) : Tells 52 #[] aRf refB l w :=
  ⟨enters_of Tryz.func52 (by kernel_rfl) rfl, fun x _ W _ => goodRef_any x W⟩
theorem names_tells (l : List Rf) (w : World) : Tells2 47 #[] aRf nameLt l w :=
  ⟨enters_of Tryz.func47 (by kernel_rfl) rfl, fun x _ y _ W _ => names_any x y W⟩
theorem tombs_tells (l : List TbR) (w : World) : Tells2 48 #[] aTb (fun x y => tombLt x.t y.t) l w :=
  ⟨enters_of Tryz.func48 (by kernel_rfl) rfl, fun x _ y _ W _ => tombs_any x y W⟩
theorem isNode_tells (l : List Int) (w : World) : Tells 95 #[] aInt isNodeB l w :=
  ⟨enters_of Tryz.func95 (by kernel_rfl) rfl, fun x _ W _ => isNode_any x W⟩
theorem less_tells (l : List Int) (w : World) : Tells2 96 #[] aInt ltB l w :=
  ⟨enters_of Tryz.func96 (by kernel_rfl) rfl, fun x _ y _ W _ => less_any x y W⟩
theorem same_tells (t : TbR) (B : Nat) (l : List Tok) (w : World) (hB : B < w.heap.size) (hc : w.cell? ⟨B, 2, none⟩ = some (.string t.t.id)) : Tells 94 #[.pointer (some ⟨B, 0, none⟩)] aTok (sameId t.t) l w :=
  ⟨enters_of Tryz.func94 (by kernel_rfl) rfl, fun x _ W hW => same_any t x B W (Nat.lt_of_lt_of_le hB hW.size) ((hW.cell (p := ⟨B, 2, none⟩) hB).trans hc)⟩
theorem goodTokens_any (v : Value) (l : List Tok) (w : World) (h : RowAt 3 vTok w v l) : Calls Tryz.prog 57 #[v] w fun e w' => e = .returned (.bool (tokensB l)) ∧ Below w.heap.size w w' := by
  have HT := Lib.hid (show tokensB l = (decide (l.length ≤ 256) && l.all thingB && riseB aheadB l) from rfl)
  have H := Lib.hid h
  obtain ⟨ao, cap, rfl, -, -⟩ := h.form
  by_cases d : l.length ≤ 256
  · have A1 := Lib.hid (fun W (hW : Below w.heap.size w W) => all_tok (.slice ao l.length cap) l 97 #[] thingB W (H.out.later hW) (goodThing_tells l W) (by omega))
    have A2 := Lib.hid (fun W (hW : Below w.heap.size w W) => ri_tok (.slice ao l.length cap) l 49 #[] aheadB W (H.out.later hW) (isAhead_tells l W) (by omega))
    rw [decide_eq_true d, Bool.true_and] at HT
    obtain ⟨q1, hq1⟩ : ∃ q, q = l.all thingB := ⟨_, rfl⟩
    obtain ⟨q2, hq2⟩ : ∃ q, q = riseB aheadB l := ⟨_, rfl⟩
    rw [← hq1] at A1 HT
    rw [← hq2] at A2 HT
    obtain ⟨n, hn⟩ : ∃ n, n = l.length := ⟨_, rfl⟩
    rw [← hn] at A1 A2 d ⊢
    have d1 : (n : Int) ≤ 256 := by omega
    clear h hq1 hq2 hn H d
    go_enter Tryz.func57, Tryz.ntmps57
    cases q1
    · go_wp2_with fail
      refine (A1.out _ (Below.refl _ _)).mono ?_
      rintro e w2 ⟨rfl, hb⟩
      have HB := Lib.hid hb
      clear A1 A2 hb
      go_wp2_with fail
      go_ret
      exact ⟨ret_b (by rw [HT.out]; rfl), HB.out⟩
    · go_wp2_with fail
      refine (A1.out _ (Below.refl _ _)).mono ?_
      rintro e w2 ⟨rfl, hb⟩
      have HB := Lib.hid hb
      clear A1 hb
      go_wp2_with fail
      refine (A2.out _ HB.out).mono ?_
      rintro e w3 ⟨rfl, hb⟩
      have HB2 := Lib.hid (HB.out.trans (hb.mono HB.out.size))
      clear A2 hb
      go_wp2_with fail
      go_ret
      exact ⟨ret_b (by rw [HT.out, Bool.true_and]), HB2.out⟩
  · rw [decide_eq_false d] at HT
    obtain ⟨n, hn⟩ : ∃ n, n = l.length := ⟨_, rfl⟩
    rw [← hn] at d ⊢
    have d1 : decide ((n : Int) ≤ 256) = false := decide_eq_false (by omega)
    have d2 : (256 : Int) < n := by omega
    clear h hn H d
    go_enter Tryz.func57, Tryz.ntmps57
    go_wp2_with fail
    go_ret
    exact ⟨ret_b (by rw [HT.out]; rfl), Below.refl _ _⟩
set_option maxRecDepth 100000 in
set_option maxHeartbeats 2000000 in
theorem goodTomb_any (x : TbR) (w : World) (h : x.Reads w) (hn : x.t.acks.length ≤ 1000000) : Calls Tryz.prog 55 #[aTb x] w fun e w' => e = .returned (.bool (tombB x.t)) ∧ Below w.heap.size w w' := by
  have HT := Lib.hid (show tombB x.t = (thingB (thingOf x.t) && tokensB x.t.cov && x.t.cov.all (sameId x.t) && x.t.acks.all isNodeB && riseB ltB x.t.acks) from rfl)
  have H := Lib.hid h
  have hl : tokensB x.t.cov = true → x.t.cov.length ≤ 1000000 := fun h => by have := (tokensB_at h).1; omega
  have C1 := Lib.hid (fun W => thing_any x W)
  have C2 := Lib.hid (fun W => goodThing_any (thingOf x.t) W)
  have C3 := Lib.hid (fun W (hW : Below w.heap.size w W) => goodTokens_any x.cv x.t.cov W (H.out.later hW).1)
  have C4 := Lib.hid (fun hl W (hW : Below w.heap.size w W) (hB : w.heap.size < W.heap.size) (hc : W.cell? ⟨w.heap.size, 2, none⟩ = some (.string x.t.id)) => all_tok x.cv x.t.cov 94 #[.pointer (some ⟨w.heap.size, 0, none⟩)] (sameId x.t) W (H.out.later hW).1 (same_tells x w.heap.size x.t.cov W hB hc) hl)
  have C5 := Lib.hid (fun W (hW : Below w.heap.size w W) => all_int x.av x.t.acks 95 #[] isNodeB W (H.out.later hW).2 (isNode_tells _ W) hn)
  have C6 := Lib.hid (fun W (hW : Below w.heap.size w W) => ri_int x.av x.t.acks 96 #[] ltB W (H.out.later hW).2 (less_tells _ W) hn)
  obtain ⟨q1, hq1⟩ : ∃ q, q = thingB (thingOf x.t) := ⟨_, rfl⟩
  obtain ⟨q2, hq2⟩ : ∃ q, q = tokensB x.t.cov := ⟨_, rfl⟩
  obtain ⟨q3, hq3⟩ : ∃ q, q = x.t.cov.all (sameId x.t) := ⟨_, rfl⟩
  obtain ⟨q4, hq4⟩ : ∃ q, q = x.t.acks.all isNodeB := ⟨_, rfl⟩
  obtain ⟨q5, hq5⟩ : ∃ q, q = riseB ltB x.t.acks := ⟨_, rfl⟩
  rw [← hq1] at C2
  rw [← hq2] at C3 hl
  rw [← hq3] at C4
  rw [← hq4] at C5
  rw [← hq5] at C6
  rw [← hq1, ← hq2, ← hq3, ← hq4, ← hq5] at HT
  have HL := Lib.hid hl
  clear h hq1 hq2 hq3 hq4 hq5 hl hn
  obtain ⟨⟨a0, a1, a2, a5, a6⟩, a3, a4⟩ := x
  have D1 := Lib.hid (show ∀ W, Calls Tryz.prog 50 #[.agg #[.int .i64 a0, .int .i64 a1, .string a2, a3, a4]] W fun e w' => e = .returned (.agg #[.int .i64 a0, .int .i64 a1, .string a2]) ∧ Below W.heap.size W w' from C1.out)
  have D2 := Lib.hid (show ∀ W, Calls Tryz.prog 97 #[.agg #[.int .i64 a0, .int .i64 a1, .string a2]] W fun e w' => e = .returned (.bool q1) ∧ Below W.heap.size W w' from C2.out)
  show Calls Tryz.prog 55 #[.agg #[.int .i64 a0, .int .i64 a1, .string a2, a3, a4]] w fun e w' => e = .returned (.bool (tombB ⟨a0, a1, a2, a5, a6⟩)) ∧ Below w.heap.size w w'
  dsimp only at C3 C4 C5 C6 HT
  rw [HT.out]
  clear C1 C2 H HT
  obtain ⟨W1, hW1⟩ : ∃ W1, W1 = w.alloc (.cells #[.int .i64 a0, .int .i64 a1, .string a2, a3, a4] 43) := ⟨_, rfl⟩
  have hb1 : Below w.heap.size w W1 := by rw [hW1]; exact (Below.refl _ _).alloc (Nat.le_refl _) _
  have k1 : BlkIs W1 w.heap.size 43 #[.int .i64 a0, .int .i64 a1, .string a2, a3, a4] := by rw [hW1]; exact BlkIs.new _ _ _
  have HW := Lib.hid hW1
  have H1 := Lib.hid (And.intro k1 hb1)
  have d0 : W1.cell? ⟨w.heap.size, 0, none⟩ = some (.int .i64 a0) := k1.cell 0
  have d1 : W1.cell? ⟨w.heap.size, 1, none⟩ = some (.int .i64 a1) := k1.cell 1
  have d2 : W1.cell? ⟨w.heap.size, 2, none⟩ = some (.string a2) := k1.cell 2
  have d3 : W1.cell? ⟨w.heap.size, 3, none⟩ = some (a3) := k1.cell 3
  have d4 : W1.cell? ⟨w.heap.size, 4, none⟩ = some (a4) := k1.cell 4
  clear hW1 hb1 k1
  go_enter Tryz.func55, Tryz.ntmps55
  go_wp2_with fail
  rw [← HW.out]
  refine (D1.out W1).mono ?_
  rintro e w2 ⟨rfl, hb⟩
  have H2 := Lib.hid (show BlkIs w2 w.heap.size 43 #[.int .i64 a0, .int .i64 a1, .string a2, a3, a4] ∧ Below w.heap.size w w2 from ⟨H1.out.1.below hb H1.out.1.lt, H1.out.2.trans (hb.mono H1.out.2.size)⟩)
  clear D1 hb d0 d1 d2 d3 d4
  go_wp2_with fail
  refine (D2.out w2).mono ?_
  rintro e w3 ⟨rfl, hb⟩
  have H3 := Lib.hid (show BlkIs w3 w.heap.size 43 #[.int .i64 a0, .int .i64 a1, .string a2, a3, a4] ∧ Below w.heap.size w w3 from ⟨H2.out.1.below hb H2.out.1.lt, H2.out.2.trans (hb.mono H2.out.2.size)⟩)
  clear D2 hb
  have d0 : w3.cell? ⟨w.heap.size, 0, none⟩ = some (.int .i64 a0) := H3.out.1.cell 0
  have d1 : w3.cell? ⟨w.heap.size, 1, none⟩ = some (.int .i64 a1) := H3.out.1.cell 1
  have d2 : w3.cell? ⟨w.heap.size, 2, none⟩ = some (.string a2) := H3.out.1.cell 2
  have d3 : w3.cell? ⟨w.heap.size, 3, none⟩ = some (a3) := H3.out.1.cell 3
  have d4 : w3.cell? ⟨w.heap.size, 4, none⟩ = some (a4) := H3.out.1.cell 4
  cases q1
  case false =>
    clear C3 C4 C5 C6
    go_wp2_with fail
    go_ret
    exact ⟨ret_b (by simp), H3.out.2⟩
  case true =>
  go_wp2_with fail
  refine (C3.out w3 H3.out.2).mono ?_
  rintro e w4 ⟨rfl, hb⟩
  have H4 := Lib.hid (show BlkIs w4 w.heap.size 43 #[.int .i64 a0, .int .i64 a1, .string a2, a3, a4] ∧ Below w.heap.size w w4 from ⟨H3.out.1.below hb H3.out.1.lt, H3.out.2.trans (hb.mono H3.out.2.size)⟩)
  clear hb d0 d1 d2 d3 d4
  have d0 : w4.cell? ⟨w.heap.size, 0, none⟩ = some (.int .i64 a0) := H4.out.1.cell 0
  have d1 : w4.cell? ⟨w.heap.size, 1, none⟩ = some (.int .i64 a1) := H4.out.1.cell 1
  have d2 : w4.cell? ⟨w.heap.size, 2, none⟩ = some (.string a2) := H4.out.1.cell 2
  have d3 : w4.cell? ⟨w.heap.size, 3, none⟩ = some (a3) := H4.out.1.cell 3
  have d4 : w4.cell? ⟨w.heap.size, 4, none⟩ = some (a4) := H4.out.1.cell 4
  cases q2
  case false =>
    clear C3 C4 C5 C6
    go_wp2_with fail
    go_ret
    exact ⟨ret_b (by simp), H4.out.2⟩
  case true =>
  go_wp2_with fail
  refine (C4.out (HL.out (by simp)) w4 H4.out.2 H4.out.1.lt (H4.out.1.cell 2)).mono ?_
  rintro e w5 ⟨rfl, hb⟩
  have H5 := Lib.hid (show BlkIs w5 w.heap.size 43 #[.int .i64 a0, .int .i64 a1, .string a2, a3, a4] ∧ Below w.heap.size w w5 from ⟨H4.out.1.below hb H4.out.1.lt, H4.out.2.trans (hb.mono H4.out.2.size)⟩)
  clear hb d0 d1 d2 d3 d4
  have d0 : w5.cell? ⟨w.heap.size, 0, none⟩ = some (.int .i64 a0) := H5.out.1.cell 0
  have d1 : w5.cell? ⟨w.heap.size, 1, none⟩ = some (.int .i64 a1) := H5.out.1.cell 1
  have d2 : w5.cell? ⟨w.heap.size, 2, none⟩ = some (.string a2) := H5.out.1.cell 2
  have d3 : w5.cell? ⟨w.heap.size, 3, none⟩ = some (a3) := H5.out.1.cell 3
  have d4 : w5.cell? ⟨w.heap.size, 4, none⟩ = some (a4) := H5.out.1.cell 4
  cases q3
  case false =>
    clear C3 C4 C5 C6
    go_wp2_with fail
    go_ret
    exact ⟨ret_b (by simp), H5.out.2⟩
  case true =>
  go_wp2_with fail
  refine (C5.out w5 H5.out.2).mono ?_
  rintro e w6 ⟨rfl, hb⟩
  have H6 := Lib.hid (show BlkIs w6 w.heap.size 43 #[.int .i64 a0, .int .i64 a1, .string a2, a3, a4] ∧ Below w.heap.size w w6 from ⟨H5.out.1.below hb H5.out.1.lt, H5.out.2.trans (hb.mono H5.out.2.size)⟩)
  clear hb d0 d1 d2 d3 d4
  have d0 : w6.cell? ⟨w.heap.size, 0, none⟩ = some (.int .i64 a0) := H6.out.1.cell 0
  have d1 : w6.cell? ⟨w.heap.size, 1, none⟩ = some (.int .i64 a1) := H6.out.1.cell 1
  have d2 : w6.cell? ⟨w.heap.size, 2, none⟩ = some (.string a2) := H6.out.1.cell 2
  have d3 : w6.cell? ⟨w.heap.size, 3, none⟩ = some (a3) := H6.out.1.cell 3
  have d4 : w6.cell? ⟨w.heap.size, 4, none⟩ = some (a4) := H6.out.1.cell 4
  cases q4
  case false =>
    clear C3 C4 C5 C6
    go_wp2_with fail
    go_ret
    exact ⟨ret_b (by simp), H6.out.2⟩
  case true =>
  go_wp2_with fail
  refine (C6.out w6 H6.out.2).mono ?_
  rintro e w7 ⟨rfl, hb⟩
  have H7 := Lib.hid (show BlkIs w7 w.heap.size 43 #[.int .i64 a0, .int .i64 a1, .string a2, a3, a4] ∧ Below w.heap.size w w7 from ⟨H6.out.1.below hb H6.out.1.lt, H6.out.2.trans (hb.mono H6.out.2.size)⟩)
  clear hb d0 d1 d2 d3 d4
  have d0 : w7.cell? ⟨w.heap.size, 0, none⟩ = some (.int .i64 a0) := H7.out.1.cell 0
  have d1 : w7.cell? ⟨w.heap.size, 1, none⟩ = some (.int .i64 a1) := H7.out.1.cell 1
  have d2 : w7.cell? ⟨w.heap.size, 2, none⟩ = some (.string a2) := H7.out.1.cell 2
  have d3 : w7.cell? ⟨w.heap.size, 3, none⟩ = some (a3) := H7.out.1.cell 3
  have d4 : w7.cell? ⟨w.heap.size, 4, none⟩ = some (a4) := H7.out.1.cell 4
  clear C3 C4 C5 C6
  go_wp2_with fail
  go_ret
  exact ⟨ret_b (by simp), H7.out.2⟩
end Go.Proofs.YtbmknmjcoeinkaaGreat.Mk
