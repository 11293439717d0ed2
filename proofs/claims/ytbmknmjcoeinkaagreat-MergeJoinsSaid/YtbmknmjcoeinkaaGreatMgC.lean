/- Several texts in one. (Layer 12.) -/
import Derived.Test.YtbmknmjcoeinkaaGreatMkSet
import Derived.Test.YtbmknmjcoeinkaaGreatMk1
import Derived.Test.YtbmknmjcoeinkaaGreatMgPl
import Derived.Test.YtbmknmjcoeinkaaGreatMk10
/- Slices of int in the words of SlIs: clone, sort, compact (of layer 08); rows of ints. (Layer 13.) -/
namespace Go.Proofs.YtbmknmjcoeinkaaGreat.Set
set_option linter.unusedVariables false
open Go.RowKit Go.Sort Go.Lib
theorem clone_int (v : Value) (l : List Int) (w : World) (h : IntAt w v l) (hn : l.length ≤ 1000000) :
    Calls Tryz.prog 108 #[v] w fun e w' => ∃ v', e = .returned v' ∧ SlIs w' w.heap.size 3 1 v' l.length (icells l) ∧ Below w.heap.size w w' := by
  obtain ⟨ao, cap, rfl, h1, h2, h3⟩ := h
  cases ao with
  | none =>
    have h0 : l.length = 0 := by
      rcases Nat.eq_zero_or_pos l.length with h | h
      · exact h
      · obtain ⟨b, off, ha, _⟩ := h3 h
        cases ha
    have hl : l = [] := List.eq_nil_of_length_eq_zero h0
    subst hl
    refine (Tryz.slices_Clone_int_nil 0 cap w).mono ?_
    rintro e w' ⟨rfl, rfl⟩
    exact ⟨_, rfl, SlIs.nil_ _ _ _ _, Below.refl _ _⟩
  | some a =>
    rcases Nat.eq_zero_or_pos l.length with h0 | h0
    · have hl : l = [] := List.eq_nil_of_length_eq_zero h0
      subst hl
      refine (Tryz.slices_Clone_int_zero a cap w).mono ?_
      rintro e w' ⟨v', rfl, ho, _, hb⟩
      exact ⟨v', rfl, SlIs.of_own ho, hb⟩
    · obtain ⟨b, off, ha, hlt, hc⟩ := h3 h0
      injection ha with ha
      subst ha
      refine (Tryz.slices_Clone_int b off l.length cap l w (Nat.le_refl _) (by omega) (fun j hj => by
        rw [hc j hj, List.getD_eq_getElem?_getD, List.getElem?_eq_getElem hj]; rfl)).mono ?_
      rintro e w' ⟨v', rfl, ho, _, hb⟩
      rw [List.take_length] at ho
      exact ⟨v', rfl, SlIs.of_own ho, hb⟩
theorem sort_int (base : Nat) (v : Value) (l : List Int) (w : World) (h : SlIs w base 3 1 v l.length (icells l)) (hn : l.length ≤ 1000000) :
    Calls Tryz.prog 88 #[v] w fun e w' => e = .returned (.tuple #[]) ∧ SlIs w' base 3 1 v l.length (icells (l.mergeSort fun x y => decide (x ≤ y))) ∧ w.grownBy w' v.ownBlock := by
  rcases h.parts with ⟨rfl, h0⟩ | ⟨g, off, cap, rfl, hg, hlt, hc, hm, _⟩
  · have hl : l = [] := List.eq_nil_of_length_eq_zero h0
    subst hl
    refine (Tryz.slices_Sort_int_none none 0 w).mono ?_
    rintro e w' ⟨rfl, rfl⟩
    exact ⟨rfl, by simpa [icells] using h, World.grownBy.refl _ _⟩
  · rcases Nat.eq_zero_or_pos l.length with h0 | h0
    · have hl : l = [] := List.eq_nil_of_length_eq_zero h0
      subst hl
      refine (Tryz.slices_Sort_int_none _ cap w).mono ?_
      rintro e w' ⟨rfl, rfl⟩
      exact ⟨rfl, by simpa [icells] using h, World.grownBy.refl _ _⟩
    · refine (Tryz.slices_Sort_int g off cap l w (holds_of _ h) hlt (by omega)).mono ?_
      rintro e w' ⟨rfl, q, os, rfl⟩
      have := sl_sorted (Value.int .i64) h h0 (l.mergeSort fun x y => decide (x ≤ y)).toArray (by simp) q os
      exact ⟨rfl, by simpa [icells] using this, putRow_grown _ _ _ _ _ _ _⟩
theorem compact_int (base : Nat) (v : Value) (l : List Int) (w : World) (h : SlIs w base 3 1 v l.length (icells l)) (hn : l.length ≤ 1000000) :
    Calls Tryz.prog 89 #[v] w fun e w' => ∃ v', e = .returned v' ∧ SlIs w' base 3 1 v' (Lib.compact l).length (icells (Lib.compact l)) ∧ w.grownBy w' v.ownBlock ∧ v'.ownBlock = v.ownBlock := by
  rcases h.parts with ⟨rfl, h0⟩ | ⟨g, off, cap, rfl, hg, hlt, hc, hm, hx, _, hf, _⟩
  · have hl : l = [] := List.eq_nil_of_length_eq_zero h0
    subst hl
    refine (Tryz.slices_Compact_int_empty none 0 w).mono ?_
    rintro e w' ⟨rfl, rfl⟩
    exact ⟨_, rfl, by simpa [icells, Lib.compact, Lib.compactUpTo] using h, World.grownBy.refl _ _, rfl⟩
  · have hk := Lib.compact_length_le l
    refine (Tryz.slices_Compact_int_cells g off l.length cap l w (Nat.le_refl _) (by omega) hc (fun j hj => by
      rw [hx j hj, icells_get l j hj, List.getD_eq_getElem?_getD, List.getElem?_eq_getElem hj]; rfl) (fun j hj => hf j (by omega))).mono ?_
    rintro e w' ⟨rfl, q, rfl⟩
    rw [List.take_length]
    refine ⟨_, rfl, ?_, grown_then (drewN_grown w q _) (setCells_grown _ _ _), rfl⟩
    have hlen : (List.map (Value.int .i64) (Lib.compact l ++ List.replicate (l.length - (Lib.compact l).length) 0)).length = l.length := by simp; omega
    have := SlIs.puts (w := w.drewN q) h 0 (Lib.compact l).length (List.map (Value.int .i64) (Lib.compact l ++ List.replicate (l.length - (Lib.compact l).length) 0)) (icells (Lib.compact l)) (by omega) (by rw [hlen]; omega) (icells_length _) (fun j hj hj2 => by rw [hlen] at hj2; omega) (fun j hj h1 h2 => by
      rw [Nat.sub_zero, List.getElem?_map, List.getElem?_append_left hj, icells, List.getElem?_map])
    exact this
end Go.Proofs.YtbmknmjcoeinkaaGreat.Set
namespace Go.Proofs.YtbmknmjcoeinkaaGreat.Mg
set_option linter.unusedVariables false
open Go.RowKit Go.Lib
open Mk (vInt vTok Tok Tb)
open Set (icells icells_get IntAt El)
theorem rowCells_int (l : List Int) : rowCells vInt l = icells l := by
  unfold rowCells icells vInt
  induction l with
  | nil => rfl
  | cons x l ih => rw [List.flatMap_cons, ih]; rfl
theorem intAt_of {w : World} {v : Value} {l : List Int} (h : RowAt 1 vInt w v l) : IntAt w v l := by
  obtain ⟨ao, cap, hv, h1, h2, h3⟩ := h
  refine ⟨ao, cap, hv, h1, h2, fun hn => ?_⟩
  obtain ⟨b, off, ha, hlt, hc⟩ := h3 hn
  exact ⟨b, off, ha, hlt, fun i hi => by
    have := hc i hi 0 _ rfl
    rwa [Nat.mul_one, Nat.add_zero] at this⟩
/-- Sorted and each once. -/
theorem sortU_of (l : List Int) : compact (l.mergeSort fun x y => decide (x ≤ y)) = sortU l := (sortU_eq (Set.sorted_isOf_int l).1 (Set.sorted_isOf_int l).2).symm
end Go.Proofs.YtbmknmjcoeinkaaGreat.Mg

/- slices.Equal at tokens, walked (printed out of Mk10's tokens_same). (Layer 13.) -/
namespace Go.Proofs.YtbmknmjcoeinkaaGreat.Mg
set_option linter.unusedVariables false
open Go.RowKit Go.Lib
open Mk (Rf Tok Tb TbR aTb vRf vTok vTb eqB eqB_yes eqB_no eql_tok neq_of_eql ret_b take_snoc')
set_option maxRecDepth 100000 in
set_option maxHeartbeats 4000000 in
theorem equal_tok (v v' : Value) (l m : List Tok) (w : World) (h : RowAt 3 vTok w v l) (h' : RowAt 3 vTok w v' m) (hn : l.length ≤ 1000000) (hm : m.length ≤ 1000000) : Calls Tryz.prog 36 #[v, v'] w fun e w' => e = .returned (.bool (eqB l m)) ∧ Below w.heap.size w w' := by
  obtain ⟨ao, cap, rfl, -, -, hc1⟩ := h
  obtain ⟨ao', cap', rfl, -, -, hc2⟩ := h'
  have HC := Lib.hid (And.intro hc1 hc2)
  obtain ⟨q, hq⟩ : ∃ q, q = eqB l m := ⟨_, rfl⟩
  rw [← hq]
  have HQ := Lib.hid hq
  obtain ⟨n, hnn⟩ : ∃ n, n = l.length := ⟨_, rfl⟩
  obtain ⟨n', hnn'⟩ : ∃ n, n = m.length := ⟨_, rfl⟩
  rw [← hnn] at hn ⊢
  rw [← hnn'] at hm ⊢
  have HL := Lib.hid (And.intro hnn hnn')
  clear hc1 hc2 hq hnn hnn'
  go_enter Tryz.func36, Tryz.ntmps36
  by_cases hd : n = n'
  case neg =>
    have e1 : ((n : Int) != n') = true := by simp; omega
    have e2 : (n == n') = false := by simp; omega
    have HD := Lib.hid hd
    clear hd
    go_wp2_with fail
    go_ret
    exact ⟨ret_b (by rw [HQ.out]; symm; exact eqB_no fun e => HD.out (by rw [HL.out.1, HL.out.2, e])), Below.refl _ _⟩
  subst hd
  have e1 : ((n : Int) != n) = false := by simp
  go_wp2_with fail
  go_loopw [13] (fun i wr => ∃ k : Nat, i = .int .i64 (k : Int) ∧ k ≤ n ∧ Hid (l.take k = m.take k) ∧ Hid (Below w.heap.size w wr)) (fun i _ => n - (intOf i).toNat)
  case atStart => exact ⟨0, rfl, Nat.zero_le _, Lib.hid (by simp), Lib.hid (Below.refl _ _)⟩
  case round =>
    obtain ⟨k, rfl, hkl, HM, HB⟩ := hrel
    rcases Nat.lt_or_ge k n with hlt | hge
    · have ki : (k : Int) < n := by omega
      have hk1 : k < l.length := by rw [← HL.out.1]; exact hlt
      have hk2 : k < m.length := by rw [← HL.out.2]; exact hlt
      obtain ⟨b, off, rfl, hb1, hc1⟩ := HC.out.1 (by omega)
      obtain ⟨b', off', rfl, hb2, hc2⟩ := HC.out.2 (by omega)
      obtain ⟨x, hx⟩ : ∃ x, x = l[k] := ⟨_, rfl⟩
      obtain ⟨y, hy⟩ : ∃ y, y = m[k] := ⟨_, rfl⟩
      have HXY := Lib.hid (And.intro hx hy)
      by_cases hxy : x = y
      · subst hxy
        obtain ⟨a0, a1, a2⟩ := x
        have x0 : ∀ X : LaterOf wr, X.w.cell? ⟨b, off + k * 3, none⟩ = some (.int .i64 a0) := fun X => by
          have := hc1 k hk1 0 (.int .i64 a0) (by rw [← hx]; rfl)
          rw [X.h.cell (Nat.lt_of_lt_of_le hb1 HB.out.size), HB.out.cell hb1]; simpa using this
        have x1 : ∀ X : LaterOf wr, X.w.cell? ⟨b, off + k * 3 + 1, none⟩ = some (.int .i64 a1) := fun X => by
          have := hc1 k hk1 1 (.int .i64 a1) (by rw [← hx]; rfl)
          rw [X.h.cell (Nat.lt_of_lt_of_le hb1 HB.out.size), HB.out.cell hb1]; simpa using this
        have x2 : ∀ X : LaterOf wr, X.w.cell? ⟨b, off + k * 3 + 2, none⟩ = some (.string a2) := fun X => by
          have := hc1 k hk1 2 (.string a2) (by rw [← hx]; rfl)
          rw [X.h.cell (Nat.lt_of_lt_of_le hb1 HB.out.size), HB.out.cell hb1]; simpa using this
        have y0 : ∀ X : LaterOf wr, X.w.cell? ⟨b', off' + k * 3, none⟩ = some (.int .i64 a0) := fun X => by
          have := hc2 k hk2 0 (.int .i64 a0) (by rw [← hy]; rfl)
          rw [X.h.cell (Nat.lt_of_lt_of_le hb2 HB.out.size), HB.out.cell hb2]; simpa using this
        have y1 : ∀ X : LaterOf wr, X.w.cell? ⟨b', off' + k * 3 + 1, none⟩ = some (.int .i64 a1) := fun X => by
          have := hc2 k hk2 1 (.int .i64 a1) (by rw [← hy]; rfl)
          rw [X.h.cell (Nat.lt_of_lt_of_le hb2 HB.out.size), HB.out.cell hb2]; simpa using this
        have y2 : ∀ X : LaterOf wr, X.w.cell? ⟨b', off' + k * 3 + 2, none⟩ = some (.string a2) := fun X => by
          have := hc2 k hk2 2 (.string a2) (by rw [← hy]; rfl)
          rw [X.h.cell (Nat.lt_of_lt_of_le hb2 HB.out.size), HB.out.cell hb2]; simpa using this
        clear hc1 hc2 hx hy
        go_wp2_with fail
        refine wp_region_all (fun w' => ∃ x : LaterOf wr, w' = x.w) (by kernel_rfl) (by kernel_rfl) ⟨LaterOf.start wr, rfl⟩ ?_
        repeat (go_big_quiet_step (fail))
        refine wpQuiet_nil ?_
        intro w3 hw3
        obtain ⟨X, rfl⟩ := hw3
        have H3 := Lib.hid (HB.out.trans (X.h.mono HB.out.size))
        obtain ⟨w3, hx3⟩ := X
        clear x0 x1 x2 y0 y1 y2
        go_wp2_with fail
        exact ⟨⟨k + 1, by simp, by omega, Lib.hid (by rw [take_snoc' hk1, take_snoc' hk2, HM.out, ← HXY.out.1, ← HXY.out.2]), H3⟩, by simp [intOf]; omega⟩
      · obtain ⟨a0, a1, a2⟩ := x
        obtain ⟨b0, b1, b2⟩ := y
        have x0 : ∀ X : LaterOf wr, X.w.cell? ⟨b, off + k * 3, none⟩ = some (.int .i64 a0) := fun X => by
          have := hc1 k hk1 0 (.int .i64 a0) (by rw [← hx]; rfl)
          rw [X.h.cell (Nat.lt_of_lt_of_le hb1 HB.out.size), HB.out.cell hb1]; simpa using this
        have x1 : ∀ X : LaterOf wr, X.w.cell? ⟨b, off + k * 3 + 1, none⟩ = some (.int .i64 a1) := fun X => by
          have := hc1 k hk1 1 (.int .i64 a1) (by rw [← hx]; rfl)
          rw [X.h.cell (Nat.lt_of_lt_of_le hb1 HB.out.size), HB.out.cell hb1]; simpa using this
        have x2 : ∀ X : LaterOf wr, X.w.cell? ⟨b, off + k * 3 + 2, none⟩ = some (.string a2) := fun X => by
          have := hc1 k hk1 2 (.string a2) (by rw [← hx]; rfl)
          rw [X.h.cell (Nat.lt_of_lt_of_le hb1 HB.out.size), HB.out.cell hb1]; simpa using this
        have y0 : ∀ X : LaterOf wr, X.w.cell? ⟨b', off' + k * 3, none⟩ = some (.int .i64 b0) := fun X => by
          have := hc2 k hk2 0 (.int .i64 b0) (by rw [← hy]; rfl)
          rw [X.h.cell (Nat.lt_of_lt_of_le hb2 HB.out.size), HB.out.cell hb2]; simpa using this
        have y1 : ∀ X : LaterOf wr, X.w.cell? ⟨b', off' + k * 3 + 1, none⟩ = some (.int .i64 b1) := fun X => by
          have := hc2 k hk2 1 (.int .i64 b1) (by rw [← hy]; rfl)
          rw [X.h.cell (Nat.lt_of_lt_of_le hb2 HB.out.size), HB.out.cell hb2]; simpa using this
        have y2 : ∀ X : LaterOf wr, X.w.cell? ⟨b', off' + k * 3 + 2, none⟩ = some (.string b2) := fun X => by
          have := hc2 k hk2 2 (.string b2) (by rw [← hy]; rfl)
          rw [X.h.cell (Nat.lt_of_lt_of_le hb2 HB.out.size), HB.out.cell hb2]; simpa using this
        have hne := fun w => neq_of_eql (eql_tok ⟨a0, a1, a2⟩ ⟨b0, b1, b2⟩ w)
        rw [eqB_no hxy] at hne
        have hg : Tryz.prog.eqGuardType Tryz.prog.depth 45 = false := by kernel_rfl
        dsimp only [Bool.not_false] at hne
        have HXn := Lib.hid hxy
        clear hc1 hc2 hx hy hxy
        go_wp2_with fail
        refine wp_region_all (fun w' => ∃ x : LaterOf wr, w' = x.w) (by kernel_rfl) (by kernel_rfl) ⟨LaterOf.start wr, rfl⟩ ?_
        repeat (go_big_quiet_step (fail))
        refine wpQuiet_nil ?_
        intro w3 hw3
        obtain ⟨X, rfl⟩ := hw3
        have H3 := Lib.hid (HB.out.trans (X.h.mono HB.out.size))
        obtain ⟨w3, hx3⟩ := X
        clear x0 x1 x2 y0 y1 y2
        go_wp2_with fail
        go_ret
        exact ⟨ret_b (by rw [HQ.out]; symm; exact eqB_no fun e => HXn.out (HXY.out.1.trans ((by subst e; rfl : l[k] = m[k]).trans HXY.out.2.symm))), H3.out⟩
    · have ki : decide (k < n) = false := decide_eq_false (by omega)
      obtain rfl : n = k := by omega
      go_wp2_with fail
      go_ret
      have hm := HM.out
      rw [HL.out.1, List.take_length, ← HL.out.1, HL.out.2, List.take_length] at hm
      exact ⟨ret_b (by rw [HQ.out, eqB_yes hm]), HB.out⟩
end Go.Proofs.YtbmknmjcoeinkaaGreat.Mg

