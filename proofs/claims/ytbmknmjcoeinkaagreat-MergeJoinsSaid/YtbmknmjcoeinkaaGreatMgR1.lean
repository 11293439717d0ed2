/- The reference of layer 13: above, ahead; a row that grows beside a boxed thing. (Layer 13.) -/
import Derived.Test.YtbmknmjcoeinkaaGreatMgE
namespace Go.Proofs.YtbmknmjcoeinkaaGreat.Mg
set_option linter.unusedVariables false
set_option linter.unusedSimpArgs false
open Go.RowKit Go.Lib
open Mk (Rf Tok Tb TbR vRf vTok vTb vInt bytes_eq)
open Set (El)
/-- Where the reference stands that lays a row anew. -/
structure RpSt {α : Type} (enc : α → List Value) (k : Nat) (e : TypeId) (w : World) (xc : Array Value) (v : Value) (n : Nat) (o : List α) (wr : World) : Prop where
  below : Below w.heap.size w wr
  bx : BlkIs wr w.heap.size e xc
  sl : SlIs wr (w.heap.size + 1) e k v n (rowCells enc o)
  len : n = o.length
section
variable {α : Type} {enc : α → List Value} {k : Nat} {e : TypeId} {w wr w' : World} {xc : Array Value} {v v' : Value} {n : Nat} {o : List α}
theorem RpSt.later (h : RpSt enc k e w xc v n o wr) (hb : Below wr.heap.size wr w') : RpSt enc k e w xc v n o w' :=
  ⟨h.below.trans (hb.mono h.below.size), h.bx.below hb h.bx.lt, h.sl.later hb, h.len⟩
theorem RpSt.app (h : RpSt enc k e w xc v n o wr) {y : α} {ob : Obj} (hs : SlIs w' (w.heap.size + 1) e k v' (n + 1) (rowCells enc o ++ enc y)) (hg : (wr.alloc ob).grownBy w' v.ownBlock) : RpSt enc k e w xc v' (n + 1) (o ++ [y]) w' := by
  have hlt := h.bx.lt
  have hne : ∀ j, v.ownBlock = some j → w.heap.size + 1 ≤ j := fun j hj => (h.sl.lt j hj).1
  refine ⟨(h.below.alloc h.below.size ob).grown hg (by simp; omega) (fun j hj => Nat.le_of_succ_le (hne j hj)), (h.bx.alloc ob).grown hg (fun e => ?_), by rw [rowCells_app, rowCells_one]; exact hs, by rw [List.length_append, List.length_singleton, ← h.len]⟩
  have := hne _ e.symm
  omega
end
/-- Whether one ref stands above another one, as the reference reckons it. -/
def abB (x y : Rf) : Bool := decide (y.h < x.h) || (x.h == y.h && (!Op.bytesLess x.id.toList y.id.toList && !(x.id.toList == y.id.toList)))
theorem abB_iff {x y : Rf} : abB x y = true ↔ Ab x y := by
  unfold abB Ab
  rw [Bool.or_eq_true, Bool.and_eq_true, decide_eq_true_iff, beq_iff_eq, Bool.and_eq_true, Set.less_lt, Bool.not_eq_true', Bool.not_eq_true', decide_eq_false_iff_not]
  have h1 : (x.id.toList == y.id.toList) = false ↔ x.id ≠ y.id := by rw [← Bool.not_eq_true, bytes_eq]
  rw [h1]
  constructor
  · rintro (h | ⟨h, h2, h3⟩)
    · exact .inl h
    · refine .inr ⟨h, ?_⟩
      rcases El.tri x.id y.id with t | t | t
      · exact absurd t h2
      · exact absurd t h3
      · exact t
  · rintro (h | ⟨h, h2⟩)
    · exact .inl h
    · exact .inr ⟨h, fun t => El.irr _ (El.tr h2 t), fun t => by rw [t] at h2; exact El.irr _ h2⟩
theorem above_any (x y : Rf) (w : World) : Calls Tryz.prog 41 #[.agg #[.string x.name, .string x.id, .int .i64 x.h], .agg #[.string y.name, .string y.id, .int .i64 y.h]] w fun e w' => e = .returned (.bool (abB x y)) ∧ Below w.heap.size w w' := by
  obtain ⟨W2, hW2⟩ : ∃ W2, W2 = (w.alloc (.cells #[.string x.name, .string x.id, .int .i64 x.h] 49)).alloc (.cells #[.string y.name, .string y.id, .int .i64 y.h] 49) := ⟨_, rfl⟩
  have K := Lib.hid (show BlkIs W2 w.heap.size 49 #[.string x.name, .string x.id, .int .i64 x.h] ∧ BlkIs W2 (w.heap.size + 1) 49 #[.string y.name, .string y.id, .int .i64 y.h] ∧ Below w.heap.size w W2 from by
    rw [hW2]
    exact ⟨(BlkIs.new _ _ _).alloc _, BlkIs.new2 _ _ _ _, ((Below.refl _ _).alloc (Nat.le_refl _) _).alloc (by simp) _⟩)
  have HW := Lib.hid hW2
  obtain ⟨q1, hq1⟩ : ∃ q, q = decide (y.h < x.h) := ⟨_, rfl⟩
  obtain ⟨q2, hq2⟩ : ∃ q, q = (x.h == y.h) := ⟨_, rfl⟩
  obtain ⟨q3, hq3⟩ : ∃ q, q = (!Op.bytesLess x.id.toList y.id.toList && !(x.id.toList == y.id.toList)) := ⟨_, rfl⟩
  have hr : abB x y = (q1 || (q2 && q3)) := by unfold abB; rw [hq1, hq2, hq3]
  rw [hr]
  have h1 := hq1.symm
  have h2 := hq2.symm
  have h3 := hq3.symm
  clear hW2 hr hq1 hq2 hq3
  go_enter Tryz.func41, Tryz.ntmps41
  go_upto_region 1 with (fail)
  rw [← HW.out]
  obtain ⟨k1, k2, -⟩ := K.out
  have e1 : W2.cell? ⟨w.heap.size, 1, none⟩ = some (.string x.id) := k1.cell 1
  have e2 : W2.cell? ⟨w.heap.size, 2, none⟩ = some (.int .i64 x.h) := k1.cell 2
  have f1 : W2.cell? ⟨w.heap.size + 1, 1, none⟩ = some (.string y.id) := k2.cell 1
  have f2 : W2.cell? ⟨w.heap.size + 1, 2, none⟩ = some (.int .i64 y.h) := k2.cell 2
  clear k1 k2
  cases q1 with
  | true =>
    have h1' : y.h < x.h := by simpa using h1
    go_wp2_with fail
    go_ret
    exact ⟨rfl, K.out.2.2⟩
  | false =>
    have h1' : ¬ (y.h < x.h) := by simpa using h1
    cases q2 with
    | false =>
      go_wp2_with fail
      go_ret
      exact ⟨rfl, K.out.2.2⟩
    | true =>
      go_wp2_with fail
      go_ret
      exact ⟨by simp, K.out.2.2⟩
/-- Whether one key stands ahead of another one, as the reference reckons it. -/
def ahB (a b c d : Int) : Bool := decide (a < c) || (a == c && decide (b < d))
theorem ahB_iff {a b c d : Int} : ahB a b c d = true ↔ El.lt ((a, b) : K2) (c, d) := by
  unfold ahB
  rw [lt2, Bool.or_eq_true, Bool.and_eq_true, decide_eq_true_iff, beq_iff_eq, decide_eq_true_iff]
theorem ahead_any (a b c d : Int) (w : World) : Calls Tryz.prog 77 #[.int .i64 a, .int .i64 b, .int .i64 c, .int .i64 d] w fun e w' => e = .returned (.bool (ahB a b c d)) ∧ Below w.heap.size w w' := by
  obtain ⟨q1, hq1⟩ : ∃ q, q = decide (a < c) := ⟨_, rfl⟩
  obtain ⟨q2, hq2⟩ : ∃ q, q = (a == c) := ⟨_, rfl⟩
  obtain ⟨q3, hq3⟩ : ∃ q, q = decide (b < d) := ⟨_, rfl⟩
  have hr : ahB a b c d = (q1 || (q2 && q3)) := by unfold ahB; rw [hq1, hq2, hq3]
  rw [hr]
  have h1 := hq1.symm
  have h2 := hq2.symm
  have h3 := hq3.symm
  clear hr hq1 hq2 hq3
  go_enter Tryz.func77, Tryz.ntmps77
  cases q1 with
  | true =>
    have h1' : a < c := by simpa using h1
    go_wp2_with fail
    go_ret
    exact ⟨rfl, Below.refl _ _⟩
  | false =>
    have h1' : ¬ (a < c) := by simpa using h1
    cases q2 with
    | false =>
      go_wp2_with fail
      go_ret
      exact ⟨rfl, Below.refl _ _⟩
    | true =>
      cases q3 with
      | false =>
        have h3' : ¬ (b < d) := by simpa using h3
        go_wp2_with fail
        go_ret
        exact ⟨rfl, Below.refl _ _⟩
      | true =>
        have h3' : b < d := by simpa using h3
        go_wp2_with fail
        go_ret
        exact ⟨rfl, Below.refl _ _⟩
end Go.Proofs.YtbmknmjcoeinkaaGreat.Mg
