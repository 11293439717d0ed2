/- Slices of int: Sort, Compact, BinarySearch, in the words of SlIs. (Layer 08.) -/
import Derived.Test.YtckhekkdidfefaaSetI0
namespace Go.Proofs.Ytckhekkdidfefaa.Set
set_option linter.unusedVariables false
open Go.RowKit Go.Sort Go.Lib
/-- Whether a thing is among others. -/
noncomputable def has {α : Type} (l : List α) (x : α) : Bool := @decide (x ∈ l) (Classical.propDecidable _)
theorem has_true {α : Type} {l : List α} {x : α} (h : x ∈ l) : has l x = true := by unfold has; exact @decide_eq_true _ (Classical.propDecidable _) h
theorem has_false {α : Type} {l : List α} {x : α} (h : ¬ x ∈ l) : has l x = false := by unfold has; exact @decide_eq_false _ (Classical.propDecidable _) h
theorem has_iff {α : Type} {l : List α} {x : α} : has l x = true ↔ x ∈ l := by
  constructor
  · intro h
    exact Classical.byContradiction fun hn => by rw [has_false hn] at h; cases h
  · exact has_true
/-- Behind the library's sort. -/
theorem sl_sorted {α : Type} [Inhabited α] (enc : α → Value) {w : World} {base g off cap : Nat} {e : TypeId} {l : List α} (h : SlIs w base e 1 (.slice (some ⟨g, off, none⟩) l.length cap) l.length (l.map enc)) (hn : 0 < l.length) (d : Array α) (hd : d.size = l.length) (q : Nat) (os : Array Obj) :
    SlIs (grow (putRow enc (Sort.ahead w q) g off d) os) base e 1 (.slice (some ⟨g, off, none⟩) l.length cap) l.length (d.toList.map enc) := by
  rcases h.2 with h0 | ⟨g', off', cap', cur, hv, hg, hh, hc, hm, hs, hx⟩
  · cases h0.1
  · injection hv with e1 e2 e3
    injection e1 with e1
    injection e1 with e1 e4
    subst e1 e3 e4
    refine ⟨by rw [List.length_map, Array.length_toList, hd, Nat.mul_one], .inr ⟨g, off, cap, putCells enc off d cur, rfl, hg, (hh.putRow enc q off d).growO os, hc, hm, by rw [putCells_size]; exact hs, fun j hj => ?_⟩⟩
    have hj' : j < d.size := by simpa using hj
    rw [putCells_in enc off d cur j hj' (by omega), List.getElem?_map, Array.getElem?_toList, Array.getElem?_eq_getElem hj']
    simp [hj']
theorem holds_of {α : Type} [Inhabited α] (enc : α → Value) {w : World} {base g off cap : Nat} {e : TypeId} {l : List α} (h : SlIs w base e 1 (.slice (some ⟨g, off, none⟩) l.length cap) l.length (l.map enc)) : Holds enc w g off l.toArray := by
  rcases h.parts with ⟨hv, _⟩ | ⟨g', off', cap', hv, _, _, hc, _, hx, _, hf, _⟩
  · cases hv
  · injection hv with e1 e2 e3
    injection e1 with e1
    injection e1 with e1 e4
    subst e1 e3 e4
    intro j hj
    have hj' : j < l.length := by simpa using hj
    refine ⟨?_, hf j (by omega)⟩
    rw [hx j hj', List.getElem?_map, List.getElem?_eq_getElem hj']
    simp [hj']
theorem sort_int (base : Nat) (v : Value) (l : List Int) (w : World) (h : SlIs w base 3 1 v l.length (icells l)) (hn : l.length ≤ 1000000) :
    Calls Try.prog 42 #[v] w fun e w' => e = .returned (.tuple #[]) ∧ SlIs w' base 3 1 v l.length (icells (l.mergeSort fun x y => decide (x ≤ y))) ∧ w.grownBy w' v.ownBlock := by
  rcases h.parts with ⟨rfl, h0⟩ | ⟨g, off, cap, rfl, hg, hlt, hc, hm, _⟩
  · have hl : l = [] := List.eq_nil_of_length_eq_zero h0
    subst hl
    refine (Try.slices_Sort_int_none none 0 w).mono ?_
    rintro e w' ⟨rfl, rfl⟩
    exact ⟨rfl, by simpa [icells] using h, World.grownBy.refl _ _⟩
  · rcases Nat.eq_zero_or_pos l.length with h0 | h0
    · have hl : l = [] := List.eq_nil_of_length_eq_zero h0
      subst hl
      refine (Try.slices_Sort_int_none _ cap w).mono ?_
      rintro e w' ⟨rfl, rfl⟩
      exact ⟨rfl, by simpa [icells] using h, World.grownBy.refl _ _⟩
    · refine (Try.slices_Sort_int g off cap l w (holds_of _ h) hlt (by omega)).mono ?_
      rintro e w' ⟨rfl, q, os, rfl⟩
      have := sl_sorted (Value.int .i64) h h0 (l.mergeSort fun x y => decide (x ≤ y)).toArray (by simp) q os
      exact ⟨rfl, by simpa [icells] using this, putRow_grown _ _ _ _ _ _ _⟩
theorem compact_int (base : Nat) (v : Value) (l : List Int) (w : World) (h : SlIs w base 3 1 v l.length (icells l)) (hn : l.length ≤ 1000000) :
    Calls Try.prog 43 #[v] w fun e w' => ∃ v', e = .returned v' ∧ SlIs w' base 3 1 v' (Lib.compact l).length (icells (Lib.compact l)) ∧ w.grownBy w' v.ownBlock ∧ v'.ownBlock = v.ownBlock := by
  rcases h.parts with ⟨rfl, h0⟩ | ⟨g, off, cap, rfl, hg, hlt, hc, hm, hx, _, hf, _⟩
  · have hl : l = [] := List.eq_nil_of_length_eq_zero h0
    subst hl
    refine (Try.slices_Compact_int_empty none 0 w).mono ?_
    rintro e w' ⟨rfl, rfl⟩
    exact ⟨_, rfl, by simpa [icells, Lib.compact, Lib.compactUpTo] using h, World.grownBy.refl _ _, rfl⟩
  · have hk := Lib.compact_length_le l
    refine (Try.slices_Compact_int_cells g off l.length cap l w (Nat.le_refl _) (by omega) hc (fun j hj => by
      rw [hx j hj, icells_get l j hj, List.getD_eq_getElem?_getD, List.getElem?_eq_getElem hj]; rfl) (fun j hj => hf j (by omega))).mono ?_
    rintro e w' ⟨rfl, q, rfl⟩
    rw [List.take_length]
    refine ⟨_, rfl, ?_, grown_then (drewN_grown w q _) (setCells_grown _ _ _), rfl⟩
    have hlen : (List.map (Value.int .i64) (Lib.compact l ++ List.replicate (l.length - (Lib.compact l).length) 0)).length = l.length := by simp; omega
    have := SlIs.puts (w := w.drewN q) h 0 (Lib.compact l).length (List.map (Value.int .i64) (Lib.compact l ++ List.replicate (l.length - (Lib.compact l).length) 0)) (icells (Lib.compact l)) (by omega) (by rw [hlen]; omega) (icells_length _) (fun j hj hj2 => by rw [hlen] at hj2; omega) (fun j hj h1 h2 => by
      rw [Nat.sub_zero, List.getElem?_map, List.getElem?_append_left hj, icells, List.getElem?_map])
    exact this
theorem search_int (v : Value) (l : List Int) (x : Int) (w : World) (h : IntAt w v l) (hr : Rise l) (hn : l.length ≤ 1000000) :
    Calls Try.prog 73 #[v, .int .i64 x] w fun e w' => e = .returned (.tuple #[.int .i64 ((pos l x : Nat) : Int), .bool (has l x)]) ∧ DrawsOf w w' := by
  obtain ⟨ao, cap, rfl, h1, h2, h3⟩ := h
  rcases Nat.eq_zero_or_pos l.length with h0 | h0
  · have hl : l = [] := List.eq_nil_of_length_eq_zero h0
    subst hl
    refine (Try.slices_BinarySearch_int_empty ao cap x w).mono ?_
    rintro e w' ⟨rfl, rfl⟩
    exact ⟨by rw [has_false (by simp)]; rfl, DrawsOf.refl _⟩
  · obtain ⟨b, off, rfl, hlt, hc⟩ := h3 h0
    refine (Try.slices_BinarySearch_int b off l.length cap l x w (Nat.le_refl _) (by omega) (fun j hj => by rw [hc j hj, List.getD_eq_getElem?_getD, List.getElem?_eq_getElem hj]; rfl) (by
      rw [List.take_length]
      exact hr.imp fun {a b} h => by have : a < b := h; omega)).mono ?_
    rintro e w' ⟨rfl, q, rfl⟩
    rw [List.take_length]
    refine ⟨?_, ⟨q, rfl⟩⟩
    have e1 : l.contains x = has l x := by
      by_cases hm : x ∈ l
      · rw [has_true hm]; simpa using hm
      · rw [has_false hm]; simpa using hm
    rw [e1]
    rfl
theorem sorted_isOf_int (l : List Int) : IsOf l (Lib.compact (l.mergeSort fun x y => decide (x ≤ y))) := by
  refine compact_isOf (List.mergeSort_perm _ _) ?_
  have := List.pairwise_mergeSort (le := fun x y : Int => decide (x ≤ y)) (fun a b c h1 h2 => by simp at *; omega) (fun a b => by simp; omega) l
  exact this.imp fun {a b} h => by
    have h' : a ≤ b := by simpa using h
    show ¬ b < a
    omega
end Go.Proofs.Ytckhekkdidfefaa.Set
