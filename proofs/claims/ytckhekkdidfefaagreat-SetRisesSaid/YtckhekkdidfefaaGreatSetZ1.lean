/- Slices of texts: Sort, Compact, in the words of SlIs. (Layer 08, the seat of the sets of texts.) -/
import Derived.Test.YtckhekkdidfefaaGreatSetS1
namespace Go.Proofs.YtckhekkdidfefaaGreat.Set
set_option linter.unusedVariables false
open Go.RowKit Go.Sort Go.Lib
abbrev toL (s : ByteArray) : List UInt8 := s.data.toList
abbrev ofL_ (u : List UInt8) : ByteArray := ⟨u.toArray⟩
theorem ofL_toL (s : ByteArray) : ofL_ (toL s) = s := by apply ByteArray.ext; simp
theorem toL_ofL (u : List UInt8) : toL (ofL_ u) = u := by simp
theorem scells_enc (l : List ByteArray) : scells l = (l.map toL).map encStr := by
  rw [scells, List.map_map]
  apply List.map_congr_left
  intro s _
  exact congrArg Value.string (ofL_toL s).symm
theorem enc_scells (u : List (List UInt8)) : u.map encStr = scells (u.map ofL_) := by
  rw [scells, List.map_map]
  rfl
instance : El (List UInt8) where
  lt a b := a < b
  dec a b := inferInstance
  irr a := List.lt_irrefl _
  tr h k := List.lt_trans h k
  tri a b := by
    rcases List.le_total a b with h | h
    · rcases List.le_iff_lt_or_eq.1 h with h | h
      · exact Or.inl h
      · exact Or.inr (Or.inl h)
    · rcases List.le_iff_lt_or_eq.1 h with h | h
      · exact Or.inr (Or.inr h)
      · exact Or.inr (Or.inl h.symm)
def bsort (l : List ByteArray) : List ByteArray := ((l.map toL).mergeSort fun x y => decide (x ≤ y)).map ofL_
def bcompact (l : List ByteArray) : List ByteArray := (Lib.compact (l.map toL)).map ofL_
theorem bsort_length (l : List ByteArray) : (bsort l).length = l.length := by simp [bsort]
theorem bcompact_le (l : List ByteArray) : (bcompact l).length ≤ l.length := by
  have := Lib.compact_length_le (l.map toL)
  simpa [bcompact] using this
theorem map_toL_ofL (u : List (List UInt8)) : (u.map ofL_).map toL = u := by
  rw [List.map_map]
  conv => rhs; rw [← List.map_id u]
  rfl
theorem sorted_isOf_string (l : List ByteArray) : IsOf l (bcompact (bsort l)) := by
  have h : IsOf (l.map toL) (Lib.compact ((l.map toL).mergeSort fun x y => decide (x ≤ y))) := by
    refine compact_isOf (List.mergeSort_perm _ _) ?_
    have := List.pairwise_mergeSort (le := fun x y : List UInt8 => decide (x ≤ y)) (fun a b c h1 h2 => by simp at *; exact List.le_trans h1 h2) (fun a b => by simp; exact List.le_total a b) (l.map toL)
    exact this.imp fun {a b} h => by
      have h' : a ≤ b := by simpa using h
      exact h'
  rw [bcompact, bsort, map_toL_ofL]
  refine ⟨?_, fun x => ?_⟩
  · exact List.pairwise_map.2 (h.1.imp fun {a b} hab => by show toL (ofL_ a) < toL (ofL_ b); rw [toL_ofL, toL_ofL]; exact hab)
  · rw [List.mem_map]
    constructor
    · rintro ⟨u, hu, rfl⟩
      obtain ⟨s, hs, rfl⟩ := List.mem_map.1 ((h.2 u).1 hu)
      rw [ofL_toL]; exact hs
    · intro hx
      exact ⟨toL x, (h.2 _).2 (List.mem_map.2 ⟨x, hx, rfl⟩), ofL_toL x⟩
theorem sort_string (base : Nat) (v : Value) (l : List ByteArray) (w : World) (h : SlIs w base 9 1 v l.length (scells l)) (hn : l.length ≤ 1000000) :
    Calls Tryz.prog 27 #[v] w fun e w' => e = .returned (.tuple #[]) ∧ SlIs w' base 9 1 v l.length (scells (bsort l)) ∧ w.grownBy w' v.ownBlock := by
  rcases h.parts with ⟨rfl, h0⟩ | ⟨g, off, cap, rfl, hg, hlt, hc, hm, _⟩
  · have hl : l = [] := List.eq_nil_of_length_eq_zero h0
    subst hl
    refine (Tryz.slices_Sort_string_none none 0 w).mono ?_
    rintro e w' ⟨rfl, rfl⟩
    exact ⟨rfl, by simpa [scells, bsort] using h, World.grownBy.refl _ _⟩
  · rcases Nat.eq_zero_or_pos l.length with h0 | h0
    · have hl : l = [] := List.eq_nil_of_length_eq_zero h0
      subst hl
      refine (Tryz.slices_Sort_string_none _ cap w).mono ?_
      rintro e w' ⟨rfl, rfl⟩
      exact ⟨rfl, by simpa [scells, bsort] using h, World.grownBy.refl _ _⟩
    · obtain ⟨u, hu⟩ : ∃ u, u = l.map toL := ⟨_, rfl⟩
      have hul : u.length = l.length := by rw [hu]; simp
      rw [scells_enc, ← hu, ← hul] at h
      rw [bsort, ← hu, ← enc_scells, ← hul]
      rw [← hul] at h0 hn
      refine (Tryz.slices_Sort_string g off cap u w (holds_of _ h) hlt (by omega)).mono ?_
      rintro e w' ⟨rfl, q, os, rfl⟩
      have := sl_sorted encStr h h0 (u.mergeSort fun x y => decide (x ≤ y)).toArray (by simp) q os
      exact ⟨rfl, by simpa using this, putRow_grown _ _ _ _ _ _ _⟩
theorem compact_string (base : Nat) (v : Value) (l : List ByteArray) (w : World) (h : SlIs w base 9 1 v l.length (scells l)) (hn : l.length ≤ 1000000) :
    Calls Tryz.prog 28 #[v] w fun e w' => ∃ v', e = .returned v' ∧ SlIs w' base 9 1 v' (bcompact l).length (scells (bcompact l)) ∧ w.grownBy w' v.ownBlock ∧ v'.ownBlock = v.ownBlock := by
  rcases h.parts with ⟨rfl, h0⟩ | ⟨g, off, cap, rfl, hg, hlt, hc, hm, hx, _, hf, _⟩
  · have hl : l = [] := List.eq_nil_of_length_eq_zero h0
    subst hl
    refine (Tryz.slices_Compact_string_empty none 0 w).mono ?_
    rintro e w' ⟨rfl, rfl⟩
    exact ⟨_, rfl, by simpa [scells, bcompact, Lib.compact, Lib.compactUpTo] using h, World.grownBy.refl _ _, rfl⟩
  · refine (Tryz.slices_Compact_string_cells g off l.length cap (fun i => l.getD i ⟨#[]⟩) w (by omega) hc (fun j hj => by
      rw [hx j hj, scells_get l j hj, List.getD_eq_getElem?_getD, List.getElem?_eq_getElem hj]; rfl) (fun j hj => hf j (by omega))).mono ?_
    rintro e w' ⟨rfl, q, rfl⟩
    have hso : (Lib.strsOf (fun i => l.getD i ⟨#[]⟩) l.length) = l.map toL := by
      apply List.ext_getElem?
      intro i
      rw [Lib.strsOf, List.getElem?_map, List.getElem?_map]
      by_cases hi : i < l.length
      · rw [List.getElem?_range hi, List.getElem?_eq_getElem hi]
        simp [List.getD_eq_getElem?_getD, List.getElem?_eq_getElem hi]
      · rw [List.getElem?_eq_none (by simpa using hi), List.getElem?_eq_none (by omega)]
        rfl
    rw [hso]
    have hk := Lib.compact_length_le (l.map toL)
    rw [List.length_map] at hk
    have hcl : (bcompact l).length = (Lib.compact (l.map toL)).length := by simp [bcompact]
    refine ⟨.slice (some ⟨g, off, none⟩) (bcompact l).length cap, by rw [hcl], ?_, grown_then (drewN_grown w q _) (setCells_grown _ _ _), rfl⟩
    have hlen : (List.map encStr (Lib.compact (l.map toL) ++ List.replicate (l.length - (Lib.compact (l.map toL)).length) [])).length = l.length := by simp; omega
    have := SlIs.puts (w := w.drewN q) h 0 (bcompact l).length (List.map encStr (Lib.compact (l.map toL) ++ List.replicate (l.length - (Lib.compact (l.map toL)).length) [])) (scells (bcompact l)) (by omega) (by rw [hlen]; omega) (scells_length _) (fun j hj hj2 => by rw [hlen] at hj2; omega) (fun j hj h1 h2 => by
      rw [Nat.sub_zero, List.getElem?_map, List.getElem?_append_left (by omega), bcompact, ← enc_scells, List.getElem?_map])
    exact this
end Go.Proofs.YtckhekkdidfefaaGreat.Set
