/- How joins go together: plain laws of rising lists; no program. (Layer 08.) -/
import Derived.Test.YtckhekkdidfefaaGreatSetI6
import Derived.Test.YtckhekkdidfefaaGreatSetR0
namespace Go.Proofs.YtckhekkdidfefaaGreat.Set
set_option linter.unusedVariables false
set_option linter.unusedSectionVars false
variable {α : Type} [El α]
theorem partOf_true {lb : List α} {x : α} : partOf lb true x = true ↔ x ∈ lb := by
  unfold partOf
  by_cases h : x ∈ lb
  · simp [has_true h, h]
  · simp [has_false h, h]
theorem partOf_false {lb : List α} {x : α} : partOf lb false x = true ↔ ¬ x ∈ lb := by
  unfold partOf
  by_cases h : x ∈ lb
  · simp [has_true h, h]
  · simp [has_false h, h]
theorem mem_meet {la lb : List α} {x : α} : x ∈ la.filter (partOf lb true) ↔ x ∈ la ∧ x ∈ lb := by rw [List.mem_filter, partOf_true]
theorem mem_minus {la lb : List α} {x : α} : x ∈ la.filter (partOf lb false) ↔ x ∈ la ∧ ¬ x ∈ lb := by rw [List.mem_filter, partOf_false]
theorem minus_nil {la lb : List α} (h : ∀ x ∈ la, x ∈ lb) : la.filter (partOf lb false) = [] := by
  rw [List.filter_eq_nil_iff]
  intro x hx
  rw [partOf_false]
  exact fun h2 => h2 (h x hx)
theorem parts_len (la lb : List α) : (la.filter (partOf lb false)).length + (la.filter (partOf lb true)).length = la.length := by
  have e : ∀ x, partOf lb false x = !partOf lb true x := fun x => by unfold partOf; cases has lb x <;> rfl
  have h := List.length_eq_countP_add_countP (partOf lb true) (l := la)
  rw [← List.countP_eq_length_filter, ← List.countP_eq_length_filter, h, Nat.add_comm]
  congr 1
  exact List.countP_congr fun x _ => by rw [e]; simp
theorem union_len {la lb lu : List α} (ha : Rise la) (hb : Rise lb) (hu : IsOf (la ++ lb) lu) : lu.length + (la.filter (partOf lb true)).length = la.length + lb.length := by
  have h : IsOf (la.filter (partOf lb false) ++ lb) lu := by
    refine ⟨hu.1, fun x => ?_⟩
    rw [hu.2 x, List.mem_append, List.mem_append, mem_minus]
    constructor
    · rintro (h | h)
      · by_cases hx : x ∈ lb
        · exact Or.inr hx
        · exact Or.inl ⟨h, hx⟩
      · exact Or.inr h
    · rintro (h | h)
      · exact Or.inl h.1
      · exact Or.inr h
  have hn : (la.filter (partOf lb false) ++ lb).Nodup := by
    refine List.nodup_append.2 ⟨rise_nodup (rise_filter ha _), rise_nodup hb, fun x hx y hy e => ?_⟩
    exact (mem_minus.1 hx).2 (e ▸ hy)
  have h1 := isOf_nodup h hn
  rw [List.length_append] at h1
  have h2 := parts_len la lb
  omega
theorem minus_meet (la lb : List α) : (la.filter (partOf lb false)).filter (partOf lb true) = [] := by
  rw [List.filter_eq_nil_iff]
  intro x hx
  rw [partOf_true]
  exact (mem_minus.1 hx).2
theorem back_is {la lb lk : List α} (hk : IsOf (la.filter (partOf lb true) ++ la.filter (partOf lb false)) lk) (x : α) : x ∈ lk ↔ x ∈ la := by
  rw [hk.2 x, List.mem_append, mem_meet, mem_minus]
  by_cases h : x ∈ lb <;> simp [h]
end Go.Proofs.YtckhekkdidfefaaGreat.Set
