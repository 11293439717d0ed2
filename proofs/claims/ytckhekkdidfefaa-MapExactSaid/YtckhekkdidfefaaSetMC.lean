/- How many keys a row of calls leaves: as many as last calls that put. No program is walked. (Layer 08.) -/
import Derived.Test.YtckhekkdidfefaaSetML
namespace Go.Proofs.Ytckhekkdidfefaa.Set
set_option linter.unusedVariables false
/-- Whether no later one of n calls has this one's key. -/
def lastOf (f : Nat → Cl) (n i : Nat) : Prop := ∀ j, i < j → j < n → (f j).key ≠ (f i).key
open Classical in
noncomputable def alive (f : Nat → Cl) (n i : Nat) : Bool := decide (lastOf f n i ∧ (f i).kind ≠ 3)
open Classical in
theorem alive_iff {f : Nat → Cl} {n i : Nat} : alive f n i = true ↔ lastOf f n i ∧ (f i).kind ≠ 3 := by unfold alive; exact decide_eq_true_iff
noncomputable def cnt (f : Nat → Cl) (n k : Nat) : Nat := ((List.range k).filter (alive f n)).length
theorem cnt_zero (f : Nat → Cl) (n : Nat) : cnt f n 0 = 0 := rfl
theorem cnt_succ (f : Nat → Cl) (n k : Nat) : cnt f n (k + 1) = cnt f n k + (if alive f n k = true then 1 else 0) := by
  unfold cnt
  rw [List.range_succ, List.filter_append, List.length_append]
  congr 1
  by_cases h : alive f n k = true <;> simp [h]
theorem cnt_le (f : Nat → Cl) (n k : Nat) : cnt f n k ≤ k := by
  unfold cnt
  have := List.length_filter_le (alive f n) (List.range k)
  simpa using this
theorem play_key (f : Nat → Cl) (n : Nat) (u : ByteArray) : u ∈ ks (play f n) ↔ ∃ i, i < n ∧ (f i).key = u ∧ alive f n i = true := by
  constructor
  · intro h
    obtain ⟨⟨u', v⟩, hm, rfl⟩ := List.mem_map.1 h
    obtain ⟨i, h1, h2, h3, h4, h5⟩ := (play_mem f u' v n).1 hm
    exact ⟨i, h1, h2, alive_iff.2 ⟨fun j a b => by rw [h2]; exact h5 j a b, h4⟩⟩
  · rintro ⟨i, h1, h2, h3⟩
    obtain ⟨h4, h5⟩ := alive_iff.1 h3
    exact mem_key ((play_mem f u (f i).val n).2 ⟨i, h1, h2, rfl, h5, fun j a b => by rw [← h2]; exact h4 j a b⟩)
theorem cnt_all (f : Nat → Cl) (n : Nat) : cnt f n n = (play f n).length := by
  have his : IsOf (((List.range n).filter (alive f n)).map fun i => (f i).key) (ks (play f n)) := by
    refine ⟨play_rise f n, fun u => ?_⟩
    rw [play_key, List.mem_map]
    constructor
    · rintro ⟨i, h1, h2, h3⟩
      exact ⟨i, List.mem_filter.2 ⟨List.mem_range.2 h1, h3⟩, h2⟩
    · rintro ⟨i, hi, h2⟩
      obtain ⟨h1, h3⟩ := List.mem_filter.1 hi
      exact ⟨i, List.mem_range.1 h1, h2, h3⟩
  have hnd : (((List.range n).filter (alive f n)).map fun i => (f i).key).Nodup := by
    refine List.pairwise_map.2 ?_
    have hr : ((List.range n).filter (alive f n)).Pairwise (· < ·) := List.Pairwise.filter _ List.pairwise_lt_range
    refine hr.imp_of_mem ?_
    intro i j hi hj hij e
    obtain ⟨h1, h2⟩ := List.mem_filter.1 hi
    obtain ⟨h3, h4⟩ := List.mem_filter.1 hj
    exact (alive_iff.1 h2).1 j hij (List.mem_range.1 h3) e.symm
  have := isOf_nodup his hnd
  rw [ks_len, List.length_map] at this
  exact this.symm
theorem last_get {f : Nat → Cl} {n i : Nat} (hi : i < n) (hl : lastOf f n i) : ((f i).key ∈ ks (play f n) ↔ (f i).kind ≠ 3) ∧ ((f i).kind ≠ 3 → mget (play f n) (f i).key = (f i).val) := by
  refine ⟨⟨fun h => ?_, fun h => (play_key f n _).2 ⟨i, hi, rfl, alive_iff.2 ⟨hl, h⟩⟩⟩, fun h => ?_⟩
  · obtain ⟨j, h1, h2, h3⟩ := (play_key f n _).1 h
    obtain ⟨h4, h5⟩ := alive_iff.1 h3
    rcases Nat.lt_trichotomy i j with hij | hij | hij
    · exact (hl j hij h1 h2).elim
    · subst hij; exact h5
    · exact (h4 i hij hi h2.symm).elim
  · exact mget_mem (play_rise f n) ((play_mem f _ _ n).2 ⟨i, hi, rfl, rfl, h, fun j a b => hl j a b⟩)
end Go.Proofs.Ytckhekkdidfefaa.Set
