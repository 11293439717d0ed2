/- One more commit behind others: its parents as a rising list, its height. No program is walked. (Layer 11.) -/
import Derived.Test.YthcgdpdijdmelaaGreatOrdG0
import Derived.Test.YthcgdpdijdmelaaGreatMkSet
namespace Go.Proofs.YthcgdpdijdmelaaGreat.Ord
set_option linter.unusedVariables false
open Go.RowKit
open Go.Proofs.YthcgdpdijdmelaaGreat.Obj (most most_le most_one)
theorem Grown.zero (f : Nat → Fv) : Grown 0 f := ⟨by omega, fun i hi => by omega, fun i hi => by omega, fun i hi => by omega, fun i hi => by omega, fun i hi => by omega, fun i hi => by omega⟩
theorem snoc_lt {α : Type} [Inhabited α] (o : List α) (x : α) {i : Nat} (h : i < o.length) : (o ++ [x])[i]! = o[i]! := by
  rw [getElem!_pos (o ++ [x]) i (by simp; omega), getElem!_pos o i h, List.getElem_append_left h]
theorem snoc_eq {α : Type} [Inhabited α] (o : List α) (x : α) : (o ++ [x])[o.length]! = x := by
  rw [getElem!_pos (o ++ [x]) o.length (by simp)]
  simp
theorem Grown.snoc {o : List Fv} {x : Fv} (h : Grown o.length (fun i => o[i]!)) (hn : o.length < 40) (hid : x.id = gid o.length) (hnp : x.np ≤ 8) (hpar : ∀ k, k < x.np → ∃ j, j < o.length ∧ x.p k = gid j)
    (h0 : x.np = 0 → x.h = 0) (hs : 0 < x.np → ∃ k, k < x.np ∧ ∃ j, j < o.length ∧ x.p k = gid j ∧ x.h = o[j]!.h + 1) (ht : ∀ k, k < x.np → ∀ j, j < o.length → x.p k = gid j → o[j]!.h + 1 ≤ x.h) :
    Grown (o.length + 1) (fun i => (o ++ [x])[i]!) := by
  have hx := snoc_eq o x
  have hl : ∀ i, i < o.length → (o ++ [x])[i]! = o[i]! := fun i hi => snoc_lt o x hi
  refine ⟨by omega, fun i hi => ?_, fun i hi => ?_, fun i hi k hk => ?_, fun i hi hz => ?_, fun i hi hz => ?_, fun i hi k hk j hj hp => ?_⟩
  · skip
    rcases Nat.lt_or_ge i o.length with h1 | h1
    · rw [hl i h1]; exact h.id i h1
    · obtain rfl : i = o.length := by omega
      rw [hx]; exact hid
  · skip
    rcases Nat.lt_or_ge i o.length with h1 | h1
    · rw [hl i h1]; exact h.np i h1
    · obtain rfl : i = o.length := by omega
      rw [hx]; exact hnp
  · skip
    rcases Nat.lt_or_ge i o.length with h1 | h1
    · rw [hl i h1] at hk ⊢; exact h.par i h1 k hk
    · obtain rfl : i = o.length := by omega
      rw [hx] at hk ⊢; exact hpar k hk
  · skip
    rcases Nat.lt_or_ge i o.length with h1 | h1
    · rw [hl i h1] at hz ⊢; exact h.none_ i h1 hz
    · obtain rfl : i = o.length := by omega
      rw [hx] at hz ⊢; exact h0 hz
  · skip
    rcases Nat.lt_or_ge i o.length with h1 | h1
    · rw [hl i h1] at hz ⊢
      obtain ⟨k, hk, j, hj, hp, he⟩ := h.some_ i h1 hz
      exact ⟨k, hk, j, hj, hp, by rw [hl j (by omega)]; exact he⟩
    · obtain rfl : i = o.length := by omega
      rw [hx] at hz ⊢
      obtain ⟨k, hk, j, hj, hp, he⟩ := hs hz
      exact ⟨k, hk, j, hj, hp, by rw [hl j hj]; exact he⟩
  · skip
    rcases Nat.lt_or_ge i o.length with h1 | h1
    · rw [hl i h1] at hk hp ⊢
      rw [hl j (by omega)]
      exact h.top i h1 k hk j hj hp
    · obtain rfl : i = o.length := by omega
      rw [hx] at hk hp ⊢
      rw [hl j hj]
      exact ht k hk j hj hp
/-- The parents so far, and their heights. -/
structure InPl (k : Nat) (o : List Fv) (l : List ByteArray) (hs : List Int) : Prop where
  from_ : ∀ x, x ∈ l → ∃ j, j < o.length ∧ x = gid j
  len : l.length ≤ k
  same : hs.length = l.length
  hi : ∀ h, h ∈ hs → ∃ j, j < o.length ∧ gid j ∈ l ∧ h = o[j]!.h
  lo : ∀ j, j < o.length → gid j ∈ l → o[j]!.h ∈ hs
theorem InPl.zero (o : List Fv) : InPl 0 o [] [] where
  from_ x h := absurd h (by simp)
  len := Nat.le_refl _
  same := rfl
  hi x h := absurd h (by simp)
  lo j hj h := absurd h (by simp)
theorem InPl.skip {k : Nat} {o : List Fv} {l : List ByteArray} {hs : List Int} (h : InPl k o l hs) {x : ByteArray} (hx : x ∈ l) : InPl (k + 1) o (Set.ins x l) hs := by
  rw [Set.ins_of hx]
  exact ⟨h.from_, by have := h.len; omega, h.same, h.hi, h.lo⟩
theorem InPl.add {k : Nat} {o : List Fv} {l : List ByteArray} {hs : List Int} (h : InPl k o l hs) {j : Nat} (hj : j < o.length) (ho : o.length ≤ 40) (hn : ¬ gid j ∈ l) : InPl (k + 1) o (Set.ins (gid j) l) (hs ++ [o[j]!.h]) where
  from_ x hx := by
    rcases Set.mem_ins.1 hx with rfl | hx
    · exact ⟨j, hj, rfl⟩
    · exact h.from_ x hx
  len := by rw [Set.ins_length hn]; have := h.len; omega
  same := by rw [Set.ins_length hn]; simp [h.same]
  hi x hx := by
    rcases List.mem_append.1 hx with hx | hx
    · obtain ⟨j', h1, h2, h3⟩ := h.hi x hx
      exact ⟨j', h1, Set.mem_ins.2 (Or.inr h2), h3⟩
    · exact ⟨j, hj, Set.mem_ins.2 (Or.inl rfl), by simpa using hx⟩
  lo j' hj' hx := by
    rcases Set.mem_ins.1 hx with hx | hx
    · obtain rfl := gid_inj (by omega) (by omega) hx
      simp
    · exact List.mem_append.2 (Or.inl (h.lo j' hj' hx))
/-- The height that Height tells of numbers. -/
def hgt (hs : List Int) : Int := if hs.length = 0 then 0 else wrap64 (most (fun i => hs[i]!) (hs.length - 1) + 1)
theorem InPl.fact {k : Nat} {o : List Fv} {l : List ByteArray} {hs : List Int} (h : InPl k o l hs) (hk : k ≤ 8) (hg : Grown o.length (fun i => o[i]!)) (ho : o.length < 40) {x : Fv} (hid : x.id = gid o.length) (hnp : x.np = l.length) (hp : ∀ i, i < l.length → x.p i = l[i]!) (hh : x.h = hgt hs) :
    Grown (o.length + 1) (fun i => (o ++ [x])[i]!) := by
  have hmem : ∀ i (hi : i < l.length), l[i]! ∈ l := fun i hi => by rw [getElem!_pos l i hi]; exact List.getElem_mem hi
  have hmem2 : ∀ i (hi : i < hs.length), hs[i]! ∈ hs := fun i hi => by rw [getElem!_pos hs i hi]; exact List.getElem_mem hi
  have hlow : ∀ j, j < o.length → 0 ≤ o[j]!.h ∧ o[j]!.h ≤ j := fun j hj => hg.low j hj
  have hval : 0 < l.length → ∃ i, i ≤ hs.length - 1 ∧ most (fun i => hs[i]!) (hs.length - 1) = hs[i]! ∧ x.h = hs[i]! + 1 := fun hl => by
    obtain ⟨i, hi, he⟩ := most_one (fun i => hs[i]!) (hs.length - 1)
    refine ⟨i, hi, he, ?_⟩
    obtain ⟨j, hj, -, h3⟩ := h.hi _ (hmem2 i (by have := h.same; omega))
    have := hlow j hj
    have he' : most (fun i => hs[i]!) (hs.length - 1) = hs[i]! := he
    rw [hh]
    unfold hgt
    rw [if_neg (by have := h.same; omega), he', h3]
    unfold wrap64
    omega
  refine hg.snoc ho hid (by rw [hnp]; have := h.len; omega) (fun i hi => ?_) (fun hz => ?_) (fun hz => ?_) (fun i hi j hj he => ?_)
  · rw [hnp] at hi
    rw [hp i hi]
    exact h.from_ _ (hmem i hi)
  · rw [hh]
    unfold hgt
    rw [if_pos (by rw [h.same, ← hnp, hz])]
  · rw [hnp] at hz ⊢
    obtain ⟨i, hi, -, he⟩ := hval hz
    obtain ⟨j, hj, hjl, h3⟩ := h.hi _ (hmem2 i (by have := h.same; omega))
    obtain ⟨i', hi', hq⟩ := List.getElem_of_mem hjl
    exact ⟨i', hi', j, hj, by rw [hp i' hi', getElem!_pos l i' hi', hq], by rw [he, h3]⟩
  · rw [hnp] at hi
    rw [hp i hi] at he
    have hm := hmem i hi
    rw [he] at hm
    have h1 := h.lo j hj hm
    obtain ⟨i', hi', hq⟩ := List.getElem_of_mem h1
    obtain ⟨i2, h2, h3, h4⟩ := hval (by omega)
    have h5 := most_le (fun i => hs[i]!) (hs.length - 1) i' (by omega)
    rw [h3] at h5
    rw [getElem!_pos hs i' hi', hq] at h5
    omega
end Go.Proofs.YthcgdpdijdmelaaGreat.Ord
