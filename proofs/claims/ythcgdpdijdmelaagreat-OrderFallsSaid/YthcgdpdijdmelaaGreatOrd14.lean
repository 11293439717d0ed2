/- The reference's met, walked: rounds until nothing is new. Conditions: the facts readable, at most 1,000,000, no id twice. (Layer 11.) -/
import Derived.Test.YthcgdpdijdmelaaGreatOrd11
import Derived.Deep.OwnRows
namespace Go.Proofs.YthcgdpdijdmelaaGreat.Ord
set_option linter.unusedVariables false
open Go.RowKit Go.Sort Go.Lib
/-- Bools as cells. -/
def boolCells (g : Nat → Bool) (n : Nat) : Array Value := ((List.range n).map fun j => Value.bool (g j)).toArray
theorem boolCells_size (g : Nat → Bool) (n : Nat) : (boolCells g n).size = n := by simp [boolCells]
theorem boolCells_get (g : Nat → Bool) (n i : Nat) (h : i < n) : (boolCells g n)[i]? = some (.bool (g i)) := by simp [boolCells, h]
theorem boolCells_set (g : Nat → Bool) (n i : Nat) (b : Bool) : (boolCells g n).setIfInBounds i (.bool b) = boolCells (fun j => if j = i then b else g j) n := by
  apply Array.ext'
  apply List.ext_getElem?
  intro j
  unfold boolCells
  simp only [Array.toList_setIfInBounds, List.getElem?_set, List.getElem?_map, List.length_map, List.length_range]
  by_cases h : i = j
  · subst h
    by_cases hi : i < n
    · simp [hi]
    · simp [hi]
  · have h' : ¬ j = i := Ne.symm h
    by_cases hj : j < n <;> simp [h, h', hj]
theorem made_bools (n : Nat) : madeCells #[Value.bool false] n = boolCells (fun _ => false) n := by
  apply Array.ext'
  apply List.ext_getElem?
  intro j
  unfold madeCells boolCells
  by_cases hj : j < n <;> simp [hj, Nat.mod_one]
def boolOf : Value → Bool
  | .bool b => b
  | _ => false
/-- How many bools of a block are false. -/
def unseenW (wr : World) (g n : Nat) : Nat := unseen (fun j => boolOf ((wr.cell? ⟨g, j, none⟩).getD undef)) n
theorem unseen_congr {g h : Nat → Bool} : ∀ (n : Nat), (∀ j, j < n → g j = h j) → unseen g n = unseen h n
  | 0, _ => rfl
  | k + 1, e => by
    unfold unseen
    rw [unseen_congr k fun j hj => e j (by omega), e k (by omega)]
theorem unseenW_is {wr : World} {g n : Nat} {seen : Nat → Bool} (h : BlkIs wr g 4 (boolCells seen n)) : unseenW wr g n = unseen seen n :=
  unseen_congr n fun j hj => by rw [h.cell, boolCells_get _ _ _ hj]; rfl
/-- What is left to do: twice the unseen, one more if the last round has grown. -/
def refLeft (g n : Nat) (grown : Value) (wr : World) : Nat := 2 * unseenW wr g n + if boolOf grown then 1 else 0
/-- The rounds' keeping. -/
structure RMet (w : World) (n : Nat) (f : Nat → Fv) (s : ByteArray) (whole grown : Bool) (i c : Nat) (u0 : Nat) (seen : Nat → Bool) (wr : World) : Prop where
  inv : RefInv n f s seen whole grown i c
  blk : BlkIs wr w.heap.size 4 (boolCells seen n)
  below : Below w.heap.size w wr
  less : unseen seen n ≤ u0 ∧ (grown = true → unseen seen n < u0)
/-- What the reference's met answers. -/
def RMetOut (n : Nat) (f : Nat → Fv) (s : ByteArray) (w w' : World) (e : Ending) : Prop :=
  ∃ (seen : Nat → Bool) (whole : Bool), e = .returned (.tuple #[.slice (some ⟨w.heap.size, 0, none⟩) n n, .bool whole]) ∧ BlkIs w' w.heap.size 4 (boolCells seen n) ∧ RefInv n f s seen whole false n 0 ∧ Below w.heap.size w w'
theorem RefInv.init {n : Nat} {f : Nat → Fv} {i : Nat} (hi : i < n) : RefInv n f (f i).id (fun j => if j = i then true else false) true true n 0 where
  met j hj h := by
    by_cases e : j = i
    · rw [e]; exact .self
    · rw [if_neg e] at h; cases h
  start := ⟨i, hi, by simp, rfl⟩
  open_ h := by cases h
  done h := by cases h
end Go.Proofs.YthcgdpdijdmelaaGreat.Ord
