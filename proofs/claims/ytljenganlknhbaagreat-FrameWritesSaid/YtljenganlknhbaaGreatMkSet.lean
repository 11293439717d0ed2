/- Several texts in one. (Layer 12.) -/
import Derived.Test.YtljenganlknhbaaGreatPkA
import Derived.Lib.SlicesCompact
import Derived.Test.YtljenganlknhbaaGreatProg
import Derived.Laws.Externs
import Derived.Shelf.Spec.SlicesInsert
import Derived.Lib.AppendZeros
import Derived.Lib.SliceRun
import Derived.Laws.MakeOwn
import Derived.Lib.Hide
import Derived.Sort.Walk0
import Derived.WalkKit
import Derived.BigQuiet
import Derived.Deep.CutRange
import Derived.Test.YtljenganlknhbaaGreatShelf
import Derived.Test.YtljenganlknhbaaGreatIns
import Derived.Test.YtljenganlknhbaaGreatChecked
import Derived.RegionTactic
/- Sets as rising lists: plain laws, over any elements with a strict order. No program. (Layer 08.) -/
namespace Go.Proofs.YtljenganlknhbaaGreat.Set
set_option linter.unusedVariables false
/-- Elements that stand in an order. -/
class El (α : Type) where
  lt : α → α → Prop
  dec : ∀ a b, Decidable (lt a b)
  irr : ∀ a, ¬ lt a a
  tr : ∀ {a b c}, lt a b → lt b c → lt a c
  tri : ∀ a b, lt a b ∨ a = b ∨ lt b a
instance (α : Type) [El α] (a b : α) : Decidable (El.lt a b) := El.dec a b
instance : El Int where
  lt a b := a < b
  dec a b := inferInstance
  irr a := by omega
  tr h k := by omega
  tri a b := by omega
theorem bytes_inj {s t : ByteArray} (h : s.data.toList = t.data.toList) : s = t := by
  apply ByteArray.ext
  apply Array.ext'
  exact h
instance : El ByteArray where
  lt a b := a.data.toList < b.data.toList
  dec a b := inferInstance
  irr a := List.lt_irrefl _
  tr h k := List.lt_trans h k
  tri a b := by
    rcases List.le_total a.data.toList b.data.toList with h | h
    · rcases List.le_iff_lt_or_eq.1 h with h | h
      · exact Or.inl h
      · exact Or.inr (Or.inl (bytes_inj h))
    · rcases List.le_iff_lt_or_eq.1 h with h | h
      · exact Or.inr (Or.inr h)
      · exact Or.inr (Or.inl (bytes_inj h).symm)
variable {α : Type} [El α]
def Rise (l : List α) : Prop := l.Pairwise El.lt
/-- How many stand below. -/
def pos (l : List α) (x : α) : Nat := l.countP fun y => decide (El.lt y x)
end Go.Proofs.YtljenganlknhbaaGreat.Set

/- Slices of struct{}: slices.Clone and slices.Insert, walked. (Layer 08.) -/
namespace Go.Proofs.YtljenganlknhbaaGreat.Set
set_option linter.unusedVariables false
open Go.RowKit Go.Sort Go.Lib
end Go.Proofs.YtljenganlknhbaaGreat.Set

/- Slices of int: slices.Clone, Sort, Compact, Insert, BinarySearch, in the words of SlIs. (Layer 08.) -/
namespace Go.Proofs.YtljenganlknhbaaGreat.Set
set_option linter.unusedVariables false
open Go.RowKit Go.Sort Go.Lib
theorem el_int : ElemOk Tryz.prog 52 3 1 8 := ElemOk.mk' (z := Value.int .i64 0) Tryz.underlying52 (by kernel_rfl) rfl
def icells (l : List Int) : List Value := l.map (Value.int .i64)
theorem icells_get (l : List Int) (i : Nat) (h : i < l.length) : (icells l)[i]? = some (Value.int .i64 l[i]) := by simp [icells, List.getElem?_eq_getElem h]
/-- A slice that can be read. -/
def IntAt (w : World) (v : Value) (l : List Int) : Prop := ∃ (ao : Option Addr) (cap : Nat), v = .slice ao l.length cap ∧ l.length ≤ cap ∧ cap ≤ maxLen ∧
  (0 < l.length → ∃ b off, ao = some ⟨b, off, none⟩ ∧ b < w.heap.size ∧ ∀ i (h : i < l.length), w.cell? ⟨b, off + i, none⟩ = some (Value.int .i64 l[i]))
theorem IntAt.later {w w' : World} {v : Value} {l : List Int} (h : IntAt w v l) (hb : Below w.heap.size w w') : IntAt w' v l := by
  obtain ⟨ao, cap, hv, h1, h2, h3⟩ := h
  refine ⟨ao, cap, hv, h1, h2, fun hn => ?_⟩
  obtain ⟨b, off, ha, hlt, hc⟩ := h3 hn
  exact ⟨b, off, ha, Nat.lt_of_lt_of_le hlt hb.size, fun i hi => by rw [hb.cell hlt, hc i hi]⟩
theorem IntAt.of_sl {w : World} {base : Nat} {e : TypeId} {v : Value} {l : List Int} (h : SlIs w base e 1 v l.length (icells l)) : IntAt w v l := by
  rcases h.parts with ⟨rfl, h0⟩ | ⟨g, off, cap, rfl, _, hlt, hc, hm, hx, _⟩
  · exact ⟨none, 0, by rw [h0], by omega, by decide, fun h => absurd h (by omega)⟩
  · exact ⟨_, cap, rfl, hc, hm, fun _ => ⟨g, off, rfl, hlt, fun i hi => by rw [hx i hi, icells_get l i hi]⟩⟩
end Go.Proofs.YtljenganlknhbaaGreat.Set

/- Slices of int: Sort, Compact, BinarySearch, in the words of SlIs. (Layer 08.) -/
namespace Go.Proofs.YtljenganlknhbaaGreat.Set
set_option linter.unusedVariables false
open Go.RowKit Go.Sort Go.Lib
end Go.Proofs.YtljenganlknhbaaGreat.Set

/- shelf.Set[int]: all, find, Has, Len, At, Keys, List, Of, walked. Conditions: at most 1,000,000 things. (Layer 08.) -/
namespace Go.Proofs.YtljenganlknhbaaGreat.Set
set_option linter.unusedVariables false
open Go.RowKit Go.Sort Go.Lib
theorem DrawsOf.trans {a b c : World} (h : DrawsOf a b) (k : DrawsOf b c) : DrawsOf a c := by
  obtain ⟨n, rfl⟩ := h
  obtain ⟨m, rfl⟩ := k
  exact ⟨n + m, by rw [World.drewN_drewN]⟩
end Go.Proofs.YtljenganlknhbaaGreat.Set

/- shelf.Set[int].Add, walked; Of. Conditions: fewer than 1,000,000 things. (Layer 08.) -/
namespace Go.Proofs.YtljenganlknhbaaGreat.Set
set_option linter.unusedVariables false
open Go.RowKit Go.Sort Go.Lib
end Go.Proofs.YtljenganlknhbaaGreat.Set

/- shelf.Set[int].Add; shelf.Of, walked. (Layer 08.) -/
namespace Go.Proofs.YtljenganlknhbaaGreat.Set
set_option linter.unusedVariables false
open Go.RowKit Go.Sort Go.Lib
end Go.Proofs.YtljenganlknhbaaGreat.Set

/- Slices of string: slices.Clone, Sort, Compact, Insert, BinarySearch, in the words of SlIs. (Layer 08.) -/
namespace Go.Proofs.YtljenganlknhbaaGreat.Set
set_option linter.unusedVariables false
open Go.RowKit Go.Sort Go.Lib
theorem el_string : ElemOk Tryz.prog 22 9 1 16 := ElemOk.mk' (z := Value.string ⟨#[]⟩) Tryz.underlying22 (by kernel_rfl) rfl
def scells (l : List ByteArray) : List Value := l.map (Value.string)
theorem scells_get (l : List ByteArray) (i : Nat) (h : i < l.length) : (scells l)[i]? = some (Value.string l[i]) := by simp [scells, List.getElem?_eq_getElem h]
/-- A slice that can be read. -/
def StrAt (w : World) (v : Value) (l : List ByteArray) : Prop := ∃ (ao : Option Addr) (cap : Nat), v = .slice ao l.length cap ∧ l.length ≤ cap ∧ cap ≤ maxLen ∧
  (0 < l.length → ∃ b off, ao = some ⟨b, off, none⟩ ∧ b < w.heap.size ∧ ∀ i (h : i < l.length), w.cell? ⟨b, off + i, none⟩ = some (Value.string l[i]))
theorem StrAt.later {w w' : World} {v : Value} {l : List ByteArray} (h : StrAt w v l) (hb : Below w.heap.size w w') : StrAt w' v l := by
  obtain ⟨ao, cap, hv, h1, h2, h3⟩ := h
  refine ⟨ao, cap, hv, h1, h2, fun hn => ?_⟩
  obtain ⟨b, off, ha, hlt, hc⟩ := h3 hn
  exact ⟨b, off, ha, Nat.lt_of_lt_of_le hlt hb.size, fun i hi => by rw [hb.cell hlt, hc i hi]⟩
theorem StrAt.of_sl {w : World} {base : Nat} {e : TypeId} {v : Value} {l : List ByteArray} (h : SlIs w base e 1 v l.length (scells l)) : StrAt w v l := by
  rcases h.parts with ⟨rfl, h0⟩ | ⟨g, off, cap, rfl, _, hlt, hc, hm, hx, _⟩
  · exact ⟨none, 0, by rw [h0], by omega, by decide, fun h => absurd h (by omega)⟩
  · exact ⟨_, cap, rfl, hc, hm, fun _ => ⟨g, off, rfl, hlt, fun i hi => by rw [hx i hi, scells_get l i hi]⟩⟩
end Go.Proofs.YtljenganlknhbaaGreat.Set

/- Slices of texts: BinarySearch, in the words of SlIs. (Layer 08.) -/
namespace Go.Proofs.YtljenganlknhbaaGreat.Set
set_option linter.unusedVariables false
open Go.RowKit Go.Sort Go.Lib
theorem less_lt (S T : ByteArray) : Op.bytesLess S.toList T.toList = decide (El.lt S T) := by
  rw [Go.Proofs.bytesLess_eq, ByteArray.toList_eq, ByteArray.toList_eq]
  exact decide_eq_decide.2 Iff.rfl
end Go.Proofs.YtljenganlknhbaaGreat.Set

/- Slices of texts: Sort, Compact, in the words of SlIs. (Layer 08, the seat of the sets of texts.) -/
namespace Go.Proofs.YtljenganlknhbaaGreat.Set
set_option linter.unusedVariables false
open Go.RowKit Go.Sort Go.Lib
instance : El (List UInt8) where
  lt a b := a < b
  dec a b := inferInstance
  irr a := List.lt_irrefl _
  tr h k := List.lt_trans h k
  tri a b := by
    rcases List.le_total a b with h | h
    · rcases List.le_iff_lt_or_eq.1 h with h | h
      · exact Or.inl h
      · exact Or.inr (Or.inl h)
    · rcases List.le_iff_lt_or_eq.1 h with h | h
      · exact Or.inr (Or.inr h)
      · exact Or.inr (Or.inl h.symm)
end Go.Proofs.YtljenganlknhbaaGreat.Set

/- shelf.Set[string]: all, find, Has, Len, At, Keys, List, Of, walked. Conditions: at most 1,000,000 things. (Layer 08.) -/
namespace Go.Proofs.YtljenganlknhbaaGreat.Set
set_option linter.unusedVariables false
open Go.RowKit Go.Sort Go.Lib
end Go.Proofs.YtljenganlknhbaaGreat.Set

/- shelf.Set[string].Add, walked; Of. Conditions: fewer than 1,000,000 things. (Layer 08.) -/
namespace Go.Proofs.YtljenganlknhbaaGreat.Set
set_option linter.unusedVariables false
open Go.RowKit Go.Sort Go.Lib
end Go.Proofs.YtljenganlknhbaaGreat.Set

/- shelf.Set[string].Add; shelf.Of, walked. (Layer 08.) -/
namespace Go.Proofs.YtljenganlknhbaaGreat.Set
set_option linter.unusedVariables false
open Go.RowKit Go.Sort Go.Lib
end Go.Proofs.YtljenganlknhbaaGreat.Set

