/- order's met, walked up to the sort: the row of what was met. Conditions: the book as a map of the call's own, the facts' parents readable. (Layer 11.) -/
import Derived.Test.YthcgdpdijdmelaaGreatOrd6
namespace Go.Proofs.YthcgdpdijdmelaaGreat.Ord
set_option linter.unusedVariables false
open Go.RowKit Go.Sort Go.Lib
def fcells (l : List Fv) : List Value := l.flatMap encF
theorem fcells_length : ∀ l : List Fv, (fcells l).length = l.length * 3
  | [] => rfl
  | x :: r => by
    have := fcells_length r
    unfold fcells at *
    simp only [List.flatMap_cons, List.length_append, this, List.length_cons, encF, List.length_nil]
    omega
theorem fcells_get : ∀ (l : List Fv) (i : Nat) (h : i < l.length), (fcells l)[i * 3]? = some (.string l[i].id) ∧ (fcells l)[i * 3 + 1]? = some (.int .i64 l[i].h) ∧ (fcells l)[i * 3 + 2]? = some (.slice l[i].pa l[i].np l[i].pc)
  | x :: r, 0, h => ⟨rfl, rfl, rfl⟩
  | x :: r, i + 1, h => by
    have ih := fcells_get r i (by simpa using h)
    have e : fcells (x :: r) = encF x ++ fcells r := rfl
    have l3 : (encF x).length = 3 := rfl
    rw [e, List.getElem?_append_right (by omega), List.getElem?_append_right (by omega), List.getElem?_append_right (by omega), l3, show (i + 1) * 3 - 3 = i * 3 by omega, show (i + 1) * 3 + 1 - 3 = i * 3 + 1 by omega, show (i + 1) * 3 + 2 - 3 = i * 3 + 2 by omega]
    simpa using ih
theorem el_fact : ElemOk Tryz.prog 24 28 3 48 := ElemOk.mk' (z := .agg #[.string ⟨#[]⟩, .int .i64 0, .slice none 0 0]) Tryz.underlying24 (by kernel_rfl) rfl
theorem ne_map {w : World} {base : Nat} {e : TypeId} {size n : Nat} {v : Value} {xs : List Value} (h : SlIs w base e size v n xs) {g : Nat} {m : List (ByteArray × Value)} (hb : SMap w g m) : v.ownBlock ≠ some g := by
  obtain ⟨es, clock, hb, _⟩ := hb
  rcases h.2 with ⟨rfl, _⟩ | ⟨g', off, cap, cur, rfl, _, hh, _⟩
  · simp [Value.ownBlock]
  · intro hg
    have : g' = g := by simpa [Value.ownBlock] using hg
    subst this
    obtain ⟨fr, hh, _⟩ := hh
    rw [hb] at hh
    cases hh
/-- What the rounds of met keep. -/
structure MetW (w : World) (g gs : Nat) (n : Nat) (f : Nat → Fv) (s : ByteArray) (v : Value) (i c : Nat) (ix : List Nat) (wr : World) : Prop where
  inv : MetInv n f s ix i c
  sl : SlIs wr w.heap.size 28 3 v ix.length (fcells (ix.map f))
  seen : SMap wr gs (seenL f ix)
  below : Below w.heap.size w wr
theorem MetW.book {w : World} {g gs n : Nat} {f : Nat → Fv} {s : ByteArray} {v : Value} {i c : Nat} {ix : List Nat} {wr : World} (h : MetW w g gs n f s v i c ix wr) {m : List (ByteArray × Value)} (hb : SMap w g m) : SMap wr g m := hb.below h.below hb.lt
/-- What met answers. -/
def MetOut (n : Nat) (f : Nat → Fv) (s : ByteArray) (w w' : World) (e : Ending) : Prop :=
  (¬ Here n f s ∧ e = .returned (.tuple #[.slice none 0 0, .int .i64 12]) ∧ Below w.heap.size w w') ∨
  (Here n f s ∧ (∃ x, Met n f s x ∧ ¬ Here n f x) ∧ e = .returned (.tuple #[.slice none 0 0, .int .i64 21]) ∧ Below w.heap.size w w') ∨
  (Here n f s ∧ (∀ x, Met n f s x → Here n f x) ∧ ∃ (L : List Fv) (ao : Option Addr) (cap : Nat), e = .returned (.tuple #[.slice ao L.length cap, .int .i64 0]) ∧ FactsAt w' ao L.length (fun i => L[i]!) ∧
    (∀ x, x ∈ L ↔ ∃ i, i < n ∧ Met n f s (f i).id ∧ f i = x) ∧ L.Pairwise (fun x y => lowF y x) ∧ L.length ≤ n ∧ Below w.heap.size w w')
end Go.Proofs.YthcgdpdijdmelaaGreat.Ord
