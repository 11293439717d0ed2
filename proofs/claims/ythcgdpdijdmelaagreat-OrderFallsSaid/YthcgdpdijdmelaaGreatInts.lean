/- A slice of ints that came in: opened. No conditions. -/
import Derived.ChangeSlices
import Derived.SizedLaws
import Derived.WalkKit
namespace Go.RowKit
open Go.ChangeShapes Go.WideShapes
/-- The ints of a slice, each in its range, and where they lie. -/
def IntRow (w : World) (ao : Option Addr) (n : Nat) (f : Nat → Int) : Prop :=
  (∀ i, i < n → -9223372036854775808 ≤ f i ∧ f i ≤ 9223372036854775807) ∧ (n : Int) ≤ 9223372036854775807 ∧ (0 < n → ∃ b off, ao = some ⟨b, off, none⟩ ∧ b < w.heap.size ∧ ∀ i, i < n → w.cell? ⟨b, off + i, none⟩ = some (.int .i64 (f i)))

theorem IntRow.later {w w' : World} {ao : Option Addr} {n : Nat} {f : Nat → Int} (h : IntRow w ao n f) (hb : Below w.heap.size w w') : IntRow w' ao n f := by
  refine ⟨h.1, h.2.1, fun hn => ?_⟩
  obtain ⟨b, off, ha, hlt, hc⟩ := h.2.2 hn
  exact ⟨b, off, ha, Nat.lt_of_lt_of_le hlt hb.size, fun i hi => by rw [hb.cell hlt, hc i hi]⟩

theorem open_introw {H : Type} {enc : TypeId × Value → H} {P : Program} {W : World} {t e : TypeId} {ao : Option Addr} {n cap : Nat} {d : DataW H} {ps : List MemPlace} {spare : Nat → Bool} {held : Bool}
    (ht : P.underlying t = some (.slice e)) (he : P.underlying e = some (.int .i64)) (hc : P.cellsOf e = 1)
    (h : DataW.Trod enc P W 0 spare held t (.slice ao n cap) d ps) : ∃ f, IntRow W ao n f := by
  obtain ⟨fuel, hf⟩ := h
  rcases open_ints ht he hc hf with ⟨hcs, _⟩ | ⟨a, l, c, zs, hcs, _, hl, hm, hlen, hx, hcell, hwf⟩
  · simp [Value.cells] at hcs
    obtain ⟨rfl, rfl, rfl⟩ := hcs
    exact ⟨fun _ => 0, fun i hi => by omega, by decide, fun h => by omega⟩
  · simp [Value.cells] at hcs
    obtain ⟨rfl, rfl, rfl⟩ := hcs
    have hnl : n ≤ zs.length := by rw [hlen]; split <;> omega
    refine ⟨fun i => zs.getD i 0, fun i hi => ?_, by unfold maxLen at hm; omega, fun hn => ?_⟩
    · have hi' : i < zs.length := by omega
      have := hwf (zs.getD i 0) (by rw [List.getD_eq_getElem?_getD, List.getElem?_eq_getElem hi']; exact List.getElem_mem _)
      have h2 : IntKind.i64.min ≤ zs.getD i 0 ∧ zs.getD i 0 ≤ IntKind.i64.max := by simpa [Lit.wf, -List.getD_eq_getElem?_getD] using this
      exact h2
    · obtain ⟨b, off, spot⟩ := a
      have h0 := hcell 0 (by omega)
      have hspot : spot = none := by simpa [Addr.add] using World.cell?_spot h0
      subst hspot
      refine ⟨b, off, rfl, ?_, fun i hi => ?_⟩
      · by_cases hb : b < W.heap.size
        · exact hb
        · simp [World.cell?, Addr.add, Array.getElem?_eq_none (Nat.le_of_not_lt hb)] at h0
      · have := hcell i (by omega)
        unfold Addr.add at this
        split at this
        · next h0 => subst h0; exact this
        · exact this
theorem introw_cap {H : Type} {enc : TypeId × Value → H} {P : Program} {W : World} {t e : TypeId} {ao : Option Addr} {n cap : Nat} {d : DataW H} {ps : List MemPlace} {spare : Nat → Bool} {held : Bool}
    (ht : P.underlying t = some (.slice e)) (he : P.underlying e = some (.int .i64)) (hc : P.cellsOf e = 1) (h : DataW.Trod enc P W 0 spare held t (.slice ao n cap) d ps) : n ≤ cap ∧ cap ≤ maxLen := by
  obtain ⟨fuel, hf⟩ := h
  rcases open_ints ht he hc hf with ⟨hcs, _⟩ | ⟨a, l, c, zs, hcs, _, hl, hm, _⟩
  · simp [Value.cells] at hcs
    obtain ⟨rfl, rfl, rfl⟩ := hcs
    exact ⟨Nat.le_refl _, by decide⟩
  · simp [Value.cells] at hcs
    obtain ⟨rfl, rfl, rfl⟩ := hcs
    exact ⟨hl, hm⟩
end Go.RowKit
