/- A slice of strings that came in: opened, each string within the reach. -/
import Derived.SliceStrings
import Derived.SizedLaws
import Derived.WalkKit
namespace Go.RowKit
open Go.ChangeShapes Go.WideShapes
/-- The strings of a slice, each within the reach, and where they lie. -/
def StrRow (w : World) (ao : Option Addr) (n : Nat) (ss : List ByteArray) : Prop :=
  ss.length = n ∧ (∀ s ∈ ss, s.size ≤ 140737488351232) ∧ (n : Int) ≤ 9223372036854775807 ∧ (0 < n → ∃ b off, ao = some ⟨b, off, none⟩ ∧ b < w.heap.size ∧ ∀ i, i < n → w.cell? ⟨b, off + i, none⟩ = some (.string (ss.getD i ByteArray.empty)))

theorem weightsAll_mem {H : Type} {P : Program} {e : TypeId} : ∀ {l : List (DataW H)} {d : DataW H}, d ∈ l → ∀ n ∈ d.weights P e, n ∈ DataW.weightsAll P e l
  | d' :: r, d, hd, n, hn => by
    simp only [DataW.weightsAll, List.mem_append]
    rcases List.mem_cons.1 hd with rfl | h
    · exact Or.inl hn
    · exact Or.inr (weightsAll_mem h n hn)

theorem strRow_nil (w : World) : StrRow w none 0 [] := by
  refine ⟨rfl, ?_, by decide, ?_⟩
  · intro s h; cases h
  · intro h; omega

theorem open_strrow {H : Type} {enc : TypeId × Value → H} {P : Program} {W : World} {t e : TypeId} {ts : List TypeId} {ds : List (DataW H)} {ao : Option Addr} {n cap : Nat} {d : DataW H} {ps : List MemPlace} {spare : Nat → Bool} {held : Bool} {j : Nat}
    (ht : P.underlying t = some (.slice e)) (he : P.underlying e = some .string) (hc : P.cellsOf e = 1)
    (h : DataW.Trod enc P W 0 spare held t (.slice ao n cap) d ps)
    (hz : (DataW.weightsEach P ts ds).all (· ≤ reachBytes) = true) (htj : ts[j]? = some t) (hdj : ds[j]? = some d) : ∃ ss, StrRow W ao n ss := by
  obtain ⟨fuel, hf⟩ := h
  rcases open_strings ht he hc hf with ⟨hcs, _⟩ | ⟨a, l, c, ss, hcs, _, hl, hm, hlen, hx, hcell, _⟩
  · simp [Value.cells] at hcs
    obtain ⟨rfl, rfl, rfl⟩ := hcs
    exact ⟨[], strRow_nil _⟩
  · simp [Value.cells] at hcs
    obtain ⟨rfl, rfl, rfl⟩ := hcs
    obtain ⟨rfl, _⟩ := Prod.mk.inj hx
    have hnl : n ≤ ss.length := by rw [hlen]; split <;> omega
    refine ⟨ss.take n, by rw [List.length_take]; omega, fun s hs => ?_, by unfold maxLen at hm; omega, fun hn => ?_⟩
    · have : s.data.toList.length ≤ reachBytes := by
        refine of_decide_eq_true (List.all_eq_true.1 hz _ (DataW.weights_mem_each htj hdj _ ?_))
        simp only [DataW.weights, ht, List.mem_cons, List.mem_append]
        exact Or.inr (Or.inl (weightsAll_mem (d := .lit (.string s.data.toList)) (List.mem_map.2 ⟨s, hs, rfl⟩) _ (by simp [DataW.weights])))
      exact this
    · obtain ⟨b, off, spot⟩ := a
      have h0 := hcell 0 (by omega)
      have hspot : spot = none := by simpa [Addr.add] using World.cell?_spot h0
      subst hspot
      refine ⟨b, off, rfl, ?_, fun i hi => ?_⟩
      · by_cases hb : b < W.heap.size
        · exact hb
        · simp [World.cell?, Addr.add, Array.getElem?_eq_none (Nat.le_of_not_lt hb)] at h0
      · rw [List.getD_eq_getElem?_getD, List.getElem?_take, if_pos hi, ← List.getD_eq_getElem?_getD]
        have := hcell i (by omega)
        unfold Addr.add at this
        split at this
        · next h0 => subst h0; exact this
        · exact this
theorem strrow_cap {H : Type} {enc : TypeId × Value → H} {P : Program} {W : World} {t e : TypeId} {ao : Option Addr} {n cap : Nat} {d : DataW H} {ps : List MemPlace} {spare : Nat → Bool} {held : Bool}
    (ht : P.underlying t = some (.slice e)) (he : P.underlying e = some .string) (hc : P.cellsOf e = 1) (h : DataW.Trod enc P W 0 spare held t (.slice ao n cap) d ps) : n ≤ cap ∧ cap ≤ maxLen := by
  obtain ⟨fuel, hf⟩ := h
  rcases open_strings ht he hc hf with ⟨hcs, _⟩ | ⟨a, l, c, ss, hcs, _, hl, hm, _⟩
  · simp [Value.cells] at hcs
    obtain ⟨rfl, rfl, rfl⟩ := hcs
    exact ⟨Nat.le_refl _, by decide⟩
  · simp [Value.cells] at hcs
    obtain ⟨rfl, rfl, rfl⟩ := hcs
    exact ⟨hl, hm⟩
end Go.RowKit
