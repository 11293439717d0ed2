/- Rows of things of k cells that can be read. No program is walked. -/
import Derived.Test.YtbmknmjcoeinkaaGreatSlice
import Derived.Lib.Hide
namespace Go.Proofs.YtbmknmjcoeinkaaGreat
set_option linter.unusedVariables false
open Go.RowKit
section
variable {α : Type} {k : Nat} {enc : α → List Value} {w w' : World} {v : Value} {l : List α}
/-- A slice of things, k cells each, that can be read. -/
def RowAt (k : Nat) (enc : α → List Value) (w : World) (v : Value) (l : List α) : Prop := ∃ (ao : Option Addr) (cap : Nat), v = .slice ao l.length cap ∧ l.length ≤ cap ∧ cap ≤ maxLen ∧
  (0 < l.length → ∃ b off, ao = some ⟨b, off, none⟩ ∧ b < w.heap.size ∧ ∀ i (h : i < l.length) j u, (enc l[i])[j]? = some u → w.cell? ⟨b, off + i * k + j, none⟩ = some u)
theorem RowAt.later (h : RowAt k enc w v l) (hb : Below w.heap.size w w') : RowAt k enc w' v l := by
  obtain ⟨ao, cap, hv, h1, h2, h3⟩ := h
  refine ⟨ao, cap, hv, h1, h2, fun hn => ?_⟩
  obtain ⟨b, off, ha, hlt, hc⟩ := h3 hn
  exact ⟨b, off, ha, Nat.lt_of_lt_of_le hlt hb.size, fun i hi j u hu => by rw [hb.cell hlt]; exact hc i hi j u hu⟩
theorem RowAt.form (h : RowAt k enc w v l) : ∃ ao cap, v = .slice ao l.length cap ∧ l.length ≤ cap ∧ cap ≤ maxLen := by
  obtain ⟨ao, cap, hv, h1, h2, _⟩ := h
  exact ⟨ao, cap, hv, h1, h2⟩
theorem RowAt.nil_ (k : Nat) (enc : α → List Value) (w : World) (ao : Option Addr) (cap : Nat) (h : cap ≤ maxLen) : RowAt k enc w (.slice ao 0 cap) [] := ⟨ao, cap, rfl, Nat.zero_le _, h, fun h => absurd h (Nat.lt_irrefl _)⟩
theorem RowAt.at_ {ao : Option Addr} {n cap : Nat} (h : RowAt k enc w (.slice ao n cap) l) (hn : 0 < n) : ∃ b off, ao = some ⟨b, off, none⟩ ∧ b < w.heap.size ∧ ∀ i (h : i < l.length) j u, (enc l[i])[j]? = some u → w.cell? ⟨b, off + i * k + j, none⟩ = some u := by
  obtain ⟨ao', cap', hv, h1, h2, h3⟩ := h
  injection hv with e1 e2 e3
  subst e1 e3
  exact h3 (by omega)
theorem RowAt.len {ao : Option Addr} {n cap : Nat} (h : RowAt k enc w (.slice ao n cap) l) : n = l.length ∧ n ≤ cap ∧ cap ≤ maxLen := by
  obtain ⟨ao', cap', hv, h1, h2, h3⟩ := h
  injection hv with e1 e2 e3
  subst e2 e3
  exact ⟨rfl, h1, h2⟩
/-- A part of the row, by its capacity. -/
theorem RowAt.part {ao : Option Addr} {n cap : Nat} (h : RowAt k enc w (.slice ao n cap) l) (m c : Nat) (hm : m ≤ n) (hmc : m ≤ c) (hc : c ≤ maxLen) : RowAt k enc w (.slice ao m c) (l.take m) := by
  obtain ⟨h1, h2, h3⟩ := h.len
  have hl : (l.take m).length = m := by rw [List.length_take]; omega
  refine ⟨ao, c, by rw [hl], by rw [hl]; exact hmc, hc, fun hn => ?_⟩
  obtain ⟨b, off, ha, hlt, hx⟩ := h.at_ (by omega)
  refine ⟨b, off, ha, hlt, fun i hi j u hu => hx i (by omega) j u ?_⟩
  rwa [List.getElem_take] at hu
def rowCells (enc : α → List Value) (l : List α) : List Value := l.flatMap enc
theorem rowCells_app (enc : α → List Value) (l m : List α) : rowCells enc (l ++ m) = rowCells enc l ++ rowCells enc m := by simp [rowCells]
theorem rowCells_one (enc : α → List Value) (x : α) : rowCells enc [x] = enc x := by simp [rowCells]
theorem rowCells_len (hk : ∀ x, (enc x).length = k) : ∀ (l : List α), (rowCells enc l).length = l.length * k
  | [] => by simp [rowCells]
  | x :: l => by
    rw [show rowCells enc (x :: l) = enc x ++ rowCells enc l from rfl, List.length_append, hk, rowCells_len hk l, List.length_cons, Nat.add_mul]
    omega
theorem rowCells_get (hk : ∀ x, (enc x).length = k) : ∀ (l : List α) (i : Nat) (h : i < l.length) (j : Nat), j < k → (rowCells enc l)[i * k + j]? = (enc l[i])[j]?
  | x :: l, 0, _, j, hj => by
    rw [show rowCells enc (x :: l) = enc x ++ rowCells enc l from rfl, Nat.zero_mul, Nat.zero_add, List.getElem?_append_left (by rw [hk]; exact hj)]
    rfl
  | x :: l, i + 1, h, j, hj => by
    rw [show rowCells enc (x :: l) = enc x ++ rowCells enc l from rfl, List.getElem?_append_right (by rw [hk, Nat.add_mul]; omega), hk, show (i + 1) * k + j - k = i * k + j by rw [Nat.add_mul]; omega]
    exact rowCells_get hk l i (by simpa using h) j hj
/-- What the call has made itself can be read. -/
theorem RowAt.of_sl {base : Nat} {e : TypeId} (hk : ∀ x, (enc x).length = k) (h : SlIs w base e k v l.length (rowCells enc l)) : RowAt k enc w v l := by
  obtain ⟨ao, cap, rfl, h1, h2, _⟩ := h.form
  refine ⟨ao, cap, rfl, h1, h2, fun hn => ?_⟩
  obtain ⟨g, off, cap', hv, hg, hlt, _, _, hx, _⟩ := h.at_ hn
  injection hv with e1 e2 e3
  subst e1
  refine ⟨g, off, rfl, hlt, fun i hi j u hu => ?_⟩
  have hj : j < k := by
    rw [← hk l[i]]
    exact (List.getElem?_eq_some_iff.1 hu).1
  have hb : i * k + j < l.length * k := by
    have : (i + 1) * k ≤ l.length * k := Nat.mul_le_mul_right k hi
    rw [Nat.add_mul] at this
    omega
  rw [Nat.add_assoc, hx (i * k + j) (by rw [rowCells_len hk]; exact hb), rowCells_get hk l i hi j hj]
  exact hu
/-- The same things in other words. -/
theorem RowAt.map {β : Type} {enc' : β → List Value} {l' : List β} (h : RowAt k enc w v l) (hl : l'.length = l.length) (he : ∀ i (h1 : i < l'.length) (h2 : i < l.length), enc' l'[i] = enc l[i]) : RowAt k enc' w v l' := by
  obtain ⟨ao, cap, hv, h1, h2, h3⟩ := h
  refine ⟨ao, cap, by rw [hl]; exact hv, by omega, h2, fun hn => ?_⟩
  obtain ⟨b, off, ha, hlt, hc⟩ := h3 (by omega)
  exact ⟨b, off, ha, hlt, fun i hi j u hu => hc i (by omega) j u (by rw [← he i hi (by omega)]; exact hu)⟩
end
end Go.Proofs.YtbmknmjcoeinkaaGreat
