/- Rows of numbers that came in, opened. No conditions. (Layer 11.) -/
import Derived.Test.YthcgdpdijdmelaaGreatOpenFact
namespace Go.Proofs.YthcgdpdijdmelaaGreat.Ord
open Go.Joins Go.ChangeShapes Go.WideShapes Go.RowKit Go.Deep
open Go.Proofs.YthcgdpdijdmelaaGreat.Obj (IntsAt)
set_option linter.unusedVariables false
/-- A row of numbers as it lies. -/
structure Iv where
  pa : Option Addr
  np : Nat
  pc : Nat
  p : Nat → Int
instance : Inhabited Iv := ⟨⟨none, 0, 0, fun _ => 0⟩⟩
def IntssAt (w : World) (ao : Option Addr) (n : Nat) (f : Nat → Iv) : Prop :=
  (n : Int) ≤ 9223372036854775807 ∧ (0 < n → ∃ b off, ao = some ⟨b, off, none⟩ ∧ b < w.heap.size ∧ ∀ i, i < n → w.cell? ⟨b, off + i, none⟩ = some (.slice (f i).pa (f i).np (f i).pc)) ∧ ∀ i, i < n → IntsAt w (f i).pa (f i).np (f i).p
theorem IntssAt.later {w w' : World} {ao : Option Addr} {n : Nat} {f : Nat → Iv} (h : IntssAt w ao n f) (hb : Below w.heap.size w w') : IntssAt w' ao n f := by
  refine ⟨h.1, fun hn => ?_, fun i hi => (h.2.2 i hi).later hb⟩
  obtain ⟨b, off, ha, hlt, hc⟩ := h.2.1 hn
  exact ⟨b, off, ha, Nat.lt_of_lt_of_le hlt hb.size, fun i hi => by rw [hb.cell hlt]; exact hc i hi⟩
section
variable {H : Type} {enc_ : TypeId × Value → H} {P : Program} {w : World} {base : Nat} {spare : Nat → Bool} {held : Bool}
theorem addr_add (b off : Nat) (j : Nat) : (⟨b, off, none⟩ : Addr).add j = ⟨b, off + j, none⟩ := by
  unfold Addr.add
  split
  · next h0 => rw [h0]; rfl
  · rfl
/-- A slice of ints, by index. -/
theorem open_slice_int {t e : TypeId} {fuel : Nat} {v : Value} {x : DataW H × List MemPlace} (ht : P.underlying t = some (.slice e)) (he : P.underlying e = some (.int .i64)) (hC : P.cellsOf e = 1) (h : DataW.trod enc_ P w base spare held fuel t [v] = some x) :
    ∃ (ao : Option Addr) (len cap : Nat) (f : Nat → Int), v = .slice ao len cap ∧ len ≤ cap ∧ IntsAt w ao len f := by
  rcases open_slice1 ht hC h with ⟨hcs, _⟩ | ⟨a, len, cap, m, n, V, D, Pl, hcs, hb, hl, hm, hmm, hx, hi⟩
  · obtain rfl : v = .slice none 0 0 := by simpa using hcs
    exact ⟨none, 0, 0, fun _ => 0, rfl, by omega, by decide, fun hn => by omega⟩
  · obtain rfl : v = .slice (some a) len cap := by simpa using hcs
    have hlm : len ≤ m := by rw [hmm]; split <;> omega
    have key : ∀ i, ∃ s : Int, i < len → w.cell? (a.add i) = some (.int .i64 s) := fun i => by
      by_cases hil : i < len
      · obtain ⟨h1, h2⟩ := hi i (by omega)
        obtain ⟨s, hs, _⟩ := DataW.trod_int he h2
        obtain hv : V i = .int .i64 s := by simpa using hs
        exact ⟨s, fun _ => by rw [h1, hv]⟩
      · exact ⟨0, fun h => absurd h hil⟩
    obtain ⟨f, hf⟩ := Classical.axiomOfChoice key
    refine ⟨some a, len, cap, f, rfl, hl, by unfold maxLen at hm; omega, fun hn => ?_⟩
    have h0 := hf 0 hn
    obtain ⟨b, off, spot⟩ := a
    have hspot : spot = none := by simpa [Addr.add] using World.cell?_spot h0
    subst hspot
    rw [addr_add] at h0
    exact ⟨b, off, rfl, lt_of_cell h0, fun i hi => by have := hf i hi; rwa [addr_add] at this⟩
/-- A slice of slices of ints. -/
theorem open_slice_ints {t e f : TypeId} {fuel : Nat} {v : Value} {x : DataW H × List MemPlace} (ht : P.underlying t = some (.slice e)) (hC : P.cellsOf e = 1) (he : P.underlying e = some (.slice f)) (hf : P.underlying f = some (.int .i64)) (hCf : P.cellsOf f = 1) (h : DataW.trod enc_ P w base spare held fuel t [v] = some x) :
    ∃ (ao : Option Addr) (len cap : Nat) (g : Nat → Iv), v = .slice ao len cap ∧ len ≤ cap ∧ IntssAt w ao len g := by
  rcases open_slice1 ht hC h with ⟨hcs, _⟩ | ⟨a, len, cap, m, n, V, D, Pl, hcs, hb, hl, hm, hmm, hx, hi⟩
  · obtain rfl : v = .slice none 0 0 := by simpa using hcs
    exact ⟨none, 0, 0, fun _ => default, rfl, by omega, by decide, fun hn => by omega, fun i hi => by omega⟩
  · obtain rfl : v = .slice (some a) len cap := by simpa using hcs
    have hlm : len ≤ m := by rw [hmm]; split <;> omega
    have key : ∀ i, ∃ s : Iv, i < len → w.cell? (a.add i) = some (.slice s.pa s.np s.pc) ∧ IntsAt w s.pa s.np s.p := fun i => by
      by_cases hil : i < len
      · obtain ⟨h1, h2⟩ := hi i (by omega)
        obtain ⟨ao, l, c, g, hv, -, hg⟩ := open_slice_int he hf hCf h2
        exact ⟨⟨ao, l, c, g⟩, fun _ => ⟨by rw [h1, hv], hg⟩⟩
      · exact ⟨default, fun h => absurd h hil⟩
    obtain ⟨g, hg⟩ := Classical.axiomOfChoice key
    refine ⟨some a, len, cap, g, rfl, hl, by unfold maxLen at hm; omega, fun hn => ?_, fun i hi => (hg i hi).2⟩
    have h0 := (hg 0 hn).1
    obtain ⟨b, off, spot⟩ := a
    have hspot : spot = none := by simpa [Addr.add] using World.cell?_spot h0
    subst hspot
    rw [addr_add] at h0
    exact ⟨b, off, rfl, lt_of_cell h0, fun i hi => by have := (hg i hi).1; rwa [addr_add] at this⟩
end
set_option maxRecDepth 100000 in
/-- Rows of numbers that came in. -/
theorem open_intss {H : Type} {enc_ : TypeId × Value → H} {W : World} {base : Nat} {spare : Nat → Bool} {held : Bool} {r : Reach} {b0 : Nat} {v : Value} {d : DataW H} {p : List MemPlace}
    (hv : Value.okWide Tryz.prog W r b0 22 v) (h : DataW.Trod enc_ Tryz.prog W base spare held 22 v d p) : ∃ (ao : Option Addr) (n cap : Nat) (f : Nat → Iv), v = .slice ao n cap ∧ n ≤ cap ∧ IntssAt W ao n f := by
  obtain ⟨fuel, h⟩ := h
  obtain ⟨a0, l0, c0, rfl⟩ := okWide_slice Tryz.underlying22 hv
  exact open_slice_ints Tryz.underlying22 (by kernel_rfl) Tryz.underlying52 Tryz.underlying3 (by kernel_rfl) (by simpa [Value.cells] using h)
end Go.Proofs.YthcgdpdijdmelaaGreat.Ord
