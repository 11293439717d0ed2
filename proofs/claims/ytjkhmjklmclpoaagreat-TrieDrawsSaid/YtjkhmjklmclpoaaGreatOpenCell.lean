/- An argument of type api.Cell, opened. (Layer 10.) -/
import Derived.Test.YtjkhmjklmclpoaaGreatTrI
import Derived.Lib.SmallJoins
import Derived.Deep.Slices
import Derived.Deep.Fields
import Derived.ChangeSame
import Derived.OpenShut
import Derived.SizedLaws
namespace Go.Proofs.YtjkhmjklmclpoaaGreat.Tr
open Go.Joins Go.ChangeShapes Go.WideShapes Go.RowKit Go.Deep
open Set (StrAt)
set_option linter.unusedVariables false
section
variable {H : Type} {enc_ : TypeId × Value → H} {P : Program} {w : World} {base : Nat} {spare : Nat → Bool} {held : Bool}
theorem lt_of_cell {a : Addr} {v : Value} (h : w.cell? a = some v) : a.block < w.heap.size := by
  by_cases hb : a.block < w.heap.size
  · exact hb
  · unfold World.cell? at h
    rw [Array.getElem?_eq_none (Nat.le_of_not_lt hb)] at h
    simp at h
theorem open_agg5 {r : Reach} {b0 : Nat} {t : TypeId} {f0 f1 f2 f3 f4 : Field} {v : Value} {d : DataW H} {p : List MemPlace} (hs : P.underlying t = some (.struct #[f0, f1, f2, f3, f4])) (hone : oneCellFields P #[f0, f1, f2, f3, f4] = true) (hC : P.cellsOf t = 5)
    (hv : Value.okWide P w r b0 t v) (h : DataW.Trod enc_ P w base spare held t v d p) :
    ∃ (v0 v1 v2 v3 v4 : Value) (y0 y1 y2 y3 y4 : DataW H × List MemPlace) (n : Nat), v = .agg #[v0, v1, v2, v3, v4] ∧
      DataW.trod enc_ P w base spare held n f0.type [v0] = some y0 ∧ DataW.trod enc_ P w base spare held n f1.type [v1] = some y1 ∧ DataW.trod enc_ P w base spare held n f2.type [v2] = some y2 ∧ DataW.trod enc_ P w base spare held n f3.type [v3] = some y3 ∧ DataW.trod enc_ P w base spare held n f4.type [v4] = some y4 := by
  obtain ⟨cs, rfl, hsz⟩ := okWide_struct hs hv
  obtain ⟨l⟩ := cs
  match l, hsz.trans hC with
  | [c0, c1, c2, c3, c4], _ =>
    obtain ⟨fuel, hf⟩ := h
    obtain ⟨xs, n, _, hx, _, hlen, hg⟩ := DataW.trod_struct hs hf
    obtain ⟨o0, k0⟩ := hone_of hone 0 f0 rfl
    obtain ⟨o1, k1⟩ := hone_of hone 1 f1 rfl
    obtain ⟨o2, k2⟩ := hone_of hone 2 f2 rfl
    obtain ⟨o3, k3⟩ := hone_of hone 3 f3 rfl
    obtain ⟨o4, k4⟩ := hone_of hone 4 f4 rfl
    match xs, hlen with
    | [y0, y1, y2, y3, y4], _ =>
      exact ⟨c0, c1, c2, c3, c4, y0, y1, y2, y3, y4, n, rfl, by simpa [Value.cells, o0, k0] using hg 0 f0 rfl, by simpa [Value.cells, o1, k1] using hg 1 f1 rfl, by simpa [Value.cells, o2, k2] using hg 2 f2 rfl, by simpa [Value.cells, o3, k3] using hg 3 f3 rfl, by simpa [Value.cells, o4, k4] using hg 4 f4 rfl⟩
theorem open_row_str {t e : TypeId} {fuel : Nat} {v : Value} {x : DataW H × List MemPlace} (ht : P.underlying t = some (.slice e)) (he : P.underlying e = some .string) (hC : P.cellsOf e = 1) (h : DataW.trod enc_ P w base spare held fuel t [v] = some x) :
    ∃ l, StrAt w v l := by
  rcases open_slice1 ht hC h with ⟨hcs, _⟩ | ⟨a, len, cap, m, n, V, D, Pl, hcs, hb, hl, hm, hmm, hx, hi⟩
  · obtain rfl : v = .slice none 0 0 := by simpa using hcs
    exact ⟨[], strAt_nil _⟩
  · obtain rfl : v = .slice (some a) len cap := by simpa using hcs
    have hlm : len ≤ m := by rw [hmm]; split <;> omega
    have key : ∀ i, ∃ s : ByteArray, i < len → w.cell? (a.add i) = some (.string s) := fun i => by
      by_cases hil : i < len
      · obtain ⟨h1, h2⟩ := hi i (by omega)
        obtain ⟨s, hs, _⟩ := DataW.trod_string he h2
        obtain hv : V i = .string s := by simpa using hs
        exact ⟨s, fun _ => by rw [h1, hv]⟩
      · exact ⟨⟨#[]⟩, fun h => absurd h hil⟩
    obtain ⟨f, hf⟩ := Classical.axiomOfChoice key
    refine ⟨(List.range len).map f, some a, cap, by simp, by simpa using hl, hm, fun hn => ?_⟩
    have hn' : 0 < len := by simpa using hn
    have h0 := hf 0 hn'
    obtain ⟨b, off, spot⟩ := a
    have hspot : spot = none := by simpa [Addr.add] using World.cell?_spot h0
    subst hspot
    have hadd : ∀ j, (⟨b, off, none⟩ : Addr).add j = ⟨b, off + j, none⟩ := fun j => by
      unfold Addr.add
      split
      · next h0 => rw [h0]; rfl
      · rfl
    rw [hadd] at h0
    refine ⟨b, off, rfl, lt_of_cell h0, fun i hi => ?_⟩
    have hi' : i < len := by simpa using hi
    have := hf i hi'
    rw [hadd] at this
    rw [this]
    simp
end
set_option maxRecDepth 100000 in
/-- A cell that came in. -/
theorem open_cell {H : Type} {enc_ : TypeId × Value → H} {W : World} {base : Nat} {spare : Nat → Bool} {held : Bool} {r : Reach} {b0 : Nat} {v : Value} {d : DataW H} {p : List MemPlace}
    (hv : Value.okWide Tryz.prog W r b0 25 v) (h : DataW.Trod enc_ Tryz.prog W base spare held 25 v d p) :
    ∃ (c : Cp) (vi vk : Value), v = .agg #[.string c.pre, .int .i64 c.cnt, .string c.sum, vi, vk] ∧ StrAt W vi c.ids ∧ StrAt W vk c.kids ∧ (c.pre.size : Int) ≤ 9223372036854775807 := by
  obtain ⟨v0, v1, v2, v3, v4, y0, y1, y2, y3, y4, n, rfl, h0, h1, h2, h3, h4⟩ := open_agg5 Tryz.underlying25 (by kernel_rfl) (by kernel_rfl) hv h
  obtain ⟨s0, e0, f0⟩ := DataW.trod_string Tryz.underlying9 h0
  obtain ⟨k1, e1, _⟩ := DataW.trod_int Tryz.underlying3 h1
  obtain ⟨s2, e2, _⟩ := DataW.trod_string Tryz.underlying9 h2
  obtain rfl : v0 = .string s0 := by simpa using e0
  obtain rfl : v1 = .int .i64 k1 := by simpa using e1
  obtain rfl : v2 = .string s2 := by simpa using e2
  obtain ⟨l3, r3⟩ := open_row_str Tryz.underlying22 Tryz.underlying9 (by kernel_rfl) h3
  obtain ⟨l4, r4⟩ := open_row_str Tryz.underlying22 Tryz.underlying9 (by kernel_rfl) h4
  exact ⟨⟨s0, k1, s2, l3, l4⟩, v3, v4, rfl, r3, r4, by have := f0.2; unfold maxLen at this; show (s0.size : Int) ≤ 9223372036854775807; omega⟩
end Go.Proofs.YtjkhmjklmclpoaaGreat.Tr
