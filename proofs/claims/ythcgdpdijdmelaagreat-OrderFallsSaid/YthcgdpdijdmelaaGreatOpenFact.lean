/- Facts that came in, opened: one, and a slice of them. No conditions. (Layer 11.) -/
import Derived.Test.YthcgdpdijdmelaaGreatOrd3
import Derived.Lib.SmallJoins
import Derived.Deep.Slices
import Derived.Deep.Fields
import Derived.ChangeSame
import Derived.OpenShut
namespace Go.Proofs.YthcgdpdijdmelaaGreat.Ord
open Go.Joins Go.ChangeShapes Go.WideShapes Go.RowKit Go.Deep
set_option linter.unusedVariables false
section
variable {H : Type} {enc_ : TypeId × Value → H} {P : Program} {w : World} {base : Nat} {spare : Nat → Bool} {held : Bool}
theorem lt_of_cell {a : Addr} {v : Value} (h : w.cell? a = some v) : a.block < w.heap.size := by
  by_cases hb : a.block < w.heap.size
  · exact hb
  · unfold World.cell? at h
    rw [Array.getElem?_eq_none (Nat.le_of_not_lt hb)] at h
    simp at h
theorem open_agg3 {r : Reach} {b0 : Nat} {t : TypeId} {f0 f1 f2 : Field} {v : Value} {d : DataW H} {p : List MemPlace} (hs : P.underlying t = some (.struct #[f0, f1, f2])) (hone : oneCellFields P #[f0, f1, f2] = true) (hC : P.cellsOf t = 3)
    (hv : Value.okWide P w r b0 t v) (h : DataW.Trod enc_ P w base spare held t v d p) :
    ∃ (v0 v1 v2 : Value) (y0 y1 y2 : DataW H × List MemPlace) (n : Nat), v = .agg #[v0, v1, v2] ∧
      DataW.trod enc_ P w base spare held n f0.type [v0] = some y0 ∧ DataW.trod enc_ P w base spare held n f1.type [v1] = some y1 ∧ DataW.trod enc_ P w base spare held n f2.type [v2] = some y2 := by
  obtain ⟨cs, rfl, hsz⟩ := okWide_struct hs hv
  obtain ⟨l⟩ := cs
  match l, hsz.trans hC with
  | [c0, c1, c2], _ =>
    obtain ⟨fuel, hf⟩ := h
    obtain ⟨xs, n, _, hx, _, hlen, hg⟩ := DataW.trod_struct hs hf
    obtain ⟨o0, k0⟩ := hone_of hone 0 f0 rfl
    obtain ⟨o1, k1⟩ := hone_of hone 1 f1 rfl
    obtain ⟨o2, k2⟩ := hone_of hone 2 f2 rfl
    match xs, hlen with
    | [y0, y1, y2], _ =>
      exact ⟨c0, c1, c2, y0, y1, y2, n, rfl, by simpa [Value.cells, o0, k0] using hg 0 f0 rfl, by simpa [Value.cells, o1, k1] using hg 1 f1 rfl, by simpa [Value.cells, o2, k2] using hg 2 f2 rfl⟩
/-- A slice of structs of three one-cell fields, by index. -/
theorem open_slice3 {t e : TypeId} {f0 f1 f2 : Field} {fuel : Nat} {v : Value} {x : DataW H × List MemPlace} (ht : P.underlying t = some (.slice e)) (he : P.underlying e = some (.struct #[f0, f1, f2]))
    (hone : oneCellFields P #[f0, f1, f2] = true) (hC : P.cellsOf e = 3) (h : DataW.trod enc_ P w base spare held fuel t [v] = some x) :
    ∃ (ao : Option Addr) (len cap : Nat), v = .slice ao len cap ∧ len ≤ cap ∧ cap ≤ maxLen ∧
      ∀ i, i < len → ∃ a b off, ao = some a ∧ a = ⟨b, off, none⟩ ∧ b < w.heap.size ∧ ∃ v0 v1 v2 y0 y1 y2 n, w.cell? ⟨b, off + i * 3, none⟩ = some v0 ∧ w.cell? ⟨b, off + i * 3 + 1, none⟩ = some v1 ∧ w.cell? ⟨b, off + i * 3 + 2, none⟩ = some v2 ∧
        DataW.trod enc_ P w base spare held n f0.type [v0] = some y0 ∧ DataW.trod enc_ P w base spare held n f1.type [v1] = some y1 ∧ DataW.trod enc_ P w base spare held n f2.type [v2] = some y2 := by
  rcases open_slice ht h with ⟨hcs, _⟩ | ⟨a, len, cap, m, n, D, Pl, hcs, hb, hl, hm, hmm, hx, hi⟩
  · obtain rfl : v = .slice none 0 0 := by simpa using hcs
    exact ⟨none, 0, 0, rfl, by omega, by decide, fun i hi => by omega⟩
  · obtain rfl : v = .slice (some a) len cap := by simpa using hcs
    refine ⟨some a, len, cap, rfl, hl, hm, fun i him => ?_⟩
    obtain ⟨cs', hc, ht'⟩ := hi i (by rw [hmm]; split <;> omega)
    rw [hC] at hc
    obtain ⟨ys, n', hn', hy, hlen, hyl, hf⟩ := DataW.trod_struct he ht'
    obtain ⟨_, hcl, hat⟩ := World.cells?_some hc
    obtain ⟨o0, k0⟩ := hone_of hone 0 f0 rfl
    obtain ⟨o1, k1⟩ := hone_of hone 1 f1 rfl
    obtain ⟨o2, k2⟩ := hone_of hone 2 f2 rfl
    match cs', hcl, ys, hyl with
    | [c0, c1, c2], _, [y0, y1, y2], _ =>
      have p0 := hat 0 (by omega)
      have p1 := hat 1 (by omega)
      have p2 := hat 2 (by omega)
      obtain ⟨cs0, hc0, _⟩ := hi 0 (by rw [hmm]; split <;> omega)
      rw [hC] at hc0
      obtain ⟨_, hcl0, hat0⟩ := World.cells?_some hc0
      have z0 := hat0 0 (by omega)
      rw [Go.Deep.add_add] at p0 p1 p2 z0
      obtain ⟨b, off, spot⟩ := a
      have hspot : spot = none := by
        match cs0, hcl0, z0 with
        | c :: _, _, z0 => simpa [Addr.add] using World.cell?_spot z0
      subst hspot
      have hadd : ∀ j, (⟨b, off, none⟩ : Addr).add j = ⟨b, off + j, none⟩ := fun j => by
        unfold Addr.add
        split
        · next h0 => rw [h0]; rfl
        · rfl
      rw [hadd] at p0 p1 p2
      exact ⟨_, b, off, rfl, rfl, lt_of_cell p0, c0, c1, c2, y0, y1, y2, n', p0, p1, p2, by simpa [o0, k0] using hf 0 f0 rfl, by simpa [o1, k1] using hf 1 f1 rfl, by simpa [o2, k2] using hf 2 f2 rfl⟩
/-- A slice of strings, by index. -/
theorem open_slice_str {t e : TypeId} {fuel : Nat} {v : Value} {x : DataW H × List MemPlace} (ht : P.underlying t = some (.slice e)) (he : P.underlying e = some .string) (hC : P.cellsOf e = 1) (h : DataW.trod enc_ P w base spare held fuel t [v] = some x) :
    ∃ (ao : Option Addr) (len cap : Nat) (f : Nat → ByteArray), v = .slice ao len cap ∧ len ≤ cap ∧ StrsAt w ao len f := by
  rcases open_slice1 ht hC h with ⟨hcs, _⟩ | ⟨a, len, cap, m, n, V, D, Pl, hcs, hb, hl, hm, hmm, hx, hi⟩
  · obtain rfl : v = .slice none 0 0 := by simpa using hcs
    exact ⟨none, 0, 0, fun _ => ⟨#[]⟩, rfl, by omega, by decide, fun hn => by omega⟩
  · obtain rfl : v = .slice (some a) len cap := by simpa using hcs
    have hlm : len ≤ m := by rw [hmm]; split <;> omega
    have key : ∀ i, ∃ s : ByteArray, i < len → w.cell? (a.add i) = some (.string s) := fun i => by
      by_cases hil : i < len
      · obtain ⟨h1, h2⟩ := hi i (by omega)
        obtain ⟨s, hs, _⟩ := DataW.trod_string he h2
        obtain hv : V i = .string s := by simpa using hs
        exact ⟨s, fun _ => by rw [h1, hv]⟩
      · exact ⟨⟨#[]⟩, fun h => absurd h hil⟩
    obtain ⟨f, hf⟩ := Classical.axiomOfChoice key
    refine ⟨some a, len, cap, f, rfl, hl, by unfold maxLen at hm; omega, fun hn => ?_⟩
    have h0 := hf 0 hn
    obtain ⟨b, off, spot⟩ := a
    have hspot : spot = none := by simpa [Addr.add] using World.cell?_spot h0
    subst hspot
    have hadd : ∀ j, (⟨b, off, none⟩ : Addr).add j = ⟨b, off + j, none⟩ := fun j => by
      unfold Addr.add
      split
      · next h0 => rw [h0]; rfl
      · rfl
    rw [hadd] at h0
    exact ⟨b, off, rfl, lt_of_cell h0, fun i hi => by have := hf i hi; rwa [hadd] at this⟩
end
set_option maxRecDepth 100000 in
/-- A fact that came in. -/
theorem open_fact {H : Type} {enc_ : TypeId × Value → H} {W : World} {base : Nat} {spare : Nat → Bool} {held : Bool} {r : Reach} {b0 : Nat} {v : Value} {d : DataW H} {p : List MemPlace}
    (hv : Value.okWide Tryz.prog W r b0 28 v) (h : DataW.Trod enc_ Tryz.prog W base spare held 28 v d p) : ∃ x : Fv, v = aggF x ∧ StrsAt W x.pa x.np x.p := by
  obtain ⟨v0, v1, v2, y0, y1, y2, n, rfl, h0, h1, h2⟩ := open_agg3 Tryz.underlying28 (by kernel_rfl) (by kernel_rfl) hv h
  obtain ⟨s, e0, _⟩ := DataW.trod_string Tryz.underlying9 h0
  obtain ⟨k, e1, _⟩ := DataW.trod_int Tryz.underlying3 h1
  obtain rfl : v0 = .string s := by simpa using e0
  obtain rfl : v1 = .int .i64 k := by simpa using e1
  obtain ⟨ap, lp, cp, f, rfl, hcp, hps⟩ := open_slice_str Tryz.underlying26 Tryz.underlying9 (by kernel_rfl) h2
  exact ⟨⟨s, k, ap, lp, cp, f⟩, rfl, hps⟩
set_option maxRecDepth 100000 in
/-- A slice of facts that came in. -/
theorem open_facts {H : Type} {enc_ : TypeId × Value → H} {W : World} {base : Nat} {spare : Nat → Bool} {held : Bool} {r : Reach} {b0 : Nat} {v : Value} {d : DataW H} {p : List MemPlace}
    (hv : Value.okWide Tryz.prog W r b0 24 v) (h : DataW.Trod enc_ Tryz.prog W base spare held 24 v d p) : ∃ (ao : Option Addr) (n cap : Nat) (f : Nat → Fv), v = .slice ao n cap ∧ FactsAt W ao n f := by
  obtain ⟨fuel, h⟩ := h
  obtain ⟨a0, l0, c0, rfl⟩ := okWide_slice Tryz.underlying24 hv
  have h2 : DataW.trod enc_ Tryz.prog W base spare held fuel 24 [.slice a0 l0 c0] = some (d, p) := by simpa [Value.cells] using h
  obtain ⟨ao, le, ce, he, hle, hce, hes⟩ := open_slice3 Tryz.underlying24 Tryz.underlying28 (by kernel_rfl) (by kernel_rfl) h2
  obtain ⟨rfl, rfl, rfl⟩ : ao = a0 ∧ le = l0 ∧ ce = c0 := by
    injection he with e1 e2 e3
    exact ⟨e1.symm, e2.symm, e3.symm⟩
  have key : ∀ i, ∃ x : Fv, i < le → (∃ b off, ao = some ⟨b, off, none⟩ ∧ b < W.heap.size ∧ W.cell? ⟨b, off + i * 3, none⟩ = some (.string x.id) ∧ W.cell? ⟨b, off + i * 3 + 1, none⟩ = some (.int .i64 x.h) ∧ W.cell? ⟨b, off + i * 3 + 2, none⟩ = some (.slice x.pa x.np x.pc)) ∧ StrsAt W x.pa x.np x.p := fun i => by
    by_cases hil : i < le
    · obtain ⟨a, b, off, ha, rfl, hb, w0, w1, w2, z0, z1, z2, n', c0, c1, c2, t0, t1, t2⟩ := hes i hil
      obtain ⟨s0, q0, _⟩ := DataW.trod_string Tryz.underlying9 t0
      obtain ⟨s1, q1, _⟩ := DataW.trod_int Tryz.underlying3 t1
      obtain rfl : w0 = .string s0 := by simpa using q0
      obtain rfl : w1 = .int .i64 s1 := by simpa using q1
      obtain ⟨ap, lp, cp, f, rfl, hcp, hps⟩ := open_slice_str Tryz.underlying26 Tryz.underlying9 (by kernel_rfl) t2
      exact ⟨⟨s0, s1, ap, lp, cp, f⟩, fun _ => ⟨⟨b, off, ha, hb, c0, c1, c2⟩, hps⟩⟩
    · exact ⟨default, fun h => absurd h hil⟩
  obtain ⟨g, hg⟩ := Classical.axiomOfChoice key
  refine ⟨ao, le, ce, g, rfl, by unfold maxLen at hce; omega, fun hn => ?_, fun i hi => (hg i hi).2⟩
  obtain ⟨b, off, ha, hb, _⟩ := (hg 0 hn).1
  refine ⟨b, off, ha, hb, fun i hi => ?_⟩
  obtain ⟨b', off', ha', _, hc⟩ := (hg i hi).1
  obtain ⟨rfl, rfl⟩ : b' = b ∧ off' = off := by
    rw [ha] at ha'
    simp only [Option.some.injEq, Addr.mk.injEq] at ha'
    exact ⟨ha'.1.symm, ha'.2.1.symm⟩
  exact hc
end Go.Proofs.YthcgdpdijdmelaaGreat.Ord
