/- An argument of type api.Object, opened: its kind, texts and height, and the cells of its two slices. No conditions. -/
import Derived.Test.YtmdchfmcghiaeaaEncodeAll
import Derived.Lib.SmallJoins
import Derived.Deep.Slices
import Derived.Deep.Fields
import Derived.ChangeSame
import Derived.OpenShut
namespace Go.Proofs.Ytmdchfmcghiaeaa.Obj
open Go.Joins Go.ChangeShapes Go.WideShapes Go.RowKit Go.Deep
section
variable {H : Type} {enc_ : TypeId × Value → H} {P : Program} {w : World} {base : Nat} {spare : Nat → Bool} {held : Bool}
theorem lt_of_cell {a : Addr} {v : Value} (h : w.cell? a = some v) : a.block < w.heap.size := by
  by_cases hb : a.block < w.heap.size
  · exact hb
  · unfold World.cell? at h
    rw [Array.getElem?_eq_none (Nat.le_of_not_lt hb)] at h
    simp at h
theorem open_agg7 {r : Reach} {b0 : Nat} {t : TypeId} {f0 f1 f2 f3 f4 f5 f6 : Field} {v : Value} {d : DataW H} {p : List MemPlace} (hs : P.underlying t = some (.struct #[f0, f1, f2, f3, f4, f5, f6])) (hone : oneCellFields P #[f0, f1, f2, f3, f4, f5, f6] = true) (hC : P.cellsOf t = 7)
    (hv : Value.okWide P w r b0 t v) (h : DataW.Trod enc_ P w base spare held t v d p) :
    ∃ (v0 v1 v2 v3 v4 v5 v6 : Value) (y0 y1 y2 y3 y4 y5 y6 : DataW H × List MemPlace) (n : Nat), v = .agg #[v0, v1, v2, v3, v4, v5, v6] ∧
      DataW.trod enc_ P w base spare held n f0.type [v0] = some y0 ∧ DataW.trod enc_ P w base spare held n f1.type [v1] = some y1 ∧ DataW.trod enc_ P w base spare held n f2.type [v2] = some y2 ∧ DataW.trod enc_ P w base spare held n f3.type [v3] = some y3 ∧ DataW.trod enc_ P w base spare held n f4.type [v4] = some y4 ∧ DataW.trod enc_ P w base spare held n f5.type [v5] = some y5 ∧ DataW.trod enc_ P w base spare held n f6.type [v6] = some y6 := by
  obtain ⟨cs, rfl, hsz⟩ := okWide_struct hs hv
  obtain ⟨l⟩ := cs
  match l, hsz.trans hC with
  | [c0, c1, c2, c3, c4, c5, c6], _ =>
    obtain ⟨fuel, hf⟩ := h
    obtain ⟨xs, n, _, hx, _, hlen, hg⟩ := DataW.trod_struct hs hf
    obtain ⟨o0, k0⟩ := hone_of hone 0 f0 rfl
    obtain ⟨o1, k1⟩ := hone_of hone 1 f1 rfl
    obtain ⟨o2, k2⟩ := hone_of hone 2 f2 rfl
    obtain ⟨o3, k3⟩ := hone_of hone 3 f3 rfl
    obtain ⟨o4, k4⟩ := hone_of hone 4 f4 rfl
    obtain ⟨o5, k5⟩ := hone_of hone 5 f5 rfl
    obtain ⟨o6, k6⟩ := hone_of hone 6 f6 rfl
    match xs, hlen with
    | [y0, y1, y2, y3, y4, y5, y6], _ =>
      exact ⟨c0, c1, c2, c3, c4, c5, c6, y0, y1, y2, y3, y4, y5, y6, n, rfl, by simpa [Value.cells, o0, k0] using hg 0 f0 rfl, by simpa [Value.cells, o1, k1] using hg 1 f1 rfl, by simpa [Value.cells, o2, k2] using hg 2 f2 rfl, by simpa [Value.cells, o3, k3] using hg 3 f3 rfl, by simpa [Value.cells, o4, k4] using hg 4 f4 rfl, by simpa [Value.cells, o5, k5] using hg 5 f5 rfl, by simpa [Value.cells, o6, k6] using hg 6 f6 rfl⟩
/-- A slice of structs of three one-cell fields, by index. -/
theorem open_slice3 {t e : TypeId} {f0 f1 f2 : Field} {fuel : Nat} {v : Value} {x : DataW H × List MemPlace} (ht : P.underlying t = some (.slice e)) (he : P.underlying e = some (.struct #[f0, f1, f2]))
    (hone : oneCellFields P #[f0, f1, f2] = true) (hC : P.cellsOf e = 3) (h : DataW.trod enc_ P w base spare held fuel t [v] = some x) :
    ∃ (ao : Option Addr) (len cap : Nat), v = .slice ao len cap ∧ len ≤ cap ∧ cap ≤ maxLen ∧
      ∀ i, i < len → ∃ a b off, ao = some a ∧ a = ⟨b, off, none⟩ ∧ b < w.heap.size ∧ ∃ v0 v1 v2 y0 y1 y2 n, w.cell? ⟨b, off + i * 3, none⟩ = some v0 ∧ w.cell? ⟨b, off + i * 3 + 1, none⟩ = some v1 ∧ w.cell? ⟨b, off + i * 3 + 2, none⟩ = some v2 ∧
        DataW.trod enc_ P w base spare held n f0.type [v0] = some y0 ∧ DataW.trod enc_ P w base spare held n f1.type [v1] = some y1 ∧ DataW.trod enc_ P w base spare held n f2.type [v2] = some y2 := by
  rcases open_slice ht h with ⟨hcs, _⟩ | ⟨a, len, cap, m, n, D, Pl, hcs, hb, hl, hm, hmm, hx, hi⟩
  · obtain rfl : v = .slice none 0 0 := by simpa using hcs
    exact ⟨none, 0, 0, rfl, by omega, by decide, fun i hi => by omega⟩
  · obtain rfl : v = .slice (some a) len cap := by simpa using hcs
    refine ⟨some a, len, cap, rfl, hl, hm, fun i him => ?_⟩
    obtain ⟨cs', hc, ht'⟩ := hi i (by rw [hmm]; split <;> omega)
    rw [hC] at hc
    obtain ⟨ys, n', hn', hy, hlen, hyl, hf⟩ := DataW.trod_struct he ht'
    obtain ⟨_, hcl, hat⟩ := World.cells?_some hc
    obtain ⟨o0, k0⟩ := hone_of hone 0 f0 rfl
    obtain ⟨o1, k1⟩ := hone_of hone 1 f1 rfl
    obtain ⟨o2, k2⟩ := hone_of hone 2 f2 rfl
    match cs', hcl, ys, hyl with
    | [c0, c1, c2], _, [y0, y1, y2], _ =>
      have p0 := hat 0 (by omega)
      have p1 := hat 1 (by omega)
      have p2 := hat 2 (by omega)
      obtain ⟨cs0, hc0, _⟩ := hi 0 (by rw [hmm]; split <;> omega)
      rw [hC] at hc0
      obtain ⟨_, hcl0, hat0⟩ := World.cells?_some hc0
      have z0 := hat0 0 (by omega)
      rw [Go.Deep.add_add] at p0 p1 p2 z0
      obtain ⟨b, off, spot⟩ := a
      have hspot : spot = none := by
        match cs0, hcl0, z0 with
        | c :: _, _, z0 => simpa [Addr.add] using World.cell?_spot z0
      subst hspot
      have hadd : ∀ j, (⟨b, off, none⟩ : Addr).add j = ⟨b, off + j, none⟩ := fun j => by
        unfold Addr.add
        split
        · next h0 => rw [h0]; rfl
        · rfl
      rw [hadd] at p0 p1 p2
      exact ⟨_, b, off, rfl, rfl, lt_of_cell p0, c0, c1, c2, y0, y1, y2, n', p0, p1, p2, by simpa [o0, k0] using hf 0 f0 rfl, by simpa [o1, k1] using hf 1 f1 rfl, by simpa [o2, k2] using hf 2 f2 rfl⟩
/-- A slice of strings, by index. -/
theorem open_slice_str {t e : TypeId} {fuel : Nat} {v : Value} {x : DataW H × List MemPlace} (ht : P.underlying t = some (.slice e)) (he : P.underlying e = some .string) (hC : P.cellsOf e = 1) (h : DataW.trod enc_ P w base spare held fuel t [v] = some x) :
    ∃ (ao : Option Addr) (len cap : Nat) (f : Nat → ByteArray), v = .slice ao len cap ∧ len ≤ cap ∧ StrsAt w ao len f := by
  rcases open_slice1 ht hC h with ⟨hcs, _⟩ | ⟨a, len, cap, m, n, V, D, Pl, hcs, hb, hl, hm, hmm, hx, hi⟩
  · obtain rfl : v = .slice none 0 0 := by simpa using hcs
    exact ⟨none, 0, 0, fun _ => ⟨#[]⟩, rfl, by omega, by decide, fun hn => by omega⟩
  · obtain rfl : v = .slice (some a) len cap := by simpa using hcs
    have hlm : len ≤ m := by rw [hmm]; split <;> omega
    have key : ∀ i, ∃ s : ByteArray, i < len → w.cell? (a.add i) = some (.string s) := fun i => by
      by_cases hil : i < len
      · obtain ⟨h1, h2⟩ := hi i (by omega)
        obtain ⟨s, hs, _⟩ := DataW.trod_string he h2
        obtain hv : V i = .string s := by simpa using hs
        exact ⟨s, fun _ => by rw [h1, hv]⟩
      · exact ⟨⟨#[]⟩, fun h => absurd h hil⟩
    obtain ⟨f, hf⟩ := Classical.axiomOfChoice key
    refine ⟨some a, len, cap, f, rfl, hl, by unfold maxLen at hm; omega, fun hn => ?_⟩
    have h0 := hf 0 hn
    obtain ⟨b, off, spot⟩ := a
    have hspot : spot = none := by simpa [Addr.add] using World.cell?_spot h0
    subst hspot
    have hadd : ∀ j, (⟨b, off, none⟩ : Addr).add j = ⟨b, off + j, none⟩ := fun j => by
      unfold Addr.add
      split
      · next h0 => rw [h0]; rfl
      · rfl
    rw [hadd] at h0
    exact ⟨b, off, rfl, lt_of_cell h0, fun i hi => by have := hf i hi; rwa [hadd] at this⟩
end
set_option maxRecDepth 100000 in
/-- An object that came in. -/
theorem open_obj {H : Type} {enc_ : TypeId × Value → H} {W : World} {base : Nat} {spare : Nat → Bool} {held : Bool} {r : Reach} {b0 : Nat} {v : Value} {d : DataW H} {p : List MemPlace}
    (hv : Value.okWide Try.prog W r b0 34 v) (h : DataW.Trod enc_ Try.prog W base spare held 34 v d p) :
    ∃ (o : Plain) (es ps : Value), v = obj o.k o.d es o.t ps o.h o.n ∧ EntsV W es o ∧ StrsC W ps o := by
  obtain ⟨v0, v1, v2, v3, v4, v5, v6, y0, y1, y2, y3, y4, y5, y6, n, rfl, h0, h1, h2, h3, h4, h5, h6⟩ := open_agg7 Try.underlying34 (by kernel_rfl) (by kernel_rfl) hv h
  obtain ⟨k, e0, _⟩ := DataW.trod_int Try.underlying3 h0
  obtain ⟨dt, e1, _⟩ := DataW.trod_string Try.underlying9 h1
  obtain ⟨t, e3, _⟩ := DataW.trod_string Try.underlying9 h3
  obtain ⟨hh, e5, _⟩ := DataW.trod_int Try.underlying3 h5
  obtain ⟨nt, e6, _⟩ := DataW.trod_string Try.underlying9 h6
  obtain rfl : v0 = .int .i64 k := by simpa using e0
  obtain rfl : v1 = .string dt := by simpa using e1
  obtain rfl : v3 = .string t := by simpa using e3
  obtain rfl : v5 = .int .i64 hh := by simpa using e5
  obtain rfl : v6 = .string nt := by simpa using e6
  obtain ⟨ap, lp, cp, f, rfl, hcp, hps⟩ := open_slice_str Try.underlying25 Try.underlying9 (by kernel_rfl) h4
  obtain ⟨ao, le, ce, rfl, hle, hce, hes⟩ := open_slice3 Try.underlying32 Try.underlying55 (by kernel_rfl) (by kernel_rfl) h2
  have key : ∀ i, ∃ e : ByteArray × Int × ByteArray, i < le → ∃ b off, ao = some ⟨b, off, none⟩ ∧ b < W.heap.size ∧ W.cell? ⟨b, off + i * 3, none⟩ = some (.string e.1) ∧ W.cell? ⟨b, off + i * 3 + 1, none⟩ = some (.int .i64 e.2.1) ∧ W.cell? ⟨b, off + i * 3 + 2, none⟩ = some (.string e.2.2) := fun i => by
    by_cases hil : i < le
    · obtain ⟨a, b, off, ha, rfl, hb, w0, w1, w2, z0, z1, z2, n', c0, c1, c2, t0, t1, t2⟩ := hes i hil
      obtain ⟨s0, q0, _⟩ := DataW.trod_string Try.underlying9 t0
      obtain ⟨s1, q1, _⟩ := DataW.trod_int Try.underlying3 t1
      obtain ⟨s2, q2, _⟩ := DataW.trod_string Try.underlying9 t2
      obtain rfl : w0 = .string s0 := by simpa using q0
      obtain rfl : w1 = .int .i64 s1 := by simpa using q1
      obtain rfl : w2 = .string s2 := by simpa using q2
      exact ⟨(s0, s1, s2), fun _ => ⟨b, off, ha, hb, c0, c1, c2⟩⟩
    · exact ⟨(⟨#[]⟩, 0, ⟨#[]⟩), fun h => absurd h hil⟩
  obtain ⟨g, hg⟩ := Classical.axiomOfChoice key
  refine ⟨⟨k, dt, le, fun i => (g i).1, fun i => (g i).2.1, fun i => (g i).2.2, t, lp, f, hh, nt⟩, .slice ao le ce, .slice ap lp cp, rfl, ⟨ao, ce, rfl, by unfold maxLen at hce; show (le : Int) ≤ 9223372036854775807; omega, fun hn => ?_⟩, ⟨ap, cp, rfl, hcp, hps⟩⟩
  obtain ⟨b, off, ha, hb, _⟩ := hg 0 hn
  refine ⟨b, off, ha, hb, fun i hi => ?_⟩
  obtain ⟨b', off', ha', _, hc⟩ := hg i hi
  obtain ⟨rfl, rfl⟩ : b' = b ∧ off' = off := by
    rw [ha] at ha'
    simp only [Option.some.injEq, Addr.mk.injEq] at ha'
    exact ⟨ha'.1.symm, ha'.2.1.symm⟩
  exact hc
end Go.Proofs.Ytmdchfmcghiaeaa.Obj
