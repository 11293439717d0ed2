/- An argument of type api.Msg, opened, with its texts' sizes. Printed by gen_openfr.py (from OpenMg). (Layer 19.) -/
import Derived.Test.YtljenganlknhbaaGreatFrGr
import Derived.Lib.SmallJoins
import Derived.Deep.Slices
import Derived.Deep.Fields
import Derived.ChangeSame
import Derived.OpenShut
import Derived.SizedLaws
namespace Go.Proofs.YtljenganlknhbaaGreat.Fr
open Go.Joins Go.ChangeShapes Go.WideShapes Go.RowKit Go.Deep
open Set (StrAt)
open Tr (Cp strAt_nil)
open Mk (MkR aMk vRf vTok vTb vInt TombsAt TbR Tok Rf)
set_option linter.unusedVariables false
/-- No text or list of this data is longer than can be. -/
def Wt {H : Type} (P : Program) (d : DataW H) (t : TypeId) : Prop := ∀ n ∈ d.weights P t, n ≤ reachBytes
theorem weightsAll_mem {H : Type} {P : Program} {e : TypeId} : ∀ {l : List (DataW H)} {d : DataW H}, d ∈ l → ∀ n ∈ d.weights P e, n ∈ DataW.weightsAll P e l
  | x :: l, d, hd, n, hn => by
    rw [DataW.weightsAll]
    rcases List.mem_cons.1 hd with rfl | hd
    · exact List.mem_append.2 (.inl hn)
    · exact List.mem_append.2 (.inr (weightsAll_mem hd n hn))
theorem Wt.part {H : Type} {P : Program} {t : TypeId} {fs : Array Field} {parts : List (DataW H)} (hs : P.underlying t = some (.struct fs)) (h : Wt P (.agg parts) t) {i : Nat} {f : Field} {d : DataW H} (hf : fs[i]? = some f) (hd : parts[i]? = some d) : Wt P d f.type := fun n hn => h n (by
  rw [DataW.weights, hs]
  exact DataW.weights_mem_each (j := i) (by rw [List.getElem?_map]; simp [hf]) hd n hn)
theorem Wt.elem {H : Type} {P : Program} {t e : TypeId} {elems spare : List (DataW H)} (hs : P.underlying t = some (.slice e)) (h : Wt P (.slice elems spare) t) {d : DataW H} (hd : d ∈ elems) : Wt P d e := fun n hn => h n (by
  rw [DataW.weights, hs]
  exact List.mem_cons_of_mem _ (List.mem_append.2 (.inl (weightsAll_mem hd n hn))))
theorem Wt.len {H : Type} {P : Program} {t e : TypeId} {elems spare : List (DataW H)} (hs : P.underlying t = some (.slice e)) (h : Wt P (.slice elems spare) t) : (elems.length + spare.length) * P.bytesOf e ≤ reachBytes := h _ (by
  rw [DataW.weights, hs]
  exact List.mem_cons_self ..)
theorem Wt.str {H : Type} {P : Program} {t : TypeId} {s : ByteArray} {y : DataW H × List MemPlace} (hy : y = (.lit (.string s.data.toList), [])) (h : Wt P y.1 t) : s.size ≤ reachBytes := by
  subst hy
  have := h s.data.toList.length (by simp [DataW.weights])
  simpa using this
section
variable {H : Type} {enc_ : TypeId × Value → H} {P : Program} {w : World} {base : Nat} {spare : Nat → Bool} {held : Bool}
theorem lt_of_cell {a : Addr} {v : Value} (h : w.cell? a = some v) : a.block < w.heap.size := by
  by_cases hb : a.block < w.heap.size
  · exact hb
  · unfold World.cell? at h
    rw [Array.getElem?_eq_none (Nat.le_of_not_lt hb)] at h
    simp at h
def msgFields (P : Program) (fs : Array Field) : Bool := (List.range fs.size).all fun i => match fs[i]? with
  | some f => f.offset == i && P.cellsOf f.type == (if i == 9 then 3 else 1)
  | none => false
theorem msgFields_of {P : Program} {fs : Array Field} (h : msgFields P fs = true) : ∀ (i : Nat) (f : Field), fs[i]? = some f → f.offset = i ∧ P.cellsOf f.type = (if i == 9 then 3 else 1) := by
  intro i f hi
  have hlt : i < fs.size := (Array.getElem?_eq_some_iff.1 hi).1
  have := List.all_eq_true.1 h i (List.mem_range.2 hlt)
  simp only [hi, Bool.and_eq_true, beq_iff_eq] at this
  exact ⟨this.1, by simpa using this.2⟩
theorem open_agg12 {r : Reach} {b0 : Nat} {t : TypeId} {f0 f1 f2 f3 f4 f5 f6 f7 f8 f9 : Field} {v : Value} {d : DataW H} {p : List MemPlace} (hs : P.underlying t = some (.struct #[f0, f1, f2, f3, f4, f5, f6, f7, f8, f9])) (hone : msgFields P #[f0, f1, f2, f3, f4, f5, f6, f7, f8, f9] = true) (hC : P.cellsOf t = 12)
    (hv : Value.okWide P w r b0 t v) (h : DataW.Trod enc_ P w base spare held t v d p) (hw : Wt P d t) :
    ∃ (v0 v1 v2 v3 v4 v5 v6 v7 v8 v9 v10 v11 : Value) (y0 y1 y2 y3 y4 y5 y6 y7 y8 y9 : DataW H × List MemPlace) (n : Nat), (Wt P y0.1 f0.type ∧ Wt P y1.1 f1.type ∧ Wt P y2.1 f2.type ∧ Wt P y3.1 f3.type ∧ Wt P y4.1 f4.type ∧ Wt P y5.1 f5.type ∧ Wt P y6.1 f6.type ∧ Wt P y7.1 f7.type ∧ Wt P y8.1 f8.type ∧ Wt P y9.1 f9.type) ∧ v = .agg #[v0, v1, v2, v3, v4, v5, v6, v7, v8, v9, v10, v11] ∧
      DataW.trod enc_ P w base spare held n f0.type [v0] = some y0 ∧ DataW.trod enc_ P w base spare held n f1.type [v1] = some y1 ∧ DataW.trod enc_ P w base spare held n f2.type [v2] = some y2 ∧ DataW.trod enc_ P w base spare held n f3.type [v3] = some y3 ∧ DataW.trod enc_ P w base spare held n f4.type [v4] = some y4 ∧ DataW.trod enc_ P w base spare held n f5.type [v5] = some y5 ∧ DataW.trod enc_ P w base spare held n f6.type [v6] = some y6 ∧ DataW.trod enc_ P w base spare held n f7.type [v7] = some y7 ∧ DataW.trod enc_ P w base spare held n f8.type [v8] = some y8 ∧ DataW.trod enc_ P w base spare held n f9.type [v9, v10, v11] = some y9 := by
  obtain ⟨cs, rfl, hsz⟩ := okWide_struct hs hv
  obtain ⟨l⟩ := cs
  match l, hsz.trans hC with
  | [c0, c1, c2, c3, c4, c5, c6, c7, c8, c9, c10, c11], _ =>
    obtain ⟨fuel, hf⟩ := h
    obtain ⟨xs, n, _, hx, _, hlen, hg⟩ := DataW.trod_struct hs hf
    have hd : d = .agg (xs.map (·.1)) := congrArg Prod.fst hx
    subst hd
    obtain ⟨o0, k0⟩ := msgFields_of hone 0 f0 rfl
    obtain ⟨o1, k1⟩ := msgFields_of hone 1 f1 rfl
    obtain ⟨o2, k2⟩ := msgFields_of hone 2 f2 rfl
    obtain ⟨o3, k3⟩ := msgFields_of hone 3 f3 rfl
    obtain ⟨o4, k4⟩ := msgFields_of hone 4 f4 rfl
    obtain ⟨o5, k5⟩ := msgFields_of hone 5 f5 rfl
    obtain ⟨o6, k6⟩ := msgFields_of hone 6 f6 rfl
    obtain ⟨o7, k7⟩ := msgFields_of hone 7 f7 rfl
    obtain ⟨o8, k8⟩ := msgFields_of hone 8 f8 rfl
    obtain ⟨o9, k9⟩ := msgFields_of hone 9 f9 rfl
    match xs, hlen with
    | [y0, y1, y2, y3, y4, y5, y6, y7, y8, y9], _ =>
      exact ⟨c0, c1, c2, c3, c4, c5, c6, c7, c8, c9, c10, c11, y0, y1, y2, y3, y4, y5, y6, y7, y8, y9, n, ⟨hw.part hs (i := 0) rfl rfl, hw.part hs (i := 1) rfl rfl, hw.part hs (i := 2) rfl rfl, hw.part hs (i := 3) rfl rfl, hw.part hs (i := 4) rfl rfl, hw.part hs (i := 5) rfl rfl, hw.part hs (i := 6) rfl rfl, hw.part hs (i := 7) rfl rfl, hw.part hs (i := 8) rfl rfl, hw.part hs (i := 9) rfl rfl⟩, rfl, by simpa [Value.cells, o0, k0] using hg 0 f0 rfl, by simpa [Value.cells, o1, k1] using hg 1 f1 rfl, by simpa [Value.cells, o2, k2] using hg 2 f2 rfl, by simpa [Value.cells, o3, k3] using hg 3 f3 rfl, by simpa [Value.cells, o4, k4] using hg 4 f4 rfl, by simpa [Value.cells, o5, k5] using hg 5 f5 rfl, by simpa [Value.cells, o6, k6] using hg 6 f6 rfl, by simpa [Value.cells, o7, k7] using hg 7 f7 rfl, by simpa [Value.cells, o8, k8] using hg 8 f8 rfl, by simpa [Value.cells, o9, k9] using hg 9 f9 rfl⟩
theorem open_cs3 {t : TypeId} {f0 f1 f2 : Field} {fuel : Nat} {c0 c1 c2 : Value} {x : DataW H × List MemPlace} (hs : P.underlying t = some (.struct #[f0, f1, f2])) (hone : oneCellFields P #[f0, f1, f2] = true) (h : DataW.trod enc_ P w base spare held fuel t [c0, c1, c2] = some x) (hw : Wt P x.1 t) :
    ∃ (y0 y1 y2 : DataW H × List MemPlace) (n : Nat), (Wt P y0.1 f0.type ∧ Wt P y1.1 f1.type ∧ Wt P y2.1 f2.type) ∧ DataW.trod enc_ P w base spare held n f0.type [c0] = some y0 ∧ DataW.trod enc_ P w base spare held n f1.type [c1] = some y1 ∧ DataW.trod enc_ P w base spare held n f2.type [c2] = some y2 := by
  obtain ⟨xs, n, _, hx, _, hlen, hg⟩ := DataW.trod_struct hs h
  have hd : x.1 = .agg (xs.map (·.1)) := congrArg Prod.fst hx
  rw [hd] at hw
  obtain ⟨o0, k0⟩ := hone_of hone 0 f0 rfl
  obtain ⟨o1, k1⟩ := hone_of hone 1 f1 rfl
  obtain ⟨o2, k2⟩ := hone_of hone 2 f2 rfl
  clear hd hx
  match xs, hlen, hg, hw with
  | [y0, y1, y2], _, hg, hw =>
    exact ⟨y0, y1, y2, n, ⟨hw.part hs (i := 0) rfl rfl, hw.part hs (i := 1) rfl rfl, hw.part hs (i := 2) rfl rfl⟩, by simpa [o0, k0] using hg 0 f0 rfl, by simpa [o1, k1] using hg 1 f1 rfl, by simpa [o2, k2] using hg 2 f2 rfl⟩
theorem open_row_strs {t e : TypeId} {fuel : Nat} {v : Value} {x : DataW H × List MemPlace} (ht : P.underlying t = some (.slice e)) (he : P.underlying e = some .string) (hC : P.cellsOf e = 1) (h : DataW.trod enc_ P w base spare held fuel t [v] = some x) (hw : Wt P x.1 t) :
    ∃ l, StrAt w v l ∧ ∀ s ∈ l, s.size ≤ reachBytes := by
  rcases open_slice1 ht hC h with ⟨hcs, _⟩ | ⟨a, len, cap, m, n, V, D, Pl, hcs, hb, hl, hm, hmm, hx, hi⟩
  · obtain rfl : v = .slice none 0 0 := by simpa using hcs
    exact ⟨[], strAt_nil _, fun s hs => by cases hs⟩
  · obtain rfl : v = .slice (some a) len cap := by simpa using hcs
    have hlm : len ≤ m := by rw [hmm]; split <;> omega
    have key : ∀ i, ∃ s : ByteArray, i < len → w.cell? (a.add i) = some (.string s) ∧ s.size ≤ reachBytes := fun i => by
      by_cases hil : i < len
      · obtain ⟨h1, h2⟩ := hi i (by omega)
        obtain ⟨s, hs, hy, _⟩ := DataW.trod_string he h2
        obtain hv : V i = .string s := by simpa using hs
        have hwi : Wt P (D i) e := (show Wt P (.slice ((List.range len).map D) ((List.range (m - len)).map fun j => D (len + j))) t by rw [hx] at hw; exact hw).elem ht (List.mem_map.2 ⟨i, List.mem_range.2 hil, rfl⟩)
        exact ⟨s, fun _ => ⟨by rw [h1, hv], Wt.str hy hwi⟩⟩
      · exact ⟨⟨#[]⟩, fun h => absurd h hil⟩
    obtain ⟨f, hf⟩ := Classical.axiomOfChoice key
    refine ⟨(List.range len).map f, ⟨some a, cap, by simp, by simpa using hl, hm, fun hn => ?_⟩, fun s hs => by
      obtain ⟨i, hi, rfl⟩ := List.mem_map.1 hs
      exact (hf i (by simpa using hi)).2⟩
    have hn' : 0 < len := by simpa using hn
    have h0 := (hf 0 hn').1
    obtain ⟨b, off, spot⟩ := a
    have hspot : spot = none := by simpa [Addr.add] using World.cell?_spot h0
    subst hspot
    have hadd : ∀ j, (⟨b, off, none⟩ : Addr).add j = ⟨b, off + j, none⟩ := fun j => by
      unfold Addr.add
      split
      · next h0 => rw [h0]; rfl
      · rfl
    rw [hadd] at h0
    refine ⟨b, off, rfl, lt_of_cell h0, fun i hi => ?_⟩
    have hi' : i < len := by simpa using hi
    have := (hf i hi').1
    rw [hadd] at this
    rw [this]
    simp
theorem open_slice3 {t e : TypeId} {f0 f1 f2 : Field} {fuel : Nat} {v : Value} {x : DataW H × List MemPlace} (ht : P.underlying t = some (.slice e)) (he : P.underlying e = some (.struct #[f0, f1, f2]))
    (hone : oneCellFields P #[f0, f1, f2] = true) (hC : P.cellsOf e = 3) (h : DataW.trod enc_ P w base spare held fuel t [v] = some x) (hw : Wt P x.1 t) :
    ∃ (ao : Option Addr) (len cap : Nat), v = .slice ao len cap ∧ len ≤ cap ∧ cap ≤ maxLen ∧
      ∀ i, i < len → ∃ a b off, ao = some a ∧ a = ⟨b, off, none⟩ ∧ b < w.heap.size ∧ ∃ v0 v1 v2 y0 y1 y2 n, (Wt P y0.1 f0.type ∧ Wt P y1.1 f1.type ∧ Wt P y2.1 f2.type) ∧ w.cell? ⟨b, off + i * 3, none⟩ = some v0 ∧ w.cell? ⟨b, off + i * 3 + 1, none⟩ = some v1 ∧ w.cell? ⟨b, off + i * 3 + 2, none⟩ = some v2 ∧
        DataW.trod enc_ P w base spare held n f0.type [v0] = some y0 ∧ DataW.trod enc_ P w base spare held n f1.type [v1] = some y1 ∧ DataW.trod enc_ P w base spare held n f2.type [v2] = some y2 := by
  rcases open_slice ht h with ⟨hcs, _⟩ | ⟨a, len, cap, m, n, D, Pl, hcs, hb, hl, hm, hmm, hx, hi⟩
  · obtain rfl : v = .slice none 0 0 := by simpa using hcs
    exact ⟨none, 0, 0, rfl, by omega, by decide, fun i hi => by omega⟩
  · obtain rfl : v = .slice (some a) len cap := by simpa using hcs
    refine ⟨some a, len, cap, rfl, hl, hm, fun i him => ?_⟩
    obtain ⟨cs', hc, ht'⟩ := hi i (by rw [hmm]; split <;> omega)
    rw [hC] at hc
    obtain ⟨ys, n', hn', hy, hlen, hyl, hf⟩ := DataW.trod_struct he ht'
    have hwi : Wt P (D i) e := (show Wt P (.slice ((List.range len).map D) ((List.range (m - len)).map fun j => D (len + j))) t by rw [hx] at hw; exact hw).elem ht (List.mem_map.2 ⟨i, List.mem_range.2 him, rfl⟩)
    obtain ⟨_, hcl, hat⟩ := World.cells?_some hc
    obtain ⟨o0, k0⟩ := hone_of hone 0 f0 rfl
    obtain ⟨o1, k1⟩ := hone_of hone 1 f1 rfl
    obtain ⟨o2, k2⟩ := hone_of hone 2 f2 rfl
    match cs', hcl, ys, hyl with
    | [c0, c1, c2], _, [y0, y1, y2], _ =>
      have hd : D i = .agg ([y0, y1, y2].map (·.1)) := congrArg Prod.fst hy
      rw [hd] at hwi
      have p0 := hat 0 (by omega)
      have p1 := hat 1 (by omega)
      have p2 := hat 2 (by omega)
      obtain ⟨cs0, hc0, _⟩ := hi 0 (by rw [hmm]; split <;> omega)
      rw [hC] at hc0
      obtain ⟨_, hcl0, hat0⟩ := World.cells?_some hc0
      have z0 := hat0 0 (by omega)
      rw [Go.Deep.add_add] at p0 p1 p2 z0
      obtain ⟨b, off, spot⟩ := a
      have hspot : spot = none := by
        match cs0, hcl0, z0 with
        | c :: _, _, z0 => simpa [Addr.add] using World.cell?_spot z0
      subst hspot
      have hadd : ∀ j, (⟨b, off, none⟩ : Addr).add j = ⟨b, off + j, none⟩ := fun j => by
        unfold Addr.add
        split
        · next h0 => rw [h0]; rfl
        · rfl
      rw [hadd] at p0 p1 p2
      exact ⟨_, b, off, rfl, rfl, lt_of_cell p0, c0, c1, c2, y0, y1, y2, n', ⟨hwi.part he (i := 0) rfl rfl, hwi.part he (i := 1) rfl rfl, hwi.part he (i := 2) rfl rfl⟩, p0, p1, p2, by simpa [o0, k0] using hf 0 f0 rfl, by simpa [o1, k1] using hf 1 f1 rfl, by simpa [o2, k2] using hf 2 f2 rfl⟩
theorem open_slice5 {t e : TypeId} {f0 f1 f2 f3 f4 : Field} {fuel : Nat} {v : Value} {x : DataW H × List MemPlace} (ht : P.underlying t = some (.slice e)) (he : P.underlying e = some (.struct #[f0, f1, f2, f3, f4]))
    (hone : oneCellFields P #[f0, f1, f2, f3, f4] = true) (hC : P.cellsOf e = 5) (h : DataW.trod enc_ P w base spare held fuel t [v] = some x) (hw : Wt P x.1 t) :
    ∃ (ao : Option Addr) (len cap : Nat), v = .slice ao len cap ∧ len ≤ cap ∧ cap ≤ maxLen ∧
      ∀ i, i < len → ∃ a b off, ao = some a ∧ a = ⟨b, off, none⟩ ∧ b < w.heap.size ∧ ∃ v0 v1 v2 v3 v4 y0 y1 y2 y3 y4 n, (Wt P y0.1 f0.type ∧ Wt P y1.1 f1.type ∧ Wt P y2.1 f2.type ∧ Wt P y3.1 f3.type ∧ Wt P y4.1 f4.type) ∧ w.cell? ⟨b, off + i * 5, none⟩ = some v0 ∧ w.cell? ⟨b, off + i * 5 + 1, none⟩ = some v1 ∧ w.cell? ⟨b, off + i * 5 + 2, none⟩ = some v2 ∧ w.cell? ⟨b, off + i * 5 + 3, none⟩ = some v3 ∧ w.cell? ⟨b, off + i * 5 + 4, none⟩ = some v4 ∧
        DataW.trod enc_ P w base spare held n f0.type [v0] = some y0 ∧ DataW.trod enc_ P w base spare held n f1.type [v1] = some y1 ∧ DataW.trod enc_ P w base spare held n f2.type [v2] = some y2 ∧ DataW.trod enc_ P w base spare held n f3.type [v3] = some y3 ∧ DataW.trod enc_ P w base spare held n f4.type [v4] = some y4 := by
  rcases open_slice ht h with ⟨hcs, _⟩ | ⟨a, len, cap, m, n, D, Pl, hcs, hb, hl, hm, hmm, hx, hi⟩
  · obtain rfl : v = .slice none 0 0 := by simpa using hcs
    exact ⟨none, 0, 0, rfl, by omega, by decide, fun i hi => by omega⟩
  · obtain rfl : v = .slice (some a) len cap := by simpa using hcs
    refine ⟨some a, len, cap, rfl, hl, hm, fun i him => ?_⟩
    obtain ⟨cs', hc, ht'⟩ := hi i (by rw [hmm]; split <;> omega)
    rw [hC] at hc
    obtain ⟨ys, n', hn', hy, hlen, hyl, hf⟩ := DataW.trod_struct he ht'
    have hwi : Wt P (D i) e := (show Wt P (.slice ((List.range len).map D) ((List.range (m - len)).map fun j => D (len + j))) t by rw [hx] at hw; exact hw).elem ht (List.mem_map.2 ⟨i, List.mem_range.2 him, rfl⟩)
    obtain ⟨_, hcl, hat⟩ := World.cells?_some hc
    obtain ⟨o0, k0⟩ := hone_of hone 0 f0 rfl
    obtain ⟨o1, k1⟩ := hone_of hone 1 f1 rfl
    obtain ⟨o2, k2⟩ := hone_of hone 2 f2 rfl
    obtain ⟨o3, k3⟩ := hone_of hone 3 f3 rfl
    obtain ⟨o4, k4⟩ := hone_of hone 4 f4 rfl
    match cs', hcl, ys, hyl with
    | [c0, c1, c2, c3, c4], _, [y0, y1, y2, y3, y4], _ =>
      have hd : D i = .agg ([y0, y1, y2, y3, y4].map (·.1)) := congrArg Prod.fst hy
      rw [hd] at hwi
      have p0 := hat 0 (by omega)
      have p1 := hat 1 (by omega)
      have p2 := hat 2 (by omega)
      have p3 := hat 3 (by omega)
      have p4 := hat 4 (by omega)
      obtain ⟨cs0, hc0, _⟩ := hi 0 (by rw [hmm]; split <;> omega)
      rw [hC] at hc0
      obtain ⟨_, hcl0, hat0⟩ := World.cells?_some hc0
      have z0 := hat0 0 (by omega)
      rw [Go.Deep.add_add] at p0 p1 p2 p3 p4 z0
      obtain ⟨b, off, spot⟩ := a
      have hspot : spot = none := by
        match cs0, hcl0, z0 with
        | c :: _, _, z0 => simpa [Addr.add] using World.cell?_spot z0
      subst hspot
      have hadd : ∀ j, (⟨b, off, none⟩ : Addr).add j = ⟨b, off + j, none⟩ := fun j => by
        unfold Addr.add
        split
        · next h0 => rw [h0]; rfl
        · rfl
      rw [hadd] at p0 p1 p2 p3 p4
      exact ⟨_, b, off, rfl, rfl, lt_of_cell p0, c0, c1, c2, c3, c4, y0, y1, y2, y3, y4, n', ⟨hwi.part he (i := 0) rfl rfl, hwi.part he (i := 1) rfl rfl, hwi.part he (i := 2) rfl rfl, hwi.part he (i := 3) rfl rfl, hwi.part he (i := 4) rfl rfl⟩, p0, p1, p2, p3, p4, by simpa [o0, k0] using hf 0 f0 rfl, by simpa [o1, k1] using hf 1 f1 rfl, by simpa [o2, k2] using hf 2 f2 rfl, by simpa [o3, k3] using hf 3 f3 rfl, by simpa [o4, k4] using hf 4 f4 rfl⟩
/-- A row out of its cells, element by element. -/
theorem RowAt.of_cells {α : Type} [Inhabited α] {k : Nat} {enc : α → List Value} {ao : Option Addr} {len cap : Nat} (hl : len ≤ cap) (hc : cap ≤ maxLen) (Q : α → Prop)
    (h : ∀ i, i < len → ∃ b off, ao = some ⟨b, off, none⟩ ∧ b < w.heap.size ∧ ∃ x, Q x ∧ ∀ j u, (enc x)[j]? = some u → w.cell? ⟨b, off + i * k + j, none⟩ = some u) :
    ∃ l : List α, l.length = len ∧ RowAt k enc w (.slice ao len cap) l ∧ ∀ x ∈ l, Q x := by
  have key : ∀ i, ∃ x : α, i < len → Q x ∧ ∃ b off, ao = some ⟨b, off, none⟩ ∧ b < w.heap.size ∧ ∀ j u, (enc x)[j]? = some u → w.cell? ⟨b, off + i * k + j, none⟩ = some u := fun i => by
    by_cases hi : i < len
    · obtain ⟨b, off, ha, hb, x, hq, hx⟩ := h i hi
      exact ⟨x, fun _ => ⟨hq, b, off, ha, hb, hx⟩⟩
    · exact ⟨default, fun hh => absurd hh hi⟩
  obtain ⟨f, hf⟩ := Classical.axiomOfChoice key
  refine ⟨(List.range len).map f, by simp, ⟨ao, cap, by simp, by simpa using hl, hc, fun hn => ?_⟩, fun x hx => ?_⟩
  · have hn' : 0 < len := by simpa using hn
    obtain ⟨-, b, off, ha, hb, -⟩ := hf 0 hn'
    refine ⟨b, off, ha, hb, fun i hi j u hu => ?_⟩
    have hi' : i < len := by simpa using hi
    obtain ⟨-, b', off', ha', -, hx⟩ := hf i hi'
    rw [ha] at ha'
    injection ha' with ha'
    injection ha' with e1 e2
    subst e1 e2
    refine hx j u ?_
    simpa using hu
  · obtain ⟨i, hi, rfl⟩ := List.mem_map.1 hx
    exact (hf i (by simpa using hi)).1
end
section
variable {H : Type} {enc_ : TypeId × Value → H} {W : World} {base : Nat} {spare : Nat → Bool} {held : Bool}
instance : Inhabited CpR := ⟨⟨⟨⟨#[]⟩, 0, ⟨#[]⟩, [], []⟩, .slice none 0 0, .slice none 0 0⟩⟩
instance : Inhabited TbR := ⟨⟨default, undef, undef⟩⟩
set_option maxRecDepth 100000 in
theorem open_toks {fuel : Nat} {v : Value} {x : DataW H × List MemPlace} (h : DataW.trod enc_ Tryz.prog W base spare held fuel 25 [v] = some x) (hw : Wt Tryz.prog x.1 25) : ∃ l, RowAt 3 vTok W v l ∧ ∀ x ∈ l, x.id.size ≤ reachBytes := by
  obtain ⟨ao, le, ce, rfl, hle, hce, hes⟩ := open_slice3 Tryz.underlying25 Tryz.underlying102 (by kernel_rfl) (by kernel_rfl) h hw
  obtain ⟨l, hl, hr, hq⟩ := RowAt.of_cells (enc := vTok) (k := 3) hle hce (fun x => x.id.size ≤ reachBytes) fun i hi => by
    obtain ⟨a, b, off, ha, rfl, hb, w0, w1, w2, z0, z1, z2, n', ⟨g0, g1, g2⟩, c0, c1, c2, t0, t1, t2⟩ := hes i hi
    obtain ⟨s0, q0, _⟩ := DataW.trod_int Tryz.underlying3 t0
    obtain ⟨s1, q1, _⟩ := DataW.trod_int Tryz.underlying3 t1
    obtain ⟨s2, q2, z2', _⟩ := DataW.trod_string Tryz.underlying9 t2
    obtain rfl : w0 = .int .i64 s0 := by simpa using q0
    obtain rfl : w1 = .int .i64 s1 := by simpa using q1
    obtain rfl : w2 = .string s2 := by simpa using q2
    refine ⟨b, off, ha, hb, ⟨s0, s1, s2⟩, g2.str z2', fun j u hu => ?_⟩
    match j, hu with
    | 0, hu => exact c0.trans hu
    | 1, hu => exact c1.trans hu
    | 2, hu => exact c2.trans hu
    | j + 3, hu => simp [vTok] at hu
  exact ⟨l, hr, hq⟩
set_option maxRecDepth 100000 in
theorem open_refs {fuel : Nat} {v : Value} {x : DataW H × List MemPlace} (h : DataW.trod enc_ Tryz.prog W base spare held fuel 24 [v] = some x) (hw : Wt Tryz.prog x.1 24) : ∃ l, RowAt 3 vRf W v l ∧ ∀ x ∈ l, x.name.size ≤ reachBytes ∧ x.id.size ≤ reachBytes := by
  obtain ⟨ao, le, ce, rfl, hle, hce, hes⟩ := open_slice3 Tryz.underlying24 Tryz.underlying51 (by kernel_rfl) (by kernel_rfl) h hw
  obtain ⟨l, hl, hr, hq⟩ := RowAt.of_cells (enc := vRf) (k := 3) hle hce (fun x => x.name.size ≤ reachBytes ∧ x.id.size ≤ reachBytes) fun i hi => by
    obtain ⟨a, b, off, ha, rfl, hb, w0, w1, w2, z0, z1, z2, n', ⟨g0, g1, g2⟩, c0, c1, c2, t0, t1, t2⟩ := hes i hi
    obtain ⟨s0, q0, y0', _⟩ := DataW.trod_string Tryz.underlying9 t0
    obtain ⟨s1, q1, y1', _⟩ := DataW.trod_string Tryz.underlying9 t1
    obtain ⟨s2, q2, _⟩ := DataW.trod_int Tryz.underlying3 t2
    obtain rfl : w0 = .string s0 := by simpa using q0
    obtain rfl : w1 = .string s1 := by simpa using q1
    obtain rfl : w2 = .int .i64 s2 := by simpa using q2
    refine ⟨b, off, ha, hb, ⟨s0, s1, s2⟩, ⟨g0.str y0', g1.str y1'⟩, fun j u hu => ?_⟩
    match j, hu with
    | 0, hu => exact c0.trans hu
    | 1, hu => exact c1.trans hu
    | 2, hu => exact c2.trans hu
    | j + 3, hu => simp [vRf] at hu
  exact ⟨l, hr, hq⟩
set_option maxRecDepth 100000 in
theorem open_nums {fuel : Nat} {v : Value} {x : DataW H × List MemPlace} (h : DataW.trod enc_ Tryz.prog W base spare held fuel 52 [v] = some x) (hw : Wt Tryz.prog x.1 52) : ∃ l, RowAt 1 vInt W v l ∧ l.length ≤ reachBytes := by
  rcases open_slice1 Tryz.underlying52 (by kernel_rfl) h with ⟨hcs, _⟩ | ⟨a, len, cap, m, n, V, D, Pl, hcs, hb, hl, hm, hmm, hx, hi⟩
  · obtain rfl : v = .slice none 0 0 := by simpa using hcs
    exact ⟨[], ⟨none, 0, rfl, Nat.le_refl _, by decide, fun hn => absurd hn (Nat.lt_irrefl _)⟩, Nat.zero_le _⟩
  · obtain rfl : v = .slice (some a) len cap := by simpa using hcs
    have hlm : len ≤ m := by rw [hmm]; split <;> omega
    have hl8 := (show Wt Tryz.prog (.slice ((List.range len).map fun i => (D i)) ((List.range (m - len)).map fun j => (D (len + j)))) 52 by rw [hx] at hw; exact hw).len Tryz.underlying52
    rw [show Tryz.prog.bytesOf 3 = 8 by kernel_rfl, List.length_map, List.length_range] at hl8
    obtain ⟨b, off, spot⟩ := a
    obtain ⟨l, hll, hr, -⟩ := RowAt.of_cells (w := W) (enc := vInt) (k := 1) (ao := some ⟨b, off, spot⟩) hl hm (fun _ => True) fun i hil => by
      obtain ⟨h1, h2⟩ := hi i (by omega)
      obtain ⟨g1, _⟩ := hi 0 (by omega)
      have hspot : spot = none := by
        obtain ⟨s, hs, _⟩ := DataW.trod_int Tryz.underlying3 (hi 0 (by omega)).2
        simpa [Addr.add] using World.cell?_spot g1
      subst hspot
      obtain ⟨s, hs, _⟩ := DataW.trod_int Tryz.underlying3 h2
      obtain hv : V i = .int .i64 s := by simpa using hs
      have hadd : (Addr.mk b off none).add i = ⟨b, off + i, none⟩ := by
        unfold Addr.add
        split
        · next h0 => rw [h0]; rfl
        · rfl
      rw [hadd, hv] at h1
      refine ⟨b, off, rfl, lt_of_cell h1, s, trivial, fun j u hu => ?_⟩
      match j, hu with
      | 0, hu => rw [Nat.mul_one]; exact h1.trans hu
      | j + 1, hu => simp [vInt] at hu
    exact ⟨l, hr, by omega⟩
set_option maxRecDepth 100000 in
theorem open_tombs {fuel : Nat} {v : Value} {x : DataW H × List MemPlace} (h : DataW.trod enc_ Tryz.prog W base spare held fuel 26 [v] = some x) (hw : Wt Tryz.prog x.1 26) : ∃ l, TombsAt W v l ∧ ∀ z ∈ l, z.t.acks.length ≤ reachBytes := by
  obtain ⟨ao, le, ce, rfl, hle, hce, hes⟩ := open_slice5 Tryz.underlying26 Tryz.underlying54 (by kernel_rfl) (by kernel_rfl) h hw
  obtain ⟨l, hl, hr, hq⟩ := RowAt.of_cells (enc := vTb) (k := 5) hle hce (fun z => z.Reads W ∧ z.t.acks.length ≤ reachBytes) fun i hi => by
    obtain ⟨a, b, off, ha, rfl, hb, w0, w1, w2, w3, w4, z0, z1, z2, z3, z4, n', ⟨g0, g1, g2, g3, g4⟩, c0, c1, c2, c3, c4, t0, t1, t2, t3, t4⟩ := hes i hi
    obtain ⟨s0, q0, _⟩ := DataW.trod_int Tryz.underlying3 t0
    obtain ⟨s1, q1, _⟩ := DataW.trod_int Tryz.underlying3 t1
    obtain ⟨s2, q2, y2', _⟩ := DataW.trod_string Tryz.underlying9 t2
    obtain rfl : w0 = .int .i64 s0 := by simpa using q0
    obtain rfl : w1 = .int .i64 s1 := by simpa using q1
    obtain rfl : w2 = .string s2 := by simpa using q2
    obtain ⟨lc, hlc, hlq⟩ := open_toks t3 g3
    obtain ⟨la, hla, hln⟩ := open_nums t4 g4
    refine ⟨b, off, ha, hb, ⟨⟨s0, s1, s2, lc, la⟩, w3, w4⟩, ⟨⟨hlc, hla⟩, hln⟩, fun j u hu => ?_⟩
    match j, hu with
    | 0, hu => exact c0.trans hu
    | 1, hu => exact c1.trans hu
    | 2, hu => exact c2.trans hu
    | 3, hu => exact c3.trans hu
    | 4, hu => exact c4.trans hu
    | j + 5, hu => simp [vTb] at hu
  exact ⟨l, ⟨hr, fun z hz => (hq z hz).1⟩, fun z hz => (hq z hz).2⟩
set_option maxRecDepth 100000 in
theorem open_cels {fuel : Nat} {v : Value} {x : DataW H × List MemPlace} (h : DataW.trod enc_ Tryz.prog W base spare held fuel 23 [v] = some x) (hw : Wt Tryz.prog x.1 23) : ∃ l, CellsAt W v l ∧ ∀ z ∈ l, z.c.pre.size ≤ reachBytes ∧ z.c.sum.size ≤ reachBytes ∧ (∀ x ∈ z.c.ids, x.size ≤ reachBytes) ∧ ∀ x ∈ z.c.kids, x.size ≤ reachBytes := by
  obtain ⟨ao, le, ce, rfl, hle, hce, hes⟩ := open_slice5 Tryz.underlying23 Tryz.underlying49 (by kernel_rfl) (by kernel_rfl) h hw
  obtain ⟨l, hl, hr, hq⟩ := RowAt.of_cells (enc := vCp) (k := 5) hle hce (fun z => z.Reads W ∧ z.c.pre.size ≤ reachBytes ∧ z.c.sum.size ≤ reachBytes ∧ (∀ x ∈ z.c.ids, x.size ≤ reachBytes) ∧ ∀ x ∈ z.c.kids, x.size ≤ reachBytes) fun i hi => by
    obtain ⟨a, b, off, ha, rfl, hb, w0, w1, w2, w3, w4, z0, z1, z2, z3, z4, n', ⟨g0, g1, g2, g3, g4⟩, c0, c1, c2, c3, c4, t0, t1, t2, t3, t4⟩ := hes i hi
    obtain ⟨s0, q0, y0', _⟩ := DataW.trod_string Tryz.underlying9 t0
    obtain ⟨s1, q1, _⟩ := DataW.trod_int Tryz.underlying3 t1
    obtain ⟨s2, q2, y2', _⟩ := DataW.trod_string Tryz.underlying9 t2
    obtain rfl : w0 = .string s0 := by simpa using q0
    obtain rfl : w1 = .int .i64 s1 := by simpa using q1
    obtain rfl : w2 = .string s2 := by simpa using q2
    obtain ⟨li, hli, si⟩ := open_row_strs Tryz.underlying22 Tryz.underlying9 (by kernel_rfl) t3 g3
    obtain ⟨lk, hlk, sk⟩ := open_row_strs Tryz.underlying22 Tryz.underlying9 (by kernel_rfl) t4 g4
    refine ⟨b, off, ha, hb, ⟨⟨s0, s1, s2, li, lk⟩, w3, w4⟩, ⟨⟨hli, hlk⟩, g0.str y0', g2.str y2', si, sk⟩, fun j u hu => ?_⟩
    match j, hu with
    | 0, hu => exact c0.trans hu
    | 1, hu => exact c1.trans hu
    | 2, hu => exact c2.trans hu
    | 3, hu => exact c3.trans hu
    | 4, hu => exact c4.trans hu
    | j + 5, hu => simp [vCp] at hu
  exact ⟨l, ⟨hr, fun z hz => (hq z hz).1⟩, fun z hz => (hq z hz).2⟩
set_option maxRecDepth 100000 in
/-- A message that came in. -/
theorem open_msg {r : Reach} {b0 : Nat} {v : Value} {d : DataW H} {p : List MemPlace}
    (hv : Value.okWide Tryz.prog W r b0 30 v) (h : DataW.Trod enc_ Tryz.prog W base spare held 30 v d p) (hw : Wt Tryz.prog d 30) : ∃ m : MsgR, v = aMsg m ∧ m.Reads W ∧ m.Sized := by
  obtain ⟨v0, v1, v2, v3, v4, v5, v6, v7, v8, v9, v10, v11, y0, y1, y2, y3, y4, y5, y6, y7, y8, y9, n, ⟨w0, w1, w2, w3, w4, w5, w6, w7, w8, w9⟩, rfl, t0, t1, t2, t3, t4, t5, t6, t7, t8, t9⟩ := open_agg12 Tryz.underlying30 (by kernel_rfl) (by kernel_rfl) hv h hw
  obtain ⟨k0, e0, _⟩ := DataW.trod_int Tryz.underlying3 t0
  obtain rfl : v0 = .int .i64 k0 := by simpa using e0
  obtain ⟨k1, e1, _⟩ := DataW.trod_int Tryz.underlying3 t1
  obtain rfl : v1 = .int .i64 k1 := by simpa using e1
  obtain ⟨k2, e2, _⟩ := DataW.trod_int Tryz.underlying3 t2
  obtain rfl : v2 = .int .i64 k2 := by simpa using e2
  obtain ⟨k3, e3, _⟩ := DataW.trod_int Tryz.underlying3 t3
  obtain rfl : v3 = .int .i64 k3 := by simpa using e3
  obtain ⟨k4, e4, _⟩ := DataW.trod_int Tryz.underlying3 t4
  obtain rfl : v4 = .int .i64 k4 := by simpa using e4
  obtain ⟨l5, r5, s5⟩ := open_row_strs Tryz.underlying22 Tryz.underlying9 (by kernel_rfl) t5 w5
  obtain ⟨l6, r6, s6⟩ := open_cels t6 w6
  obtain ⟨l7, r7, s7⟩ := open_row_strs Tryz.underlying22 Tryz.underlying9 (by kernel_rfl) t7 w7
  obtain ⟨l8, r8, s8⟩ := open_row_strs Tryz.underlying22 Tryz.underlying9 (by kernel_rfl) t8 w8
  obtain ⟨z0, z1, z2, n', ⟨u0, u1, u2⟩, q0, q1, q2⟩ := open_cs3 Tryz.underlying28 (by kernel_rfl) t9 w9
  obtain ⟨l9, r9, s9⟩ := open_refs q0 u0
  obtain ⟨l10, r10, s10⟩ := open_toks q1 u1
  obtain ⟨l11, r11, s11⟩ := open_tombs q2 u2
  exact ⟨⟨k0, k1, k2, k3, k4, l5, l6, l7, l8, ⟨l9, l10, l11, v9, v10, v11⟩, v5, v6, v7, v8⟩, rfl, ⟨r5, r6, r7, r8, r9, r10, r11⟩, s5, s6, s7, s8, s9, s11⟩
end
end Go.Proofs.YtljenganlknhbaaGreat.Fr
