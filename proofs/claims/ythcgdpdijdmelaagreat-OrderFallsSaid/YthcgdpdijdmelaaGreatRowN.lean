/- Rows of elements of several cells: copied, stored into. No program is named here. (Layer 11.) -/
import Derived.Test.YthcgdpdijdmelaaGreatSlOps
import Derived.Shelf.Spec.SlicesInsertGrow
namespace Go.Proofs.YthcgdpdijdmelaaGreat
open Go.RowKit Go.Lib
set_option linter.unusedVariables false
/-- ALL IS READ BEFORE ANYTHING IS WRITTEN, whatever an element's size. -/
theorem run_copyN {P : Program} (sz : Nat) (w : World) (dT sT ty elem : TypeId) (b o dLen dCap : Nat) (a : Addr) (sLen sCap : Nat) (cs : List Value)
    (hu : P.underlying dT = some (.slice elem)) (hs : (P.info? elem).map (·.size) = some sz) (hn : cs.length = Nat.min sLen dLen * sz)
    (hsrc : ∀ j v, cs[j]? = some v → w.cell? (a.add j) = some v) (hc : ∀ j, j < cs.length → (w.cell? ⟨b, o + j, none⟩).isSome = true) (hf : ∀ j, j < cs.length → w.frozen? ⟨b, o + j, none⟩ = false) (h1 : ∀ v ∈ cs, v.oneCell' = true) :
    (Builtin.copy_ #[dT, sT] ty #[.slice (some ⟨b, o, none⟩) dLen dCap, .slice (some a) sLen sCap]).run P w = .ok (goInt (Nat.min sLen dLen)) (w.setCells b o cs) := by
  have hl := run_loadCells_list (P := P) w a cs hsrc
  have hst := run_storeCells_cells (P := P) b o cs 0 w (by simpa using hc) (by simpa using hf) h1
  cases hq : P.info? elem with
  | none => simp [hq] at hs
  | some i =>
    have hi : i.size = sz := by simpa [hq] using hs
    rw [hn] at hl
    simp [Builtin.copy_, run_underlying hu, Builtin.lenOf, Builtin.firstCells, sizeOf, typeInfo, hq, hi, hl, hst]
/-- The slice behind a run of stores from its own cell o on. -/
theorem SlIs.putsN {w : World} {base : Nat} {e : TypeId} {g off n cap sz : Nat} {xs : List Value} (h : SlIs w base e sz (.slice (some ⟨g, off, none⟩) n cap) n xs) (o m : Nat) (vs ys : List Value) (hm : m ≤ cap) (ho : o + vs.length ≤ cap * sz) (hy : ys.length = m * sz)
    (h1 : ∀ j, j < m * sz → (j < o ∨ o + vs.length ≤ j) → j < n * sz ∧ ys[j]? = xs[j]?) (h2 : ∀ j, j < m * sz → o ≤ j → j < o + vs.length → ys[j]? = vs[j - o]?) :
    SlIs (w.setCells g (off + o) vs) base e sz (.slice (some ⟨g, off, none⟩) m cap) m ys := by
  obtain ⟨hl, h0 | ⟨g', off', cap', cur, hv, hg, hh, hc, hmx, hs, hx⟩⟩ := h
  · cases h0.1
  · injection hv with e1 e2 e3
    injection e1 with e1
    injection e1 with e1 e4
    subst e1 e3 e4
    obtain ⟨cs', r1, r2, r3, r4⟩ := hh.puts vs (off + o)
    refine ⟨hy, .inr ⟨g, off, cap, cs', rfl, hg, r1, hm, hmx, by rw [r2]; exact hs, fun j hj => ?_⟩⟩
    have hjm : j < m * sz := by omega
    by_cases hin : o ≤ j ∧ j < o + vs.length
    · rw [h2 j hjm hin.1 hin.2]
      have := r3 (j - o) (by omega) (by omega)
      rw [show off + o + (j - o) = off + j by omega] at this
      exact this
    · obtain ⟨hjn, hyj⟩ := h1 j hjm (by omega)
      rw [r4 (off + j) (by omega), hx j (by omega), hyj]
theorem SlIs.partsN {w : World} {base : Nat} {e : TypeId} {n sz : Nat} {v : Value} {xs : List Value} (h : SlIs w base e sz v n xs) : (v = .slice none 0 0 ∧ n = 0) ∨
    ∃ g off cap, v = .slice (some ⟨g, off, none⟩) n cap ∧ base ≤ g ∧ g < w.heap.size ∧ n ≤ cap ∧ cap ≤ maxLen ∧ (∀ j, j < n * sz → w.cell? ⟨g, off + j, none⟩ = xs[j]?) ∧ (∀ j, j < cap * sz → (w.cell? ⟨g, off + j, none⟩).isSome = true) ∧ (∀ j, j < cap * sz → w.frozen? ⟨g, off + j, none⟩ = false) ∧
      (∃ tk, w.shape? g = some (e, tk) ∧ off + cap * sz ≤ tk) := by
  obtain ⟨hl, h0 | ⟨g, off, cap, cur, rfl, hg, hh, hc, hmx, hs, hx⟩⟩ := h
  · exact .inl h0
  · refine .inr ⟨g, off, cap, rfl, hg, hh.lt, hc, hmx, fun j hj => ?_, fun j hj => ?_, fun j hj => hh.free _ (by omega), ?_⟩
    · rw [hh.cell, hx j (by omega)]
    · rw [hh.cell, Array.getElem?_eq_getElem (by omega)]; rfl
    · obtain ⟨fr, h1, _⟩ := hh
      exact ⟨cur.size, by unfold World.shape?; rw [h1], by omega⟩
/-- A row with some cells put in. -/
theorem put_cells (cs vs : List Value) (i : Nat) (hi : i ≤ cs.length) (j : Nat) : (cs.take i ++ (vs ++ cs.drop i))[j]? = if j < i then cs[j]? else if j < i + vs.length then vs[j - i]? else cs[j - vs.length]? := by
  by_cases h1 : j < i
  · rw [if_pos h1, List.getElem?_append_left (by rw [List.length_take]; omega), List.getElem?_take, if_pos h1]
  · rw [if_neg h1, List.getElem?_append_right (by rw [List.length_take]; omega), List.length_take, Nat.min_eq_left hi]
    by_cases h2 : j < i + vs.length
    · rw [if_pos h2, List.getElem?_append_left (by omega)]
    · rw [if_neg h2, List.getElem?_append_right (by omega), List.getElem?_drop]
      congr 1
      omega
end Go.Proofs.YthcgdpdijdmelaaGreat
