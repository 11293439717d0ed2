/- Slices of the call's own behind stores into a run of their cells: what Insert, Delete, Sort, Compact leave. No program is named here. -/
import Derived.Test.YthcgdpdijdmelaaGreatSlice
import Derived.Laws.IdiomCopy
import Derived.Sort.Row
import Derived.Sort.Grow
namespace Go.Proofs.YthcgdpdijdmelaaGreat
open Go.RowKit Go.Sort
/-- Only blocks in S, and new ones, have changed. -/
structure Chg (S : Nat → Prop) (w w' : World) : Prop where
  os : w'.os = w.os
  tape : w'.tape = w.tape
  output : w'.output = w.output
  size : w.heap.size ≤ w'.heap.size
  block : ∀ k, k < w.heap.size → ¬ S k → w'.heap[k]? = w.heap[k]?
theorem Chg.refl (S : Nat → Prop) (w : World) : Chg S w w := ⟨rfl, rfl, rfl, Nat.le_refl _, fun _ _ _ => rfl⟩
theorem Chg.of_below {S : Nat → Prop} {w w' : World} (h : Below w.heap.size w w') : Chg S w w' := ⟨h.os, h.tape, h.output, h.size, fun k hk _ => h.block k hk⟩
theorem Chg.of_grown {S : Nat → Prop} {w w' : World} {row : Option Nat} (h : w.grownBy w' row) (hr : ∀ k, row = some k → S k) : Chg S w w' := ⟨h.os, h.tape, h.output, h.size, fun k hk hn => h.block k hk (fun e => hn (hr k e.symm))⟩
theorem Chg.mono {S S' : Nat → Prop} {w w' : World} (h : Chg S w w') (hs : ∀ k, k < w.heap.size → S k → S' k) : Chg S' w w' := ⟨h.os, h.tape, h.output, h.size, fun k hk hn => h.block k hk (fun e => hn (hs k hk e))⟩
theorem Chg.trans {S : Nat → Prop} {a b c : World} (h : Chg S a b) (k : Chg (fun i => S i ∨ a.heap.size ≤ i) b c) : Chg S a c :=
  ⟨k.os.trans h.os, k.tape.trans h.tape, k.output.trans h.output, Nat.le_trans h.size k.size, fun i hi hn => (k.block i (Nat.lt_of_lt_of_le hi h.size) (fun e => by rcases e with e | e; exact hn e; omega)).trans (h.block i hi hn)⟩
theorem Chg.below {S : Nat → Prop} {B : Nat} {w w' : World} (h : Chg S w w') (hB : B ≤ w.heap.size) (hs : ∀ k, S k → B ≤ k) : Below B w w' := ⟨h.os, h.tape, h.output, h.size, fun k hk => h.block k (Nat.lt_of_lt_of_le hk hB) (fun e => by have := hs k e; omega)⟩
theorem Chg.blk {S : Nat → Prop} {w w' : World} {g : Nat} {t : TypeId} {cs : Array Value} (h : Chg S w w') (hb : BlkIs w g t cs) (hn : ¬ S g) : BlkIs w' g t cs := (h.block g hb.lt hn).trans hb
theorem Chg.row {S : Nat → Prop} {w w' : World} {g : Nat} {t : TypeId} {cs : Array Value} (h : Chg S w w') (hb : RowIs w g t cs) (hn : ¬ S g) : RowIs w' g t cs := by
  have hlt := hb.lt
  obtain ⟨fr, h1, h2⟩ := hb
  exact ⟨fr, (h.block g hlt hn).trans h1, h2⟩
theorem Chg.sl {S : Nat → Prop} {w w' : World} {base : Nat} {e : TypeId} {size n : Nat} {v : Value} {xs : List Value} (h : Chg S w w') (hv : SlIs w base e size v n xs) (hn : ∀ k, v.ownBlock = some k → ¬ S k) : SlIs w' base e size v n xs := by
  obtain ⟨h1, h2⟩ := hv
  refine ⟨h1, ?_⟩
  rcases h2 with h2 | ⟨g, off, cap, cur, rfl, hg, hh, r⟩
  · exact .inl h2
  · exact .inr ⟨g, off, cap, cur, rfl, hg, h.row hh (hn g rfl), r⟩
theorem Chg.setCell {S : Nat → Prop} {a w : World} (h : Chg S a w) {p : Addr} (hp : S p.block ∨ a.heap.size ≤ p.block) (v : Value) : Chg S a (w.setCell p v) :=
  h.trans ⟨rfl, rfl, rfl, by simp, fun k _ hn => Below.heap_setCell w p v k (fun e => hn (by rw [e]; exact hp))⟩
theorem Chg.alloc {S : Nat → Prop} {a w : World} (h : Chg S a w) (o : Obj) : Chg S a (w.alloc o) := h.trans (.of_below ((Below.refl _ _).alloc (Nat.le_refl _) _))
/-- A run of cells, stored. -/
theorem RowIs.puts {t : TypeId} {g : Nat} : ∀ (vs : List Value) (o : Nat) (w : World) (cs : Array Value), RowIs w g t cs →
    ∃ cs' : Array Value, RowIs (w.setCells g o vs) g t cs' ∧ cs'.size = cs.size ∧ (∀ j, j < vs.length → o + j < cs.size → cs'[o + j]? = vs[j]?) ∧ ∀ k, (k < o ∨ o + vs.length ≤ k) → cs'[k]? = cs[k]?
  | [], o, w, cs, h => ⟨cs, h, rfl, fun j hj => absurd hj (Nat.not_lt_zero _), fun _ _ => rfl⟩
  | v :: r, o, w, cs, h => by
    obtain ⟨cs', h1, h2, h3, h4⟩ := RowIs.puts r (o + 1) _ _ (h.put o v)
    refine ⟨cs', h1, by simpa using h2, fun j hj ho => ?_, fun k hk => ?_⟩
    · cases j with
      | zero =>
        rw [Nat.add_zero, h4 o (Or.inl (by omega)), List.getElem?_cons_zero, Array.getElem?_setIfInBounds, if_pos rfl, if_pos (by omega)]
      | succ j =>
        have := h3 j (by simpa using hj) (by simp; omega)
        rw [show o + 1 + j = o + (j + 1) by omega] at this
        rw [this, List.getElem?_cons_succ]
    · rw [h4 k (by simp only [List.length_cons] at hk; omega), Array.getElem?_setIfInBounds, if_neg (by simp only [List.length_cons] at hk; omega)]
theorem setCells_grown' {g : Nat} : ∀ (news : List Value) (o : Nat) (w : World), w.grownBy (w.setCells g o news) (some g) := fun news o w => setCells_grown news o w
theorem drewN_grown (w : World) (q : Nat) (row : Option Nat) : w.grownBy (w.drewN q) row := ⟨rfl, rfl, rfl, Nat.le_refl _, fun _ _ _ => rfl⟩
theorem grown_then {X Y Z : World} {row : Option Nat} (h : X.grownBy Y row) (k : Y.grownBy Z row) : X.grownBy Z row :=
  ⟨k.os.trans h.os, k.tape.trans h.tape, k.output.trans h.output, Nat.le_trans h.size k.size, fun i hi hne => (k.block i (Nat.lt_of_lt_of_le hi h.size) hne).trans (h.block i hi hne)⟩
theorem grown_new {w X Y : World} {row : Option Nat} {r : Nat} (h : w.grownBy X row) (k : X.grownBy Y (some r)) (hr : w.heap.size ≤ r) : w.grownBy Y row :=
  ⟨k.os.trans h.os, k.tape.trans h.tape, k.output.trans h.output, Nat.le_trans h.size k.size, fun i hi hne => (k.block i (Nat.lt_of_lt_of_le hi h.size) (fun e => by injection e with e; omega)).trans (h.block i hi hne)⟩
theorem RowIs.drewN {w : World} {g : Nat} {t : TypeId} {cs : Array Value} (h : RowIs w g t cs) (q : Nat) : RowIs (w.drewN q) g t cs := h
/-- A row put, by the library's sort. -/
theorem RowIs.putRow {α : Type} [Inhabited α] (enc : α → Value) {w : World} {g : Nat} {t : TypeId} {cs : Array Value} (h : RowIs w g t cs) (q off : Nat) (d : Array α) : RowIs (putRow enc (Sort.ahead w q) g off d) g t (putCells enc off d cs) := by
  obtain ⟨fr, h1, h2⟩ := h
  refine ⟨fr, ?_, fun i hi => h2 i (by simpa [putCells] using hi)⟩
  show ((Sort.ahead w q).heap.modify g _)[g]? = _
  have : (Sort.ahead w q).heap = w.heap := rfl
  rw [this, Array.getElem?_modify, if_pos rfl, h1]
  rfl
theorem RowIs.growO {w : World} {g : Nat} {t : TypeId} {cs : Array Value} (h : RowIs w g t cs) (os : Array Obj) : RowIs (grow w os) g t cs := by
  have hlt := h.lt
  obtain ⟨fr, h1, h2⟩ := h
  exact ⟨fr, by rw [grow]; simp only; rw [Array.getElem?_append_left hlt]; exact h1, h2⟩
theorem putRow_grown {α : Type} [Inhabited α] (enc : α → Value) (w : World) (q g off : Nat) (d : Array α) (os : Array Obj) : w.grownBy (grow (putRow enc (Sort.ahead w q) g off d) os) (some g) := by
  refine ⟨rfl, rfl, rfl, by simp [grow, putRow, mapBlock, Sort.ahead], fun k hk hne => ?_⟩
  show ((((Sort.ahead w q).heap.modify g _) ++ os)[k]?) = _
  have e : (Sort.ahead w q).heap = w.heap := rfl
  rw [e, Array.getElem?_append_left (by simpa using hk), Array.getElem?_modify, if_neg (fun e => hne (by rw [e]))]
theorem putCells_in {α : Type} [Inhabited α] (enc : α → Value) (off : Nat) (d : Array α) (cs : Array Value) (j : Nat) (hj : j < d.size) (hs : off + j < cs.size) : (putCells enc off d cs)[off + j]? = some (enc d[j]!) := by
  unfold putCells
  rw [Array.getElem?_mapIdx, Array.getElem?_eq_getElem hs]
  simp [hj]
theorem putCells_size {α : Type} [Inhabited α] (enc : α → Value) (off : Nat) (d : Array α) (cs : Array Value) : (putCells enc off d cs).size = cs.size := by simp [putCells]
/-- The one-cell slice behind a run of stores from its own place o on. -/
theorem SlIs.puts {w : World} {base : Nat} {e : TypeId} {g off n cap : Nat} {xs : List Value} (h : SlIs w base e 1 (.slice (some ⟨g, off, none⟩) n cap) n xs) (o m : Nat) (vs ys : List Value) (hm : m ≤ cap) (ho : o + vs.length ≤ cap) (hy : ys.length = m)
    (h1 : ∀ j, j < m → (j < o ∨ o + vs.length ≤ j) → j < n ∧ ys[j]? = xs[j]?) (h2 : ∀ j, j < m → o ≤ j → j < o + vs.length → ys[j]? = vs[j - o]?) :
    SlIs (w.setCells g (off + o) vs) base e 1 (.slice (some ⟨g, off, none⟩) m cap) m ys := by
  obtain ⟨hl, h0 | ⟨g', off', cap', cur, hv, hg, hh, hc, hmx, hs, hx⟩⟩ := h
  · cases h0.1
  · injection hv with e1 e2 e3
    injection e1 with e1
    injection e1 with e1 e4
    subst e1 e3 e4
    obtain ⟨cs', r1, r2, r3, r4⟩ := hh.puts vs (off + o)
    refine ⟨by rw [hy, Nat.mul_one], .inr ⟨g, off, cap, cs', rfl, hg, r1, hm, hmx, by rw [r2]; exact hs, fun j hj => ?_⟩⟩
    have hjm : j < m := by omega
    by_cases hin : o ≤ j ∧ j < o + vs.length
    · rw [h2 j hjm hin.1 hin.2]
      have := r3 (j - o) (by omega) (by omega)
      rw [show off + o + (j - o) = off + j by omega] at this
      exact this
    · obtain ⟨hjn, hyj⟩ := h1 j hjm (by omega)
      rw [r4 (off + j) (by omega), hx j (by omega), hyj]
theorem SlIs.parts {w : World} {base : Nat} {e : TypeId} {n : Nat} {v : Value} {xs : List Value} (h : SlIs w base e 1 v n xs) : (v = .slice none 0 0 ∧ n = 0) ∨
    ∃ g off cap, v = .slice (some ⟨g, off, none⟩) n cap ∧ base ≤ g ∧ g < w.heap.size ∧ n ≤ cap ∧ cap ≤ maxLen ∧ (∀ j, j < n → w.cell? ⟨g, off + j, none⟩ = xs[j]?) ∧ (∀ j, j < cap → (w.cell? ⟨g, off + j, none⟩).isSome = true) ∧ (∀ j, j < cap → w.frozen? ⟨g, off + j, none⟩ = false) ∧
      (∃ tk, w.shape? g = some (e, tk) ∧ off + cap ≤ tk) := by
  obtain ⟨hl, h0 | ⟨g, off, cap, cur, rfl, hg, hh, hc, hmx, hs, hx⟩⟩ := h
  · exact .inl h0
  · refine .inr ⟨g, off, cap, rfl, hg, hh.lt, hc, hmx, fun j hj => ?_, fun j hj => ?_, fun j hj => hh.free _ (by omega), ?_⟩
    · rw [hh.cell, hx j (by omega)]
    · rw [hh.cell, Array.getElem?_eq_getElem (by omega)]; rfl
    · obtain ⟨fr, h1, _⟩ := hh
      exact ⟨cur.size, by unfold World.shape?; rw [h1], by omega⟩
theorem BlkIs.shape {w : World} {g : Nat} {t : TypeId} {cs : Array Value} (h : BlkIs w g t cs) : w.shape? g = some (t, cs.size) := by unfold BlkIs at h; unfold World.shape?; rw [h]
/-- Slices of unlike types lie apart. -/
theorem sl_apart {w : World} {b1 b2 : Nat} {e1 e2 : TypeId} {s1 s2 n1 n2 : Nat} {v1 v2 : Value} {x1 x2 : List Value} (h1 : SlIs w b1 e1 s1 v1 n1 x1) (h2 : SlIs w b2 e2 s2 v2 n2 x2) (hne : e1 ≠ e2) : v1.ownBlock = none ∨ v1.ownBlock ≠ v2.ownBlock := by
  rcases h1.2 with ⟨rfl, _⟩ | ⟨g, off, cap, cur, rfl, _, ⟨fr, hh, _⟩, _⟩
  · exact Or.inl rfl
  · refine Or.inr fun e => ?_
    rcases h2.2 with ⟨rfl, _⟩ | ⟨g', off', cap', cur', rfl, _, ⟨fr', hh', _⟩, _⟩
    · cases e
    · have : g = g' := by simpa [Value.ownBlock] using e
      subst this
      rw [hh] at hh'
      injection hh' with hh'
      injection hh' with _ e2 _
      exact hne e2
end Go.Proofs.YthcgdpdijdmelaaGreat
