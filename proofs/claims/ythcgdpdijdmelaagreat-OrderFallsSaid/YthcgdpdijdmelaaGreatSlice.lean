/- Slices of the call's own, wherever in their block they begin: what they hold, how they are cut, read, written, and grown by append. No program is named here. -/
import Derived.Test.YthcgdpdijdmelaaGreatBase
import Derived.Lib.AppendStr
import Derived.ArgAppend
import Derived.Deep.MidRow
namespace Go.Proofs.YthcgdpdijdmelaaGreat
open Go.RowKit

/-- Block g holds the cells cs, of type t, none of which is frozen (a mark may stand beyond them). -/
def RowIs (w : World) (g : Nat) (t : TypeId) (cs : Array Value) : Prop := ∃ fr : Nat × Nat, w.heap[g]? = some (.cells cs t fr) ∧ ∀ i, i < cs.size → ¬ (fr.1 ≤ i ∧ i < fr.2)
section
variable {w w' : World} {g : Nat} {t : TypeId} {cs : Array Value}
theorem BlkIs.toRow (h : BlkIs w g t cs) : RowIs w g t cs := ⟨(0, 0), h, fun i _ hi => by omega⟩
theorem RowIs.lt (h : RowIs w g t cs) : g < w.heap.size := by
  obtain ⟨fr, h, _⟩ := h
  rcases Nat.lt_or_ge g w.heap.size with hlt | hge
  · exact hlt
  · rw [Array.getElem?_eq_none hge] at h; cases h
theorem RowIs.cell (h : RowIs w g t cs) (i : Nat) : w.cell? ⟨g, i, none⟩ = cs[i]? := by
  obtain ⟨fr, h, _⟩ := h; simp [World.cell?, h]
theorem RowIs.free (h : RowIs w g t cs) (i : Nat) (hi : i < cs.size) : w.frozen? ⟨g, i, none⟩ = false := by
  obtain ⟨⟨lo, hi'⟩, h, hf⟩ := h
  have := hf i hi
  simp [World.frozen?, h]
  omega
theorem RowIs.put (h : RowIs w g t cs) (i : Nat) (u : Value) : RowIs (w.setCell ⟨g, i, none⟩ u) g t (cs.setIfInBounds i u) := by
  obtain ⟨⟨lo, hi⟩, h, hf⟩ := h
  exact ⟨(lo, hi), by simp [World.setCell, Array.getElem?_modify, h], fun i hi => hf i (by simpa using hi)⟩
theorem RowIs.far (h : RowIs w g t cs) {p : Addr} (hp : g ≠ p.block) (u : Value) : RowIs (w.setCell p u) g t cs := by
  obtain ⟨fr, h, hf⟩ := h
  exact ⟨fr, (Below.heap_setCell w p u g hp).trans h, hf⟩
theorem RowIs.below {B : Nat} (h : RowIs w g t cs) (hb : Below B w w') (hg : g < B) : RowIs w' g t cs := by
  obtain ⟨fr, h, hf⟩ := h
  exact ⟨fr, (hb.block g hg).trans h, hf⟩
theorem RowIs.grown {row : Option Nat} (h : RowIs w g t cs) (hb : w.grownBy w' row) (hg : some g ≠ row) : RowIs w' g t cs := by
  have hlt := h.lt
  obtain ⟨fr, h, hf⟩ := h
  exact ⟨fr, (hb.block g hlt hg).trans h, hf⟩
end

/-- The slice value v, of n elements (type e, 'size' cells each), holds the cells xs; it is nil, or lies in a block from 'base' on, none of whose cells is frozen, with all its capacity. -/
def SlIs (w : World) (base : Nat) (e : TypeId) (size : Nat) (v : Value) (n : Nat) (xs : List Value) : Prop :=
  xs.length = n * size ∧ ((v = .slice none 0 0 ∧ n = 0) ∨
    ∃ g off cap cur, v = .slice (some ⟨g, off, none⟩) n cap ∧ base ≤ g ∧ RowIs w g e cur ∧ n ≤ cap ∧ cap ≤ maxLen ∧ off + cap * size ≤ cur.size ∧ ∀ j, j < xs.length → cur[off + j]? = xs[j]?)

section
variable {w w' : World} {base : Nat} {e : TypeId} {size n : Nat} {v : Value} {xs : List Value}
theorem SlIs.nil_ (w : World) (base : Nat) (e : TypeId) (size : Nat) : SlIs w base e size (.slice none 0 0) 0 [] := ⟨by simp, .inl ⟨rfl, rfl⟩⟩
theorem SlIs.of_own (h : w.ownsRow base e size v n xs) : SlIs w base e size v n xs := by
  obtain ⟨h1, h2⟩ := h
  refine ⟨h1, ?_⟩
  rcases h2 with h2 | ⟨g, cap, cur, hv, hg, hh, hn, hc, hs, ht⟩
  · exact .inl h2
  · refine .inr ⟨g, 0, cap, cur, hv, hg, BlkIs.toRow hh, hn, hc, by omega, fun j hj => ?_⟩
    have hx : xs[j]? = (cur.toList.take (n * size))[j]? := by rw [ht]
    rw [hx, List.getElem?_take, if_pos (by omega), Array.getElem?_toList, Nat.zero_add]
theorem SlIs.kept {row : Option Nat} (h : SlIs w base e size v n xs) (hg : w.grownBy w' row) (hne : v.ownBlock = none ∨ v.ownBlock ≠ row) : SlIs w' base e size v n xs := by
  obtain ⟨h1, h2⟩ := h
  refine ⟨h1, ?_⟩
  rcases h2 with h2 | ⟨g, off, cap, cur, hv, hg0, hh, r⟩
  · exact .inl h2
  · refine .inr ⟨g, off, cap, cur, hv, hg0, hh.grown hg ?_, r⟩
    subst hv
    rcases hne with hne | hne
    · simp [Value.ownBlock] at hne
    · simpa [Value.ownBlock] using hne
theorem SlIs.lt (h : SlIs w base e size v n xs) : ∀ k, v.ownBlock = some k → base ≤ k ∧ k < w.heap.size := by
  intro k hk
  rcases h.2 with ⟨rfl, _⟩ | ⟨g, off, cap, cur, rfl, hg0, hh, _⟩
  · simp [Value.ownBlock] at hk
  · have : g = k := by simpa [Value.ownBlock] using hk
    subst this
    exact ⟨hg0, hh.lt⟩
theorem SlIs.below {B : Nat} (h : SlIs w base e size v n xs) (hb : Below B w w') (hB : ∀ k, v.ownBlock = some k → k < B) : SlIs w' base e size v n xs := by
  obtain ⟨h1, h2⟩ := h
  refine ⟨h1, ?_⟩
  rcases h2 with h2 | ⟨g, off, cap, cur, hv, hg0, hh, r⟩
  · exact .inl h2
  · subst hv
    exact .inr ⟨g, off, cap, cur, rfl, hg0, hh.below hb (hB g rfl), r⟩
theorem SlIs.later (h : SlIs w base e size v n xs) (hb : Below w.heap.size w w') : SlIs w' base e size v n xs := h.below hb fun k hk => (h.lt k hk).2
theorem SlIs.drew (h : SlIs w base e size v n xs) : SlIs w.drew base e size v n xs := h
theorem SlIs.drewN (h : SlIs w base e size v n xs) (m : Nat) : SlIs (w.drewN m) base e size v n xs := h
theorem SlIs.alloc (h : SlIs w base e size v n xs) (o : Obj) : SlIs (w.alloc o) base e size v n xs := h.later ((Below.refl _ _).alloc (Nat.le_refl _) o)
theorem SlIs.mono {base' : Nat} (h : SlIs w base e size v n xs) (hb : base' ≤ base) : SlIs w base' e size v n xs := by
  obtain ⟨h1, h2⟩ := h
  refine ⟨h1, ?_⟩
  rcases h2 with h2 | ⟨g, off, cap, cur, hv, hg0, r⟩
  · exact .inl h2
  · exact .inr ⟨g, off, cap, cur, hv, by omega, r⟩
theorem SlIs.far (h : SlIs w base e size v n xs) {p : Addr} (hp : v.ownBlock ≠ some p.block) (u : Value) : SlIs (w.setCell p u) base e size v n xs := by
  obtain ⟨h1, h2⟩ := h
  refine ⟨h1, ?_⟩
  rcases h2 with h2 | ⟨g, off, cap, cur, hv, hg0, hh, r⟩
  · exact .inl h2
  · subst hv
    exact .inr ⟨g, off, cap, cur, rfl, hg0, hh.far (fun e => hp (by simp [Value.ownBlock, e])) u, r⟩
/-- A block of another type is another block. -/
theorem SlIs.ne_blk (h : SlIs w base e size v n xs) {g : Nat} {t : TypeId} {cs : Array Value} (hb : BlkIs w g t cs) (hne : e ≠ t) : v.ownBlock ≠ some g := by
  rcases h.2 with ⟨rfl, _⟩ | ⟨g', off, cap, cur, rfl, _, hh, _⟩
  · simp [Value.ownBlock]
  · intro hg
    have : g' = g := by simpa [Value.ownBlock] using hg
    subst this
    unfold BlkIs at hb
    obtain ⟨fr, hh, _⟩ := hh
    rw [hb] at hh
    injection hh with hh
    injection hh with _ ht
    exact hne ht.symm
/-- What an element that is there looks like: the address, and the cell. -/
theorem SlIs.at_ (h : SlIs w base e size v n xs) (hn : 0 < n) : ∃ g off cap, v = .slice (some ⟨g, off, none⟩) n cap ∧ base ≤ g ∧ g < w.heap.size ∧ n ≤ cap ∧ cap ≤ maxLen ∧
    (∀ j, j < xs.length → w.cell? ⟨g, off + j, none⟩ = xs[j]?) ∧ (∀ j, j < xs.length → w.frozen? ⟨g, off + j, none⟩ = false) := by
  rcases h.2 with ⟨_, h0⟩ | ⟨g, off, cap, cur, hv, hg, hh, hc, hm, hfit, hx⟩
  · omega
  · refine ⟨g, off, cap, hv, hg, hh.lt, hc, hm, fun j hj => by rw [hh.cell]; exact hx j hj, fun j hj => hh.free _ ?_⟩
    have := Nat.mul_le_mul_right size hc
    rw [h.1] at hj; omega
theorem SlIs.form (h : SlIs w base e size v n xs) : ∃ ao cap, v = .slice ao n cap ∧ n ≤ cap ∧ cap ≤ maxLen ∧ (ao = none → n = 0 ∧ cap = 0) := by
  rcases h.2 with ⟨hv, h0⟩ | ⟨g, off, cap, cur, hv, hg, hh, hc, hm, _, hx⟩
  · exact ⟨none, 0, by rw [hv, h0], by omega, by omega, fun _ => ⟨h0, rfl⟩⟩
  · exact ⟨_, cap, hv, hc, hm, fun e => by cases e⟩
theorem SlIs.capLe {ao : Option Addr} {cap : Nat} (h : SlIs w base e size (.slice ao n cap) n xs) : n ≤ cap := by
  obtain ⟨ao', cap', hv, h1, _⟩ := h.form
  obtain ⟨_, rfl⟩ : ao = ao' ∧ cap = cap' := by simpa using hv
  exact h1
end

theorem setCells_blk {g : Nat} {t : TypeId} : ∀ (news : List Value) (o : Nat) (w : World) (cur : Array Value), BlkIs w g t cur → ∃ cur', BlkIs (w.setCells g o news) g t cur' ∧ cur'.size = cur.size ∧
    (∀ j, j < news.length → o + j < cur.size → cur'[o + j]? = news[j]?) ∧ (∀ j, j < o → cur'[j]? = cur[j]?) ∧ (∀ j, o + news.length ≤ j → cur'[j]? = cur[j]?) := by
  intro news
  induction news with
  | nil => intro o w cur h; exact ⟨cur, h, rfl, fun j hj => by simp at hj, fun _ _ => rfl, fun _ _ => rfl⟩
  | cons a l ih =>
    intro o w cur h
    obtain ⟨cur', h1, h2, h3, h4, h5⟩ := ih (o + 1) _ _ (h.put o a)
    refine ⟨cur', h1, by simpa using h2, fun j hj hs => ?_, fun j hj => ?_, fun j hj => ?_⟩
    · cases j with
      | zero => rw [Nat.add_zero, h4 o (by omega), Array.getElem?_setIfInBounds_self_of_lt (by omega)]; rfl
      | succ j =>
        have := h3 j (by simpa using hj) (by simp; omega)
        rw [show o + (j + 1) = o + 1 + j by omega, this]; simp
    · rw [h4 j (by omega), Array.getElem?_setIfInBounds_ne (by omega)]
    · rw [List.length_cons] at hj
      rw [h5 j (by omega), Array.getElem?_setIfInBounds_ne (by omega)]
theorem setCells_grown {g : Nat} : ∀ (news : List Value) (o : Nat) (w : World), w.grownBy (w.setCells g o news) (some g) := by
  intro news
  induction news with
  | nil => intro o w; exact World.grownBy.refl w _
  | cons a l ih =>
    intro o w
    have h1 := ih (o + 1) (w.setCell ⟨g, o, none⟩ a)
    refine ⟨h1.os, h1.tape, h1.output, Nat.le_trans (by simp [World.setCell]) h1.size, fun k hk hne => ?_⟩
    rw [show w.setCells g o (a :: l) = (w.setCell ⟨g, o, none⟩ a).setCells g (o + 1) l from rfl, h1.block k (by simpa [World.setCell] using hk) hne]
    exact Below.heap_setCell _ _ _ _ (fun e => hne (by rw [e]))
/-- A block that was just laid, as a slice. -/
theorem SlIs.made {w : World} {base g : Nat} {e : TypeId} {size n : Nat} {cs : Array Value} (h : BlkIs w g e cs) (hb : base ≤ g) (hn : cs.size = n * size) (hm : n ≤ maxLen) : SlIs w base e size (.slice (some ⟨g, 0, none⟩) n n) n cs.toList :=
  ⟨by simpa using hn, .inr ⟨g, 0, n, cs, rfl, hb, h.toRow, Nat.le_refl _, hm, by omega, fun j _ => by rw [Nat.zero_add, Array.getElem?_toList]⟩⟩
/-- Bytes as cells. -/
def bcells (l : List UInt8) : List Value := l.map fun b => Value.int .u8 b.toNat
theorem bcells_length (l : List UInt8) : (bcells l).length = l.length := by simp [bcells]
theorem bcells_append (l m : List UInt8) : bcells l ++ bcells m = bcells (l ++ m) := by simp [bcells]
theorem bcells_one (l : List UInt8) : ∀ u ∈ bcells l, u.oneCell' = true := by
  intro u hu
  simp only [bcells, List.mem_map] at hu
  obtain ⟨b, _, rfl⟩ := hu
  rfl
theorem strCells_eq (s : ByteArray) : Lib.strCells s = bcells s.data.toList := rfl
theorem byte_cell (N k : Nat) : [Value.int .u8 ((N : Int) / 2 ^ k % 256)] = bcells [UInt8.ofNat (N / 2 ^ k)] := by
  simp only [bcells, List.map_cons, List.map_nil]
  congr 2
/-- string(v). -/
theorem SlIs.text {P : Program} {w : World} {base n cap : Nat} {e src dst : TypeId} {ao : Option Addr} {l : List UInt8} (hs : P.underlying src = some (.slice e)) (he : P.underlying e = some (.int .u8)) (hd : P.underlying dst = some .string)
    (h : SlIs w base e 1 (.slice ao n cap) n (bcells l)) : (convert src dst (.slice ao n cap)).run P w = .ok (.string ⟨l.toArray⟩) w := by
  have hn : l.length = n := by have := h.1; rw [bcells_length] at this; omega
  subst hn
  rcases h.2 with ⟨hv, h0⟩ | ⟨g, off, cap', cur, hv, hg, hh, hc, hm, hfit, hx⟩
  · have hl : l = [] := List.eq_nil_of_length_eq_zero h0
    subst hl
    injection hv with e1 e2 e3
    subst e1 e3
    rw [run_convert_bytes_string w src dst e none _ 0 hs he hd]
    simp [Conv.bytesToString]
    rfl
  · injection hv with e1 e2 e3
    subst e1 e3
    refine run_convert_bytes_back w src dst e _ cap l hs he hd fun j hj => ?_
    rw [Addr.add_lit, hh.cell, hx j (by rw [bcells_length]; exact hj)]
    simp [bcells, List.getElem?_eq_getElem hj]
/-- []byte(s). -/
theorem run_bytes_sl {P : Program} (w : World) (src dst e : TypeId) (s : ByteArray) (hs : P.underlying src = some .string) (hd : P.underlying dst = some (.slice e)) (he : P.underlying e = some (.int .u8)) (hm : s.size ≤ maxLen) :
    ∃ ao cap w', (convert src dst (.string s)).run P w = .ok (.slice ao s.size cap) w' ∧ SlIs w' w.heap.size e 1 (.slice ao s.size cap) s.size (bcells s.data.toList) ∧ w.grownBy w' none := by
  refine ⟨_, _, _, run_bytes_of_string w src dst e s hs hd he, ⟨by rw [bcells_length]; show _ = s.data.size * 1; simp, .inr ⟨_, 0, _, bytesRow s (grownCap w s.size 0 e), rfl, Nat.le_refl _, ⟨_, heap_alloc_new w.drew _, fun i hi h => by omega⟩, grownCap_ge w s.size 0 e, grownCap_le_maxLen w s.size 0 e hm, ?_, fun j hj => ?_⟩⟩, ⟨rfl, rfl, rfl, by simp, fun k hk _ => heap_alloc_old w.drew _ hk⟩⟩
  · have := grownCap_ge w s.size 0 e
    have h2 : s.size = s.data.size := rfl
    simp [bytesRow]; omega
  · rw [Nat.zero_add]
    have h2 : j < s.data.size := by rw [bcells_length, Array.length_toList] at hj; exact hj
    unfold bytesRow
    rw [Array.getElem?_append_left (by simpa using h2)]
    simp [bcells]
/-- v[lo:hi]. -/
theorem SlIs.cut {w : World} {base : Nat} {e : TypeId} {size n cap lo hi : Nat} {ao : Option Addr} {xs : List Value} (h : SlIs w base e size (.slice ao n cap) n xs) (h1 : lo ≤ hi) (h2 : hi ≤ n) :
    SlIs w base e size (.slice (if cap = lo then ao else ao.map (·.add (lo * size))) (hi - lo) (cap - lo)) (hi - lo) ((xs.drop (lo * size)).take ((hi - lo) * size)) := by
  have hlen : ((xs.drop (lo * size)).take ((hi - lo) * size)).length = (hi - lo) * size := by
    rw [List.length_take, List.length_drop, h.1, ← Nat.sub_mul]
    exact Nat.min_eq_left (Nat.mul_le_mul_right _ (by omega))
  refine ⟨hlen, ?_⟩
  rcases h.2 with ⟨hv, h0⟩ | ⟨g, off, cap', cur, hv, hg, hh, hc, hm, hfit, hx⟩
  · injection hv with e1 e2 e3
    subst e1 e3
    refine .inl ⟨?_, by omega⟩
    rw [show lo = 0 by omega, show hi = 0 by omega]; rfl
  · injection hv with e1 e2 e3
    subst e1 e3
    have hmul : lo * size + (cap - lo) * size = cap * size := by rw [← Nat.add_mul]; congr 1; omega
    by_cases hcl : cap = lo
    · rw [if_pos hcl]
      have hz : hi - lo = 0 := by omega
      refine .inr ⟨g, off, cap - lo, cur, rfl, hg, hh, by omega, by omega, by rw [hcl, Nat.sub_self, Nat.zero_mul]; omega, fun j hj => ?_⟩
      rw [hlen, hz, Nat.zero_mul] at hj; omega
    · rw [if_neg hcl]
      refine .inr ⟨g, off + lo * size, cap - lo, cur, by rw [Option.map_some, Addr.add_lit], hg, hh, by omega, by omega, by omega, fun j hj => ?_⟩
      rw [hlen] at hj
      rw [List.getElem?_take, if_pos hj, List.getElem?_drop, Nat.add_assoc]
      refine hx (lo * size + j) ?_
      have : (hi - lo) * size + lo * size ≤ n * size := by rw [← Nat.add_mul]; exact Nat.mul_le_mul_right _ (by omega)
      rw [h.1]; omega
theorem setCells_row {g : Nat} {t : TypeId} : ∀ (news : List Value) (o : Nat) (w : World) (cur : Array Value), RowIs w g t cur → ∃ cur', RowIs (w.setCells g o news) g t cur' ∧ cur'.size = cur.size ∧
    (∀ j, j < news.length → o + j < cur.size → cur'[o + j]? = news[j]?) ∧ (∀ j, j < o → cur'[j]? = cur[j]?) ∧ (∀ j, o + news.length ≤ j → cur'[j]? = cur[j]?) := by
  intro news
  induction news with
  | nil => intro o w cur h; exact ⟨cur, h, rfl, fun j hj => by simp at hj, fun _ _ => rfl, fun _ _ => rfl⟩
  | cons a l ih =>
    intro o w cur h
    obtain ⟨cur', h1, h2, h3, h4, h5⟩ := ih (o + 1) _ _ (h.put o a)
    refine ⟨cur', h1, by simpa using h2, fun j hj hs => ?_, fun j hj => ?_, fun j hj => ?_⟩
    · cases j with
      | zero => rw [Nat.add_zero, h4 o (by omega), Array.getElem?_setIfInBounds_self_of_lt (by omega)]; rfl
      | succ j =>
        have := h3 j (by simpa using hj) (by simp; omega)
        rw [show o + (j + 1) = o + 1 + j by omega, this]; simp
    · rw [h4 j (by omega), Array.getElem?_setIfInBounds_ne (by omega)]
    · rw [List.length_cons] at hj
      rw [h5 j (by omega), Array.getElem?_setIfInBounds_ne (by omega)]
/-- A row stored over a part of a block. -/
theorem wpList_store_part_to {P : Program} {ops : Array Oper} {rest : List Oper} {o : Oper} {a : Act} {w : World} {Q : Exit → Act → World → Prop} (hgd : o.guard = none) (ty : TypeId) (x y : Operand) (ho : o.op = .store ty x y)
    (g off : Nat) (cells : Array Value) (hx : a.eval x = .pointer (some ⟨g, off, none⟩)) (hy : a.eval y = .agg cells)
    (t : TypeId) (old new : Array Value) (hg : BlkIs w g t old) (hi : (P.info? ty).map (·.size) = some cells.size)
    (hfit : off + cells.size ≤ old.size) (h1 : cells.all (·.oneCell') = true) (hnew : ∀ j, new[j]? = if off ≤ j ∧ j < off + cells.size then cells[j - off]? else old[j]?)
    (h : ∀ w', BlkIs w' g t new → w.grownBy w' (some g) → wpList P ops Q rest (a.put o.dst undef) w') : wpList P ops Q (o :: rest) a w := by
  refine wpList_store_mid hgd ty x y ho g off cells hx hy (fun j hj => ⟨by rw [hg.cell]; simp; omega, hg.free _⟩) hi h1 ?_
  obtain ⟨cur', h2, h3, h4, h5, h6⟩ := setCells_blk cells.toList off w old hg
  have e : cur' = new := by
    apply Array.ext_getElem?
    intro j
    rw [hnew j]
    split
    · rename_i hj
      have := h4 (j - off) (by simp; omega) (by omega)
      rw [show off + (j - off) = j by omega] at this
      rw [this, Array.getElem?_toList]
    · rename_i hj
      by_cases hjo : j < off
      · exact h5 j hjo
      · exact h6 j (by simp; omega)
  rw [e] at h2
  exact h _ h2 (setCells_grown _ _ _)

/-- WHAT append TAKES ITS NEWS FROM: x has n elements, their cells are 'news', in every world of this memory. -/
structure SrcIs (P : Program) (w : World) (u : TypeId) (size : Nat) (x : Value) (n : Nat) (news : List Value) : Prop where
  len : news.length = n * size
  type : P.underlying u = some .string ∨ ∃ e', P.underlying u = some (.slice e')
  lenOf : ∀ w' : World, (Builtin.lenOf x).run P w' = .ok n w'
  first : ∀ w' : World, w'.heap = w.heap → (Builtin.firstCells size n x).run P w' = .ok news.toArray w'

theorem SrcIs.string {P : Program} {u : TypeId} (hu : P.underlying u = some .string) (w : World) (s : ByteArray) : SrcIs P w u 1 (.string s) s.size (Lib.strCells s) :=
  ⟨by rw [Lib.strCells_length, Nat.mul_one], Or.inl hu, fun w' => by simp [Builtin.lenOf], fun w' _ => Lib.run_firstCells_string w' 1 s⟩
theorem SrcIs.cells {P : Program} {u e : TypeId} (hu : P.underlying u = some (.slice e)) (w : World) (size : Nat) (ad : Addr) (m c : Nat) (news : List Value) (hl : news.length = m * size) (hc : ∀ j v, news[j]? = some v → w.cell? (ad.add j) = some v) :
    SrcIs P w u size (.slice (some ad) m c) m news :=
  ⟨hl, Or.inr ⟨_, hu⟩, fun w' => by simp [Builtin.lenOf], fun w' hw => run_firstCells_some w' size m ad m c news hl fun j v hv => by
    have := hc j v hv
    unfold World.cell? at this ⊢
    rw [hw]; exact this⟩
theorem SrcIs.none_ {P : Program} {u e : TypeId} (hu : P.underlying u = some (.slice e)) (w : World) (size c : Nat) : SrcIs P w u size (.slice none 0 c) 0 [] :=
  ⟨by simp, Or.inr ⟨_, hu⟩, fun w' => by simp [Builtin.lenOf], fun w' _ => run_firstCells_none w' size 0 0 c⟩
theorem SrcIs.own {P : Program} {u e : TypeId} (hu : P.underlying u = some (.slice e)) {w : World} {base size n : Nat} {v : Value} {xs : List Value} (h : SlIs w base e size v n xs) : SrcIs P w u size v n xs := by
  rcases h.2 with ⟨rfl, rfl⟩ | ⟨g, off, cap, cur, rfl, hg, hh, hc, hm, _, hx⟩
  · have : xs = [] := List.eq_nil_of_length_eq_zero (by simpa using h.1)
    subst this
    exact SrcIs.none_ hu w size 0
  · refine SrcIs.cells hu w size _ n cap xs h.1 fun j v hv => ?_
    have hj : j < xs.length := (List.getElem?_eq_some_iff.1 hv).1
    rw [Addr.add_lit, hh.cell, hx j hj, hv]

theorem run_append_sl {P : Program} (w : World) (base : Nat) (t u ty e : TypeId) (i : TypeInfo) (z : Value) (size bytes : Nat) (ht : P.underlying t = some (.slice e)) (hi : P.info? e = some i) (hz : i.zero = some z)
    (hsize : i.size = size) (hby : i.bytes = bytes) (hzs : z.cells.size = size)
    (v : Value) (m : Nat) (xs : List Value) (hv : SlIs w base e size v m xs) (x : Value) (n : Nat) (news : List Value) (hx : SrcIs P w u size x n news) (h1 : ∀ u ∈ news, u.oneCell' = true)
    (h63 : m + n ≤ maxLen) (hbytes : (m + n) * bytes ≤ 140737488355328) (hbase : base ≤ w.heap.size) :
    ∃ v' w', (Builtin.append_ #[t, u] ty #[v, x]).run P w = .ok v' w' ∧ SlIs w' base e size v' (m + n) (xs ++ news) ∧ w.grownBy w' v.ownBlock ∧ (v'.ownBlock = v.ownBlock ∨ v'.ownBlock = some w.heap.size) := by
  subst hsize
  subst hby
  obtain ⟨ao, cap, rfl, hmc, hcm, hao⟩ := hv.form
  have hty := hx.type
  have hlen : (xs ++ news).length = (m + n) * i.size := by rw [List.length_append, hv.1, hx.len, Nat.add_mul]
  by_cases hroom : m + n ≤ cap
  · -- there is room
    cases ao with
    | none =>
      obtain ⟨hm0, hc0⟩ := hao rfl
      subst hm0 hc0
      have hn0 : n = 0 := by omega
      subst hn0
      have hnn : news = [] := List.eq_nil_of_length_eq_zero (by simpa using hx.len)
      subst hnn
      refine ⟨.slice none 0 0, w, ?_, by simpa using hv, World.grownBy.refl w _, .inl rfl⟩
      have hf := hx.first w rfl
      rcases hty with hu | ⟨e', hu⟩ <;> simp [Builtin.append_, run_underlying ht, run_underlying hu, sizeOf, typeInfo, hi, hx.lenOf w, hf]
    | some ad =>
      rcases hv.2 with ⟨h0, _⟩ | ⟨g, off, cap', cur, hve, hg0, hh, _, _, hfit, hcur⟩
      · cases h0
      · injection hve with e1 e2 e3
        injection e1 with e1
        subst e1 e3
        have hf := hx.first w rfl
        have hfc : m * i.size + news.length ≤ cap * i.size := by rw [hx.len, ← Nat.add_mul]; exact Nat.mul_le_mul_right _ hroom
        have hst := run_storeCells_cells (P := P) g (off + m * i.size) news 0 w
          (fun j hj => by rw [hh.cell]; simp; omega) (fun j hj => hh.free _ (by omega)) h1
        simp only [Nat.add_zero] at hst
        obtain ⟨cur', hb', hsz', hn', ho', _⟩ := setCells_row news (off + m * i.size) w cur hh
        refine ⟨.slice (some ⟨g, off, none⟩) (m + n) cap, w.setCells g (off + m * i.size) news, ?_, ⟨hlen, .inr ⟨g, off, cap, cur', rfl, hg0, hb', hroom, hcm, by omega, fun j hj => ?_⟩⟩, ?_, .inl rfl⟩
        · rcases hty with hu | ⟨e', hu⟩ <;> simp [Builtin.append_, run_underlying ht, run_underlying hu, sizeOf, typeInfo, hi, hx.lenOf w, Addr.add_lit, hroom, hf, hst]
        · have hxl := hv.1
          by_cases hjx : j < xs.length
          · rw [ho' _ (by omega), hcur j hjx, List.getElem?_append_left hjx]
          · have := hn' (j - xs.length) (by rw [List.length_append] at hj; omega) (by rw [List.length_append] at hj; omega)
            rw [show off + m * i.size + (j - xs.length) = off + j by omega] at this
            rw [this, List.getElem?_append_right (by omega)]
        · exact setCells_grown news _ w
  · -- it grows
    have hn : ¬ (m + n ≤ cap) := hroom
    have h63' : ¬ (9223372036854775807 < ((m : Int) + (n : Int))) := by simp only [maxLen] at h63; omega
    have h48 := growslice_fits (show cap < m + n by omega) hbytes
    have h48' : ¬ (281474976710656 < Builtin.nextslicecap (m + n) cap * i.bytes) := by omega
    have hf := hx.first w.drew rfl
    have hsrc : (Builtin.firstCells i.size m (.slice ao m cap)).run P w.drew = .ok xs.toArray w.drew := by
      have hs := SrcIs.own ht hv
      exact hs.first w.drew rfl
    have hge := grownCap_ge w (m + n) cap e
    have hcm' : grownCap w (m + n) cap e ≤ maxLen := grownCap_le_maxLen w (m + n) cap e h63
    refine ⟨.slice (some ⟨w.heap.size, 0, none⟩) (m + n) (grownCap w (m + n) cap e), w.drew.alloc (.cells (xs.toArray ++ news.toArray ++ Builtin.zeroCells z.cells (grownCap w (m + n) cap e - (m + n))) e), ?_,
      ⟨hlen, .inr ⟨w.heap.size, 0, _, _, rfl, hbase, BlkIs.toRow (heap_alloc_new w.drew _), hge, hcm', ?_, fun j hj => ?_⟩⟩, ⟨rfl, rfl, rfl, by simp, fun k hk _ => heap_alloc_old w.drew _ hk⟩, .inr rfl⟩
    · rcases hty with hu | ⟨e', hu⟩ <;> simp [Builtin.append_, run_underlying ht, run_underlying hu, sizeOf, typeInfo, zeroValue, hi, hz, hx.lenOf w, hn, h63', h48', Question.forced, hf, hsrc, newRow, grownCap]
      all_goals (congr 2; apply Array.ext'; simp [List.append_assoc])
    · simp only [Array.size_append, List.size_toArray, size_zeroCells, hzs, hv.1, hx.len, ← Nat.add_mul, Nat.zero_add]
      exact Nat.le_of_eq (by congr 1; omega)
    · rw [Nat.zero_add, Array.getElem?_append_left (by simpa using hj)]
      simp

/-- What the table says of a slice type and its elements. -/
def ElemOk (P : Program) (t e : TypeId) (size bytes : Nat) : Prop := P.underlying t = some (.slice e) ∧ ∃ i z, P.info? e = some i ∧ i.zero = some z ∧ i.size = size ∧ i.bytes = bytes ∧ z.cells.size = size
theorem ElemOk.mk' {P : Program} {t e : TypeId} {size bytes : Nat} {z : Value} (h : P.underlying t = some (.slice e)) (hi : (P.info? e).map (fun i => (i.zero, i.size, i.bytes)) = some (some z, size, bytes)) (hz : z.cells.size = size) : ElemOk P t e size bytes := by
  obtain ⟨i, h0, h1, h2, h3⟩ := info_parts hi
  exact ⟨h, i, z, h0, h1, h2, h3, hz⟩

theorem wp_append_sl {P : Program} {w : World} {o : Oper} {a : Act} {K : Act → World → Prop} {Q : Exit → Act → World → Prop} (s x : Operand) (t u : TypeId)
    (ho : o.op = .call { callee := .builtin .append, args := #[s, x], argTypes := #[t, u] }) {base : Nat} {e : TypeId} {size bytes : Nat} (hel : ElemOk P t e size bytes)
    (v : Value) (m : Nat) (xs : List Value) (hs : a.eval s = v) (hv : SlIs w base e size v m xs) (xv : Value) (n : Nat) (news : List Value) (hx : a.eval x = xv) (hsrc : SrcIs P w u size xv n news) (h1 : ∀ u ∈ news, u.oneCell' = true)
    (h63 : m + n ≤ maxLen) (hbytes : (m + n) * bytes ≤ 140737488355328) (hbase : base ≤ w.heap.size)
    (h : ∀ v' w', SlIs w' base e size v' (m + n) (xs ++ news) → w.grownBy w' v.ownBlock → (v'.ownBlock = v.ownBlock ∨ v'.ownBlock = some w.heap.size) → K (a.put o.dst v') w') : o.wp P a w K Q := by
  obtain ⟨ht, i, z, hi, hz, hsize, hby, hzs⟩ := hel
  obtain ⟨v', w', hrun, h2, h3, h4⟩ := run_append_sl (P := P) w base t u o.type e i z size bytes ht hi hz hsize hby hzs v m xs hv xv n news hsrc h1 h63 hbytes hbase
  unfold Oper.wp execOp
  simp only [ho, resolve, invoke, builtin, Sem.run_bind, Sem.run_pure, Result.andThen_ok, List.map_toArray, List.map_cons, List.map_nil, hs, hx, hrun]
  exact h v' w' h2 h3 h4

theorem wpList_append_sl {P : Program} {w : World} {ops : Array Oper} {rest : List Oper} {o : Oper} {a : Act} {Q : Exit → Act → World → Prop} (hgd : o.guard = none) (s x : Operand) (t u : TypeId)
    (ho : o.op = .call { callee := .builtin .append, args := #[s, x], argTypes := #[t, u] }) {base : Nat} {e : TypeId} {size bytes : Nat} (hel : ElemOk P t e size bytes)
    (v : Value) (m : Nat) (xs : List Value) (hs : a.eval s = v) (hv : SlIs w base e size v m xs) (xv : Value) (n : Nat) (news : List Value) (hx : a.eval x = xv) (hsrc : SrcIs P w u size xv n news) (h1 : ∀ u ∈ news, u.oneCell' = true)
    (h63 : m + n ≤ maxLen) (hbytes : (m + n) * bytes ≤ 140737488355328) (hbase : base ≤ w.heap.size)
    (h : ∀ v' w', SlIs w' base e size v' (m + n) (xs ++ news) → w.grownBy w' v.ownBlock → (v'.ownBlock = v.ownBlock ∨ v'.ownBlock = some w.heap.size) → wpList P ops Q rest (a.put o.dst v') w') : wpList P ops Q (o :: rest) a w :=
  wpList_plain hgd fun _ hK => wp_append_sl s x t u ho hel v m xs hs hv xv n news hx hsrc h1 h63 hbytes hbase fun v' w' h2 h3 h4 => hK _ _ (h v' w' h2 h3 h4)
theorem step_append_sl {P : Program} {w : World} {ops : Array Oper} {o : Oper} {a : Act} {K : Act → World → Prop} {Q : Exit → Act → World → Prop} {E : Prop} (hgd : o.guard = none) (s x : Operand) (t u : TypeId)
    (ho : o.op = .call { callee := .builtin .append, args := #[s, x], argTypes := #[t, u] }) {base : Nat} {e : TypeId} {size bytes : Nat} (hel : ElemOk P t e size bytes)
    (v : Value) (m : Nat) (xs : List Value) (hs : a.eval s = v) (hv : SlIs w base e size v m xs) (xv : Value) (n : Nat) (news : List Value) (hx : a.eval x = xv) (hsrc : SrcIs P w u size xv n news) (h1 : ∀ u ∈ news, u.oneCell' = true)
    (h63 : m + n ≤ maxLen) (hbytes : (m + n) * bytes ≤ 140737488355328) (hbase : base ≤ w.heap.size)
    (h : ∀ v' w', SlIs w' base e size v' (m + n) (xs ++ news) → w.grownBy w' v.ownBlock → (v'.ownBlock = v.ownBlock ∨ v'.ownBlock = some w.heap.size) → K (a.put o.dst v') w') :
    if Region.wanted o (yielded ops a.tmps) = true then Oper.wp P o a w K Q else E := by
  rw [if_pos (by simp [Region.wanted, hgd])]
  exact wp_append_sl s x t u ho hel v m xs hs hv xv n news hx hsrc h1 h63 hbytes hbase h
end Go.Proofs.YthcgdpdijdmelaaGreat
