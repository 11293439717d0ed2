/- Several texts in one. (Layer 19.) -/
import Derived.WalkKit
import Derived.WalkLawsBesides
import Derived.WalkSpells
import Derived.Lib.Hide
import Derived.Deep.Draws
import Derived.Lib.AppendStr
import Derived.ArgAppend
import Derived.Deep.MidRow
import Derived.StillTail
import Derived.Deep.Quiet
import Derived.Deep.QuietTactic
import Derived.BigQuiet
import Derived.Deep.RegionHeld3
import Derived.Laws.Rows
import Derived.Laws.IdiomCopy
import Derived.Sort.Row
import Derived.Sort.Grow
/- General words on memory, over any program: blocks known whole, arrays of numbers, small facts. No program is named here. -/
namespace Go.Proofs.YtljenganlknhbaaGreat
open Go.RowKit

/-- Block g is just the cells cs, of type t, none of them frozen. -/
def BlkIs (w : World) (g : Nat) (t : TypeId) (cs : Array Value) : Prop := w.heap[g]? = some (.cells cs t (0, 0))

section
variable {w w' : World} {g : Nat} {t : TypeId} {cs : Array Value}
theorem BlkIs.lt (h : BlkIs w g t cs) : g < w.heap.size := by
  rcases Nat.lt_or_ge g w.heap.size with hlt | hge
  · exact hlt
  · unfold BlkIs at h; rw [Array.getElem?_eq_none hge] at h; cases h
theorem BlkIs.cell (h : BlkIs w g t cs) (i : Nat) : w.cell? ⟨g, i, none⟩ = cs[i]? := by
  unfold BlkIs at h; simp [World.cell?, h]
theorem BlkIs.free (h : BlkIs w g t cs) (i : Nat) : w.frozen? ⟨g, i, none⟩ = false := by
  unfold BlkIs at h; simp [World.frozen?, h]
theorem BlkIs.new (w : World) (t : TypeId) (cs : Array Value) : BlkIs (w.alloc (.cells cs t)) w.heap.size t cs := heap_alloc_new w _
theorem BlkIs.new2 (w : World) (o : Obj) (t : TypeId) (cs : Array Value) : BlkIs ((w.alloc o).alloc (.cells cs t)) (w.heap.size + 1) t cs := by
  have h := BlkIs.new (w.alloc o) t cs
  rwa [World.size_alloc] at h
theorem BlkIs.new3 (w : World) (o o' : Obj) (t : TypeId) (cs : Array Value) : BlkIs (((w.alloc o).alloc o').alloc (.cells cs t)) (w.heap.size + 2) t cs := by
  have h := BlkIs.new2 (w.alloc o) o' t cs
  rwa [World.size_alloc] at h
theorem BlkIs.new4 (w : World) (o o' o2 : Obj) (t : TypeId) (cs : Array Value) : BlkIs ((((w.alloc o).alloc o').alloc o2).alloc (.cells cs t)) (w.heap.size + 3) t cs := by
  have h := BlkIs.new3 (w.alloc o) o' o2 t cs
  rwa [World.size_alloc] at h
theorem BlkIs.drew (h : BlkIs w g t cs) : BlkIs w.drew g t cs := h
theorem BlkIs.drewN (h : BlkIs w g t cs) (n : Nat) : BlkIs (w.drewN n) g t cs := h
theorem BlkIs.alloc (h : BlkIs w g t cs) (o : Obj) : BlkIs (w.alloc o) g t cs := (Below.heap_alloc w o g h.lt).trans h
theorem BlkIs.put (h : BlkIs w g t cs) (i : Nat) (u : Value) : BlkIs (w.setCell ⟨g, i, none⟩ u) g t (cs.setIfInBounds i u) := by
  unfold BlkIs at h ⊢
  simp [World.setCell, Array.getElem?_modify, h]
theorem BlkIs.far (h : BlkIs w g t cs) {p : Addr} (hp : g ≠ p.block) (u : Value) : BlkIs (w.setCell p u) g t cs := (Below.heap_setCell w p u g hp).trans h
theorem BlkIs.below {B : Nat} (h : BlkIs w g t cs) (hb : Below B w w') (hg : g < B) : BlkIs w' g t cs := (hb.block g hg).trans h
theorem BlkIs.grown {row : Option Nat} (h : BlkIs w g t cs) (hb : w.grownBy w' row) (hg : some g ≠ row) : BlkIs w' g t cs := (hb.block g h.lt hg).trans h
end

/-- A whole row stored over a block of its size. -/
theorem BlkIs.row {w : World} {g : Nat} {t : TypeId} {cs : Array Value} (h : BlkIs w g t cs) (c' : Array Value) : BlkIs (w.setRow g c') g t c' := setRow_heap w g cs c' t (0, 0) h
theorem BlkIs.rowFar {w : World} {g g' : Nat} {t : TypeId} {cs : Array Value} (h : BlkIs w g t cs) (hne : g ≠ g') (c' : Array Value) : BlkIs (w.setRow g' c') g t cs := (setRow_other w g' g c' hne).trans h
theorem below_row {B g : Nat} {w0 w : World} (hb : Below B w0 w) (hBg : B ≤ g) (cs : Array Value) : Below B w0 (w.setRow g cs) :=
  hb.trans ⟨rfl, rfl, rfl, by simp [World.setRow], fun k hk => setRow_other w g k cs (by omega)⟩

theorem wpList_build_to {P : Program} {ops : Array Oper} {rest : List Oper} {o : Oper} {a : Act} {w : World} {Q : Exit → Act → World → Prop} (hg : o.guard = none) (t : TypeId) (parts : Array (Nat × Operand)) (ho : o.op = .build t parts)
    (cs : Array Value) (hf : P.built t (parts.map fun (i, x) => (i, a.eval x)).toList = some cs)
    (h : wpList P ops Q rest (a.put o.dst (.agg cs)) w) : wpList P ops Q (o :: rest) a w :=
  wpList_build hg t parts ho (by rw [hf]; rfl) (by rw [hf]; exact h)

theorem grown_row {w : World} {g : Nat} (cs : Array Value) : w.grownBy (w.setRow g cs) (some g) :=
  ⟨rfl, rfl, rfl, by simp [World.setRow], fun k _ hne => setRow_other w g k cs (fun e => hne (by rw [e]))⟩
theorem grown_below {w w' : World} {g B : Nat} (h : w.grownBy w' (some g)) (hg : B ≤ g) (hB : B ≤ w.heap.size) : Below B w w' :=
  ⟨h.os, h.tape, h.output, h.size, fun k hk => h.block k (by omega) (fun e => by injection e; omega)⟩
/-- A whole row stored over a block: of the world behind it only what it is good for is told. -/
theorem wpList_store_row_to {P : Program} {ops : Array Oper} {rest : List Oper} {o : Oper} {a : Act} {w : World} {Q : Exit → Act → World → Prop} (hgd : o.guard = none) (ty : TypeId) (x y : Operand) (ho : o.op = .store ty x y)
    (g : Nat) (cells : Array Value) (hx : a.eval x = .pointer (some ⟨g, 0, none⟩)) (hy : a.eval y = .agg cells)
    (t : TypeId) (old : Array Value) (hg : BlkIs w g t old) (hi : (P.info? ty).map (·.size) = some cells.size)
    (hold : old.size = cells.size) (h1 : cells.all (·.oneCell') = true)
    (h : ∀ w', BlkIs w' g t cells → w.grownBy w' (some g) → wpList P ops Q rest (a.put o.dst undef) w') : wpList P ops Q (o :: rest) a w :=
  wpList_store_row hgd ty x y ho g cells hx hy t old hg hi hold h1 (h _ (hg.row cells) (grown_row cells))

/-- One cell of an array value. -/
theorem run_index_row {P : Program} {T e : TypeId} {n : Nat} {i : TypeInfo} {d : TypeDesc} (hT : P.underlying T = some (.array n e)) (hi : P.info? e = some i) (hs : i.size = 1) (he : P.underlying e = some d) (hd : (match d with | .struct _ | .array _ _ => false | _ => true) = true)
    (cs : Array Value) (k : IntKind) (j : Nat) (hj : j < n) (v : Value) (hv : cs[j]? = some v) (w : World) :
    (Instr.index T (.agg cs) (.int k (j : Int))).run P w = .ok v w := by
  have h2 : (isAgg e).run P w = .ok false w := by
    simp only [isAgg, Sem.run_bind, run_underlying he, Result.andThen_ok]
    cases d <;> simp_all
  simp only [Instr.index, asIntOf, Sem.run_bind, Sem.run_pure, Result.andThen_ok, run_underlying hT]
  have h3 : (0 : Int) ≤ (j : Int) ∧ (j : Int) < (n : Int) := by omega
  simp [h3, part, h2, sizeOf, typeInfo, hi, hs, hv]

/-- Numbers as cells. -/
def nums (k : IntKind) (l : List Int) : Array Value := (l.map (Value.int k)).toArray
theorem nums_size (k : IntKind) (l : List Int) : (nums k l).size = l.length := by simp [nums]
theorem nums_get (k : IntKind) (l : List Int) (i : Nat) (h : i < l.length) : (nums k l)[i]? = some (.int k (l.getD i 0)) := by
  simp [nums, List.getD, List.getElem?_eq_getElem h]
theorem nums_set (k : IntKind) (l : List Int) (i : Nat) (x : Int) : (nums k l).setIfInBounds i (.int k x) = nums k (l.set i x) := by
  simp [nums, ← List.map_set]

theorem nums_one (k : IntKind) (l : List Int) : (nums k l).all (·.oneCell') = true := by
  simp [nums, Value.oneCell']

theorem below_cells {W w1 : World} (hb : Below W.heap.size W w1) : (∀ b o, b < W.heap.size → w1.cell? ⟨b, o, none⟩ = W.cell? ⟨b, o, none⟩) ∧ (∀ b o, b < W.heap.size → w1.frozen? ⟨b, o, none⟩ = W.frozen? ⟨b, o, none⟩) :=
  ⟨fun b o h => hb.cell (p := ⟨b, o, none⟩) h, fun b o h => hb.frozen (p := ⟨b, o, none⟩) h⟩
theorem below_drewN {B : Nat} {a w : World} (h : Below B a w) (n : Nat) : Below B a (w.drewN n) := ⟨h.os, h.tape, h.output, h.size, h.block⟩
theorem getD_lt {l : List Int} {m : Int} (hm : 0 < m) (h : ∀ x ∈ l, 0 ≤ x ∧ x < m) (i : Nat) : 0 ≤ l.getD i 0 ∧ l.getD i 0 < m := by
  rw [List.getD]
  cases hi : l[i]? with
  | none => simp; omega
  | some v => simpa using h v (List.mem_of_getElem? hi)
/-- Nothing but draws. -/
def DrawsOf (w w' : World) : Prop := ∃ n, w' = w.drewN n
theorem DrawsOf.refl (w : World) : DrawsOf w w := ⟨0, rfl⟩
theorem DrawsOf.drewN {w w' : World} (h : DrawsOf w w') (n : Nat) : DrawsOf w (w'.drewN n) := by
  obtain ⟨m, rfl⟩ := h
  exact ⟨m + n, by rw [World.drewN_drewN]⟩
theorem DrawsOf.drew {w w' : World} (h : DrawsOf w w') : DrawsOf w w'.drew := h.drewN 1
theorem DrawsOf.cell {w w' : World} (h : DrawsOf w w') (a : Addr) : w'.cell? a = w.cell? a := by
  obtain ⟨m, rfl⟩ := h; rfl
theorem DrawsOf.below {w w' : World} (h : DrawsOf w w') (B : Nat) : Below B w w' := by
  obtain ⟨m, rfl⟩ := h; exact below_drewN (Below.refl _ _) m
theorem DrawsOf.blk {w w' : World} (h : DrawsOf w w') {g : Nat} {t : TypeId} {cs : Array Value} (hb : BlkIs w g t cs) : BlkIs w' g t cs := by
  obtain ⟨m, rfl⟩ := h; exact hb
theorem ret_int {k : IntKind} {a b : Int} (h : a = b) : Ending.returned (.int k a) = .returned (.int k b) := by rw [h]
end Go.Proofs.YtljenganlknhbaaGreat

/- Slices of the call's own, wherever in their block they begin: what they hold, how they are cut, read, written, and grown by append. No program is named here. -/
namespace Go.Proofs.YtljenganlknhbaaGreat
open Go.RowKit

/-- Block g holds the cells cs, of type t, none of which is frozen (a mark may stand beyond them). -/
def RowIs (w : World) (g : Nat) (t : TypeId) (cs : Array Value) : Prop := ∃ fr : Nat × Nat, w.heap[g]? = some (.cells cs t fr) ∧ ∀ i, i < cs.size → ¬ (fr.1 ≤ i ∧ i < fr.2)
section
variable {w w' : World} {g : Nat} {t : TypeId} {cs : Array Value}
theorem BlkIs.toRow (h : BlkIs w g t cs) : RowIs w g t cs := ⟨(0, 0), h, fun i _ hi => by omega⟩
theorem RowIs.lt (h : RowIs w g t cs) : g < w.heap.size := by
  obtain ⟨fr, h, _⟩ := h
  rcases Nat.lt_or_ge g w.heap.size with hlt | hge
  · exact hlt
  · rw [Array.getElem?_eq_none hge] at h; cases h
theorem RowIs.cell (h : RowIs w g t cs) (i : Nat) : w.cell? ⟨g, i, none⟩ = cs[i]? := by
  obtain ⟨fr, h, _⟩ := h; simp [World.cell?, h]
theorem RowIs.free (h : RowIs w g t cs) (i : Nat) (hi : i < cs.size) : w.frozen? ⟨g, i, none⟩ = false := by
  obtain ⟨⟨lo, hi'⟩, h, hf⟩ := h
  have := hf i hi
  simp [World.frozen?, h]
  omega
theorem RowIs.put (h : RowIs w g t cs) (i : Nat) (u : Value) : RowIs (w.setCell ⟨g, i, none⟩ u) g t (cs.setIfInBounds i u) := by
  obtain ⟨⟨lo, hi⟩, h, hf⟩ := h
  exact ⟨(lo, hi), by simp [World.setCell, Array.getElem?_modify, h], fun i hi => hf i (by simpa using hi)⟩
theorem RowIs.far (h : RowIs w g t cs) {p : Addr} (hp : g ≠ p.block) (u : Value) : RowIs (w.setCell p u) g t cs := by
  obtain ⟨fr, h, hf⟩ := h
  exact ⟨fr, (Below.heap_setCell w p u g hp).trans h, hf⟩
theorem RowIs.below {B : Nat} (h : RowIs w g t cs) (hb : Below B w w') (hg : g < B) : RowIs w' g t cs := by
  obtain ⟨fr, h, hf⟩ := h
  exact ⟨fr, (hb.block g hg).trans h, hf⟩
theorem RowIs.grown {row : Option Nat} (h : RowIs w g t cs) (hb : w.grownBy w' row) (hg : some g ≠ row) : RowIs w' g t cs := by
  have hlt := h.lt
  obtain ⟨fr, h, hf⟩ := h
  exact ⟨fr, (hb.block g hlt hg).trans h, hf⟩
end

/-- The slice value v, of n elements (type e, 'size' cells each), holds the cells xs; it is nil, or lies in a block from 'base' on, none of whose cells is frozen, with all its capacity. -/
def SlIs (w : World) (base : Nat) (e : TypeId) (size : Nat) (v : Value) (n : Nat) (xs : List Value) : Prop :=
  xs.length = n * size ∧ ((v = .slice none 0 0 ∧ n = 0) ∨
    ∃ g off cap cur, v = .slice (some ⟨g, off, none⟩) n cap ∧ base ≤ g ∧ RowIs w g e cur ∧ n ≤ cap ∧ cap ≤ maxLen ∧ off + cap * size ≤ cur.size ∧ ∀ j, j < xs.length → cur[off + j]? = xs[j]?)

section
variable {w w' : World} {base : Nat} {e : TypeId} {size n : Nat} {v : Value} {xs : List Value}
theorem SlIs.nil_ (w : World) (base : Nat) (e : TypeId) (size : Nat) : SlIs w base e size (.slice none 0 0) 0 [] := ⟨by simp, .inl ⟨rfl, rfl⟩⟩
theorem SlIs.of_own (h : w.ownsRow base e size v n xs) : SlIs w base e size v n xs := by
  obtain ⟨h1, h2⟩ := h
  refine ⟨h1, ?_⟩
  rcases h2 with h2 | ⟨g, cap, cur, hv, hg, hh, hn, hc, hs, ht⟩
  · exact .inl h2
  · refine .inr ⟨g, 0, cap, cur, hv, hg, BlkIs.toRow hh, hn, hc, by omega, fun j hj => ?_⟩
    have hx : xs[j]? = (cur.toList.take (n * size))[j]? := by rw [ht]
    rw [hx, List.getElem?_take, if_pos (by omega), Array.getElem?_toList, Nat.zero_add]
theorem SlIs.kept {row : Option Nat} (h : SlIs w base e size v n xs) (hg : w.grownBy w' row) (hne : v.ownBlock = none ∨ v.ownBlock ≠ row) : SlIs w' base e size v n xs := by
  obtain ⟨h1, h2⟩ := h
  refine ⟨h1, ?_⟩
  rcases h2 with h2 | ⟨g, off, cap, cur, hv, hg0, hh, r⟩
  · exact .inl h2
  · refine .inr ⟨g, off, cap, cur, hv, hg0, hh.grown hg ?_, r⟩
    subst hv
    rcases hne with hne | hne
    · simp [Value.ownBlock] at hne
    · simpa [Value.ownBlock] using hne
theorem SlIs.lt (h : SlIs w base e size v n xs) : ∀ k, v.ownBlock = some k → base ≤ k ∧ k < w.heap.size := by
  intro k hk
  rcases h.2 with ⟨rfl, _⟩ | ⟨g, off, cap, cur, rfl, hg0, hh, _⟩
  · simp [Value.ownBlock] at hk
  · have : g = k := by simpa [Value.ownBlock] using hk
    subst this
    exact ⟨hg0, hh.lt⟩
theorem SlIs.below {B : Nat} (h : SlIs w base e size v n xs) (hb : Below B w w') (hB : ∀ k, v.ownBlock = some k → k < B) : SlIs w' base e size v n xs := by
  obtain ⟨h1, h2⟩ := h
  refine ⟨h1, ?_⟩
  rcases h2 with h2 | ⟨g, off, cap, cur, hv, hg0, hh, r⟩
  · exact .inl h2
  · subst hv
    exact .inr ⟨g, off, cap, cur, rfl, hg0, hh.below hb (hB g rfl), r⟩
theorem SlIs.later (h : SlIs w base e size v n xs) (hb : Below w.heap.size w w') : SlIs w' base e size v n xs := h.below hb fun k hk => (h.lt k hk).2
theorem SlIs.drew (h : SlIs w base e size v n xs) : SlIs w.drew base e size v n xs := h
theorem SlIs.drewN (h : SlIs w base e size v n xs) (m : Nat) : SlIs (w.drewN m) base e size v n xs := h
theorem SlIs.alloc (h : SlIs w base e size v n xs) (o : Obj) : SlIs (w.alloc o) base e size v n xs := h.later ((Below.refl _ _).alloc (Nat.le_refl _) o)
theorem SlIs.mono {base' : Nat} (h : SlIs w base e size v n xs) (hb : base' ≤ base) : SlIs w base' e size v n xs := by
  obtain ⟨h1, h2⟩ := h
  refine ⟨h1, ?_⟩
  rcases h2 with h2 | ⟨g, off, cap, cur, hv, hg0, r⟩
  · exact .inl h2
  · exact .inr ⟨g, off, cap, cur, hv, by omega, r⟩
theorem SlIs.far (h : SlIs w base e size v n xs) {p : Addr} (hp : v.ownBlock ≠ some p.block) (u : Value) : SlIs (w.setCell p u) base e size v n xs := by
  obtain ⟨h1, h2⟩ := h
  refine ⟨h1, ?_⟩
  rcases h2 with h2 | ⟨g, off, cap, cur, hv, hg0, hh, r⟩
  · exact .inl h2
  · subst hv
    exact .inr ⟨g, off, cap, cur, rfl, hg0, hh.far (fun e => hp (by simp [Value.ownBlock, e])) u, r⟩
/-- A block of another type is another block. -/
theorem SlIs.ne_blk (h : SlIs w base e size v n xs) {g : Nat} {t : TypeId} {cs : Array Value} (hb : BlkIs w g t cs) (hne : e ≠ t) : v.ownBlock ≠ some g := by
  rcases h.2 with ⟨rfl, _⟩ | ⟨g', off, cap, cur, rfl, _, hh, _⟩
  · simp [Value.ownBlock]
  · intro hg
    have : g' = g := by simpa [Value.ownBlock] using hg
    subst this
    unfold BlkIs at hb
    obtain ⟨fr, hh, _⟩ := hh
    rw [hb] at hh
    injection hh with hh
    injection hh with _ ht
    exact hne ht.symm
/-- What an element that is there looks like: the address, and the cell. -/
theorem SlIs.at_ (h : SlIs w base e size v n xs) (hn : 0 < n) : ∃ g off cap, v = .slice (some ⟨g, off, none⟩) n cap ∧ base ≤ g ∧ g < w.heap.size ∧ n ≤ cap ∧ cap ≤ maxLen ∧
    (∀ j, j < xs.length → w.cell? ⟨g, off + j, none⟩ = xs[j]?) ∧ (∀ j, j < xs.length → w.frozen? ⟨g, off + j, none⟩ = false) := by
  rcases h.2 with ⟨_, h0⟩ | ⟨g, off, cap, cur, hv, hg, hh, hc, hm, hfit, hx⟩
  · omega
  · refine ⟨g, off, cap, hv, hg, hh.lt, hc, hm, fun j hj => by rw [hh.cell]; exact hx j hj, fun j hj => hh.free _ ?_⟩
    have := Nat.mul_le_mul_right size hc
    rw [h.1] at hj; omega
theorem SlIs.form (h : SlIs w base e size v n xs) : ∃ ao cap, v = .slice ao n cap ∧ n ≤ cap ∧ cap ≤ maxLen ∧ (ao = none → n = 0 ∧ cap = 0) := by
  rcases h.2 with ⟨hv, h0⟩ | ⟨g, off, cap, cur, hv, hg, hh, hc, hm, _, hx⟩
  · exact ⟨none, 0, by rw [hv, h0], by omega, by omega, fun _ => ⟨h0, rfl⟩⟩
  · exact ⟨_, cap, hv, hc, hm, fun e => by cases e⟩
theorem SlIs.capLe {ao : Option Addr} {cap : Nat} (h : SlIs w base e size (.slice ao n cap) n xs) : n ≤ cap := by
  obtain ⟨ao', cap', hv, h1, _⟩ := h.form
  obtain ⟨_, rfl⟩ : ao = ao' ∧ cap = cap' := by simpa using hv
  exact h1
end

theorem setCells_blk {g : Nat} {t : TypeId} : ∀ (news : List Value) (o : Nat) (w : World) (cur : Array Value), BlkIs w g t cur → ∃ cur', BlkIs (w.setCells g o news) g t cur' ∧ cur'.size = cur.size ∧
    (∀ j, j < news.length → o + j < cur.size → cur'[o + j]? = news[j]?) ∧ (∀ j, j < o → cur'[j]? = cur[j]?) ∧ (∀ j, o + news.length ≤ j → cur'[j]? = cur[j]?) := by
  intro news
  induction news with
  | nil => intro o w cur h; exact ⟨cur, h, rfl, fun j hj => by simp at hj, fun _ _ => rfl, fun _ _ => rfl⟩
  | cons a l ih =>
    intro o w cur h
    obtain ⟨cur', h1, h2, h3, h4, h5⟩ := ih (o + 1) _ _ (h.put o a)
    refine ⟨cur', h1, by simpa using h2, fun j hj hs => ?_, fun j hj => ?_, fun j hj => ?_⟩
    · cases j with
      | zero => rw [Nat.add_zero, h4 o (by omega), Array.getElem?_setIfInBounds_self_of_lt (by omega)]; rfl
      | succ j =>
        have := h3 j (by simpa using hj) (by simp; omega)
        rw [show o + (j + 1) = o + 1 + j by omega, this]; simp
    · rw [h4 j (by omega), Array.getElem?_setIfInBounds_ne (by omega)]
    · rw [List.length_cons] at hj
      rw [h5 j (by omega), Array.getElem?_setIfInBounds_ne (by omega)]
theorem setCells_grown {g : Nat} : ∀ (news : List Value) (o : Nat) (w : World), w.grownBy (w.setCells g o news) (some g) := by
  intro news
  induction news with
  | nil => intro o w; exact World.grownBy.refl w _
  | cons a l ih =>
    intro o w
    have h1 := ih (o + 1) (w.setCell ⟨g, o, none⟩ a)
    refine ⟨h1.os, h1.tape, h1.output, Nat.le_trans (by simp [World.setCell]) h1.size, fun k hk hne => ?_⟩
    rw [show w.setCells g o (a :: l) = (w.setCell ⟨g, o, none⟩ a).setCells g (o + 1) l from rfl, h1.block k (by simpa [World.setCell] using hk) hne]
    exact Below.heap_setCell _ _ _ _ (fun e => hne (by rw [e]))
/-- A block that was just laid, as a slice. -/
theorem SlIs.made {w : World} {base g : Nat} {e : TypeId} {size n : Nat} {cs : Array Value} (h : BlkIs w g e cs) (hb : base ≤ g) (hn : cs.size = n * size) (hm : n ≤ maxLen) : SlIs w base e size (.slice (some ⟨g, 0, none⟩) n n) n cs.toList :=
  ⟨by simpa using hn, .inr ⟨g, 0, n, cs, rfl, hb, h.toRow, Nat.le_refl _, hm, by omega, fun j _ => by rw [Nat.zero_add, Array.getElem?_toList]⟩⟩
/-- Bytes as cells. -/
def bcells (l : List UInt8) : List Value := l.map fun b => Value.int .u8 b.toNat
theorem bcells_length (l : List UInt8) : (bcells l).length = l.length := by simp [bcells]
theorem bcells_append (l m : List UInt8) : bcells l ++ bcells m = bcells (l ++ m) := by simp [bcells]
theorem bcells_one (l : List UInt8) : ∀ u ∈ bcells l, u.oneCell' = true := by
  intro u hu
  simp only [bcells, List.mem_map] at hu
  obtain ⟨b, _, rfl⟩ := hu
  rfl
theorem strCells_eq (s : ByteArray) : Lib.strCells s = bcells s.data.toList := rfl
theorem byte_cell (N k : Nat) : [Value.int .u8 ((N : Int) / 2 ^ k % 256)] = bcells [UInt8.ofNat (N / 2 ^ k)] := by
  simp only [bcells, List.map_cons, List.map_nil]
  congr 2
/-- string(v). -/
theorem SlIs.text {P : Program} {w : World} {base n cap : Nat} {e src dst : TypeId} {ao : Option Addr} {l : List UInt8} (hs : P.underlying src = some (.slice e)) (he : P.underlying e = some (.int .u8)) (hd : P.underlying dst = some .string)
    (h : SlIs w base e 1 (.slice ao n cap) n (bcells l)) : (convert src dst (.slice ao n cap)).run P w = .ok (.string ⟨l.toArray⟩) w := by
  have hn : l.length = n := by have := h.1; rw [bcells_length] at this; omega
  subst hn
  rcases h.2 with ⟨hv, h0⟩ | ⟨g, off, cap', cur, hv, hg, hh, hc, hm, hfit, hx⟩
  · have hl : l = [] := List.eq_nil_of_length_eq_zero h0
    subst hl
    injection hv with e1 e2 e3
    subst e1 e3
    rw [run_convert_bytes_string w src dst e none _ 0 hs he hd]
    simp [Conv.bytesToString]
    rfl
  · injection hv with e1 e2 e3
    subst e1 e3
    refine run_convert_bytes_back w src dst e _ cap l hs he hd fun j hj => ?_
    rw [Addr.add_lit, hh.cell, hx j (by rw [bcells_length]; exact hj)]
    simp [bcells, List.getElem?_eq_getElem hj]
/-- []byte(s). -/
theorem run_bytes_sl {P : Program} (w : World) (src dst e : TypeId) (s : ByteArray) (hs : P.underlying src = some .string) (hd : P.underlying dst = some (.slice e)) (he : P.underlying e = some (.int .u8)) (hm : s.size ≤ maxLen) :
    ∃ ao cap w', (convert src dst (.string s)).run P w = .ok (.slice ao s.size cap) w' ∧ SlIs w' w.heap.size e 1 (.slice ao s.size cap) s.size (bcells s.data.toList) ∧ w.grownBy w' none := by
  refine ⟨_, _, _, run_bytes_of_string w src dst e s hs hd he, ⟨by rw [bcells_length]; show _ = s.data.size * 1; simp, .inr ⟨_, 0, _, bytesRow s (grownCap w s.size 0 e), rfl, Nat.le_refl _, ⟨_, heap_alloc_new w.drew _, fun i hi h => by omega⟩, grownCap_ge w s.size 0 e, grownCap_le_maxLen w s.size 0 e hm, ?_, fun j hj => ?_⟩⟩, ⟨rfl, rfl, rfl, by simp, fun k hk _ => heap_alloc_old w.drew _ hk⟩⟩
  · have := grownCap_ge w s.size 0 e
    have h2 : s.size = s.data.size := rfl
    simp [bytesRow]; omega
  · rw [Nat.zero_add]
    have h2 : j < s.data.size := by rw [bcells_length, Array.length_toList] at hj; exact hj
    unfold bytesRow
    rw [Array.getElem?_append_left (by simpa using h2)]
    simp [bcells]
/-- v[lo:hi]. -/
theorem SlIs.cut {w : World} {base : Nat} {e : TypeId} {size n cap lo hi : Nat} {ao : Option Addr} {xs : List Value} (h : SlIs w base e size (.slice ao n cap) n xs) (h1 : lo ≤ hi) (h2 : hi ≤ n) :
    SlIs w base e size (.slice (if cap = lo then ao else ao.map (·.add (lo * size))) (hi - lo) (cap - lo)) (hi - lo) ((xs.drop (lo * size)).take ((hi - lo) * size)) := by
  have hlen : ((xs.drop (lo * size)).take ((hi - lo) * size)).length = (hi - lo) * size := by
    rw [List.length_take, List.length_drop, h.1, ← Nat.sub_mul]
    exact Nat.min_eq_left (Nat.mul_le_mul_right _ (by omega))
  refine ⟨hlen, ?_⟩
  rcases h.2 with ⟨hv, h0⟩ | ⟨g, off, cap', cur, hv, hg, hh, hc, hm, hfit, hx⟩
  · injection hv with e1 e2 e3
    subst e1 e3
    refine .inl ⟨?_, by omega⟩
    rw [show lo = 0 by omega, show hi = 0 by omega]; rfl
  · injection hv with e1 e2 e3
    subst e1 e3
    have hmul : lo * size + (cap - lo) * size = cap * size := by rw [← Nat.add_mul]; congr 1; omega
    by_cases hcl : cap = lo
    · rw [if_pos hcl]
      have hz : hi - lo = 0 := by omega
      refine .inr ⟨g, off, cap - lo, cur, rfl, hg, hh, by omega, by omega, by rw [hcl, Nat.sub_self, Nat.zero_mul]; omega, fun j hj => ?_⟩
      rw [hlen, hz, Nat.zero_mul] at hj; omega
    · rw [if_neg hcl]
      refine .inr ⟨g, off + lo * size, cap - lo, cur, by rw [Option.map_some, Addr.add_lit], hg, hh, by omega, by omega, by omega, fun j hj => ?_⟩
      rw [hlen] at hj
      rw [List.getElem?_take, if_pos hj, List.getElem?_drop, Nat.add_assoc]
      refine hx (lo * size + j) ?_
      have : (hi - lo) * size + lo * size ≤ n * size := by rw [← Nat.add_mul]; exact Nat.mul_le_mul_right _ (by omega)
      rw [h.1]; omega
theorem setCells_row {g : Nat} {t : TypeId} : ∀ (news : List Value) (o : Nat) (w : World) (cur : Array Value), RowIs w g t cur → ∃ cur', RowIs (w.setCells g o news) g t cur' ∧ cur'.size = cur.size ∧
    (∀ j, j < news.length → o + j < cur.size → cur'[o + j]? = news[j]?) ∧ (∀ j, j < o → cur'[j]? = cur[j]?) ∧ (∀ j, o + news.length ≤ j → cur'[j]? = cur[j]?) := by
  intro news
  induction news with
  | nil => intro o w cur h; exact ⟨cur, h, rfl, fun j hj => by simp at hj, fun _ _ => rfl, fun _ _ => rfl⟩
  | cons a l ih =>
    intro o w cur h
    obtain ⟨cur', h1, h2, h3, h4, h5⟩ := ih (o + 1) _ _ (h.put o a)
    refine ⟨cur', h1, by simpa using h2, fun j hj hs => ?_, fun j hj => ?_, fun j hj => ?_⟩
    · cases j with
      | zero => rw [Nat.add_zero, h4 o (by omega), Array.getElem?_setIfInBounds_self_of_lt (by omega)]; rfl
      | succ j =>
        have := h3 j (by simpa using hj) (by simp; omega)
        rw [show o + (j + 1) = o + 1 + j by omega, this]; simp
    · rw [h4 j (by omega), Array.getElem?_setIfInBounds_ne (by omega)]
    · rw [List.length_cons] at hj
      rw [h5 j (by omega), Array.getElem?_setIfInBounds_ne (by omega)]
/-- A row stored over a part of a block. -/
theorem wpList_store_part_to {P : Program} {ops : Array Oper} {rest : List Oper} {o : Oper} {a : Act} {w : World} {Q : Exit → Act → World → Prop} (hgd : o.guard = none) (ty : TypeId) (x y : Operand) (ho : o.op = .store ty x y)
    (g off : Nat) (cells : Array Value) (hx : a.eval x = .pointer (some ⟨g, off, none⟩)) (hy : a.eval y = .agg cells)
    (t : TypeId) (old new : Array Value) (hg : BlkIs w g t old) (hi : (P.info? ty).map (·.size) = some cells.size)
    (hfit : off + cells.size ≤ old.size) (h1 : cells.all (·.oneCell') = true) (hnew : ∀ j, new[j]? = if off ≤ j ∧ j < off + cells.size then cells[j - off]? else old[j]?)
    (h : ∀ w', BlkIs w' g t new → w.grownBy w' (some g) → wpList P ops Q rest (a.put o.dst undef) w') : wpList P ops Q (o :: rest) a w := by
  refine wpList_store_mid hgd ty x y ho g off cells hx hy (fun j hj => ⟨by rw [hg.cell]; simp; omega, hg.free _⟩) hi h1 ?_
  obtain ⟨cur', h2, h3, h4, h5, h6⟩ := setCells_blk cells.toList off w old hg
  have e : cur' = new := by
    apply Array.ext_getElem?
    intro j
    rw [hnew j]
    split
    · rename_i hj
      have := h4 (j - off) (by simp; omega) (by omega)
      rw [show off + (j - off) = j by omega] at this
      rw [this, Array.getElem?_toList]
    · rename_i hj
      by_cases hjo : j < off
      · exact h5 j hjo
      · exact h6 j (by simp; omega)
  rw [e] at h2
  exact h _ h2 (setCells_grown _ _ _)

/-- WHAT append TAKES ITS NEWS FROM: x has n elements, their cells are 'news', in every world of this memory. -/
structure SrcIs (P : Program) (w : World) (u : TypeId) (size : Nat) (x : Value) (n : Nat) (news : List Value) : Prop where
  len : news.length = n * size
  type : P.underlying u = some .string ∨ ∃ e', P.underlying u = some (.slice e')
  lenOf : ∀ w' : World, (Builtin.lenOf x).run P w' = .ok n w'
  first : ∀ w' : World, w'.heap = w.heap → (Builtin.firstCells size n x).run P w' = .ok news.toArray w'

theorem SrcIs.string {P : Program} {u : TypeId} (hu : P.underlying u = some .string) (w : World) (s : ByteArray) : SrcIs P w u 1 (.string s) s.size (Lib.strCells s) :=
  ⟨by rw [Lib.strCells_length, Nat.mul_one], Or.inl hu, fun w' => by simp [Builtin.lenOf], fun w' _ => Lib.run_firstCells_string w' 1 s⟩
theorem SrcIs.cells {P : Program} {u e : TypeId} (hu : P.underlying u = some (.slice e)) (w : World) (size : Nat) (ad : Addr) (m c : Nat) (news : List Value) (hl : news.length = m * size) (hc : ∀ j v, news[j]? = some v → w.cell? (ad.add j) = some v) :
    SrcIs P w u size (.slice (some ad) m c) m news :=
  ⟨hl, Or.inr ⟨_, hu⟩, fun w' => by simp [Builtin.lenOf], fun w' hw => run_firstCells_some w' size m ad m c news hl fun j v hv => by
    have := hc j v hv
    unfold World.cell? at this ⊢
    rw [hw]; exact this⟩
theorem SrcIs.none_ {P : Program} {u e : TypeId} (hu : P.underlying u = some (.slice e)) (w : World) (size c : Nat) : SrcIs P w u size (.slice none 0 c) 0 [] :=
  ⟨by simp, Or.inr ⟨_, hu⟩, fun w' => by simp [Builtin.lenOf], fun w' _ => run_firstCells_none w' size 0 0 c⟩
theorem SrcIs.own {P : Program} {u e : TypeId} (hu : P.underlying u = some (.slice e)) {w : World} {base size n : Nat} {v : Value} {xs : List Value} (h : SlIs w base e size v n xs) : SrcIs P w u size v n xs := by
  rcases h.2 with ⟨rfl, rfl⟩ | ⟨g, off, cap, cur, rfl, hg, hh, hc, hm, _, hx⟩
  · have : xs = [] := List.eq_nil_of_length_eq_zero (by simpa using h.1)
    subst this
    exact SrcIs.none_ hu w size 0
  · refine SrcIs.cells hu w size _ n cap xs h.1 fun j v hv => ?_
    have hj : j < xs.length := (List.getElem?_eq_some_iff.1 hv).1
    rw [Addr.add_lit, hh.cell, hx j hj, hv]

theorem run_append_sl {P : Program} (w : World) (base : Nat) (t u ty e : TypeId) (i : TypeInfo) (z : Value) (size bytes : Nat) (ht : P.underlying t = some (.slice e)) (hi : P.info? e = some i) (hz : i.zero = some z)
    (hsize : i.size = size) (hby : i.bytes = bytes) (hzs : z.cells.size = size)
    (v : Value) (m : Nat) (xs : List Value) (hv : SlIs w base e size v m xs) (x : Value) (n : Nat) (news : List Value) (hx : SrcIs P w u size x n news) (h1 : ∀ u ∈ news, u.oneCell' = true)
    (h63 : m + n ≤ maxLen) (hbytes : (m + n) * bytes ≤ 140737488355328) (hbase : base ≤ w.heap.size) :
    ∃ v' w', (Builtin.append_ #[t, u] ty #[v, x]).run P w = .ok v' w' ∧ SlIs w' base e size v' (m + n) (xs ++ news) ∧ w.grownBy w' v.ownBlock ∧ (v'.ownBlock = v.ownBlock ∨ v'.ownBlock = some w.heap.size) := by
  subst hsize
  subst hby
  obtain ⟨ao, cap, rfl, hmc, hcm, hao⟩ := hv.form
  have hty := hx.type
  have hlen : (xs ++ news).length = (m + n) * i.size := by rw [List.length_append, hv.1, hx.len, Nat.add_mul]
  by_cases hroom : m + n ≤ cap
  · -- there is room
    cases ao with
    | none =>
      obtain ⟨hm0, hc0⟩ := hao rfl
      subst hm0 hc0
      have hn0 : n = 0 := by omega
      subst hn0
      have hnn : news = [] := List.eq_nil_of_length_eq_zero (by simpa using hx.len)
      subst hnn
      refine ⟨.slice none 0 0, w, ?_, by simpa using hv, World.grownBy.refl w _, .inl rfl⟩
      have hf := hx.first w rfl
      rcases hty with hu | ⟨e', hu⟩ <;> simp [Builtin.append_, run_underlying ht, run_underlying hu, sizeOf, typeInfo, hi, hx.lenOf w, hf]
    | some ad =>
      rcases hv.2 with ⟨h0, _⟩ | ⟨g, off, cap', cur, hve, hg0, hh, _, _, hfit, hcur⟩
      · cases h0
      · injection hve with e1 e2 e3
        injection e1 with e1
        subst e1 e3
        have hf := hx.first w rfl
        have hfc : m * i.size + news.length ≤ cap * i.size := by rw [hx.len, ← Nat.add_mul]; exact Nat.mul_le_mul_right _ hroom
        have hst := run_storeCells_cells (P := P) g (off + m * i.size) news 0 w
          (fun j hj => by rw [hh.cell]; simp; omega) (fun j hj => hh.free _ (by omega)) h1
        simp only [Nat.add_zero] at hst
        obtain ⟨cur', hb', hsz', hn', ho', _⟩ := setCells_row news (off + m * i.size) w cur hh
        refine ⟨.slice (some ⟨g, off, none⟩) (m + n) cap, w.setCells g (off + m * i.size) news, ?_, ⟨hlen, .inr ⟨g, off, cap, cur', rfl, hg0, hb', hroom, hcm, by omega, fun j hj => ?_⟩⟩, ?_, .inl rfl⟩
        · rcases hty with hu | ⟨e', hu⟩ <;> simp [Builtin.append_, run_underlying ht, run_underlying hu, sizeOf, typeInfo, hi, hx.lenOf w, Addr.add_lit, hroom, hf, hst]
        · have hxl := hv.1
          by_cases hjx : j < xs.length
          · rw [ho' _ (by omega), hcur j hjx, List.getElem?_append_left hjx]
          · have := hn' (j - xs.length) (by rw [List.length_append] at hj; omega) (by rw [List.length_append] at hj; omega)
            rw [show off + m * i.size + (j - xs.length) = off + j by omega] at this
            rw [this, List.getElem?_append_right (by omega)]
        · exact setCells_grown news _ w
  · -- it grows
    have hn : ¬ (m + n ≤ cap) := hroom
    have h63' : ¬ (9223372036854775807 < ((m : Int) + (n : Int))) := by simp only [maxLen] at h63; omega
    have h48 := growslice_fits (show cap < m + n by omega) hbytes
    have h48' : ¬ (281474976710656 < Builtin.nextslicecap (m + n) cap * i.bytes) := by omega
    have hf := hx.first w.drew rfl
    have hsrc : (Builtin.firstCells i.size m (.slice ao m cap)).run P w.drew = .ok xs.toArray w.drew := by
      have hs := SrcIs.own ht hv
      exact hs.first w.drew rfl
    have hge := grownCap_ge w (m + n) cap e
    have hcm' : grownCap w (m + n) cap e ≤ maxLen := grownCap_le_maxLen w (m + n) cap e h63
    refine ⟨.slice (some ⟨w.heap.size, 0, none⟩) (m + n) (grownCap w (m + n) cap e), w.drew.alloc (.cells (xs.toArray ++ news.toArray ++ Builtin.zeroCells z.cells (grownCap w (m + n) cap e - (m + n))) e), ?_,
      ⟨hlen, .inr ⟨w.heap.size, 0, _, _, rfl, hbase, BlkIs.toRow (heap_alloc_new w.drew _), hge, hcm', ?_, fun j hj => ?_⟩⟩, ⟨rfl, rfl, rfl, by simp, fun k hk _ => heap_alloc_old w.drew _ hk⟩, .inr rfl⟩
    · rcases hty with hu | ⟨e', hu⟩ <;> simp [Builtin.append_, run_underlying ht, run_underlying hu, sizeOf, typeInfo, zeroValue, hi, hz, hx.lenOf w, hn, h63', h48', Question.forced, hf, hsrc, newRow, grownCap]
      all_goals (congr 2; apply Array.ext'; simp [List.append_assoc])
    · simp only [Array.size_append, List.size_toArray, size_zeroCells, hzs, hv.1, hx.len, ← Nat.add_mul, Nat.zero_add]
      exact Nat.le_of_eq (by congr 1; omega)
    · rw [Nat.zero_add, Array.getElem?_append_left (by simpa using hj)]
      simp

/-- What the table says of a slice type and its elements. -/
def ElemOk (P : Program) (t e : TypeId) (size bytes : Nat) : Prop := P.underlying t = some (.slice e) ∧ ∃ i z, P.info? e = some i ∧ i.zero = some z ∧ i.size = size ∧ i.bytes = bytes ∧ z.cells.size = size
theorem ElemOk.mk' {P : Program} {t e : TypeId} {size bytes : Nat} {z : Value} (h : P.underlying t = some (.slice e)) (hi : (P.info? e).map (fun i => (i.zero, i.size, i.bytes)) = some (some z, size, bytes)) (hz : z.cells.size = size) : ElemOk P t e size bytes := by
  obtain ⟨i, h0, h1, h2, h3⟩ := info_parts hi
  exact ⟨h, i, z, h0, h1, h2, h3, hz⟩

theorem wp_append_sl {P : Program} {w : World} {o : Oper} {a : Act} {K : Act → World → Prop} {Q : Exit → Act → World → Prop} (s x : Operand) (t u : TypeId)
    (ho : o.op = .call { callee := .builtin .append, args := #[s, x], argTypes := #[t, u] }) {base : Nat} {e : TypeId} {size bytes : Nat} (hel : ElemOk P t e size bytes)
    (v : Value) (m : Nat) (xs : List Value) (hs : a.eval s = v) (hv : SlIs w base e size v m xs) (xv : Value) (n : Nat) (news : List Value) (hx : a.eval x = xv) (hsrc : SrcIs P w u size xv n news) (h1 : ∀ u ∈ news, u.oneCell' = true)
    (h63 : m + n ≤ maxLen) (hbytes : (m + n) * bytes ≤ 140737488355328) (hbase : base ≤ w.heap.size)
    (h : ∀ v' w', SlIs w' base e size v' (m + n) (xs ++ news) → w.grownBy w' v.ownBlock → (v'.ownBlock = v.ownBlock ∨ v'.ownBlock = some w.heap.size) → K (a.put o.dst v') w') : o.wp P a w K Q := by
  obtain ⟨ht, i, z, hi, hz, hsize, hby, hzs⟩ := hel
  obtain ⟨v', w', hrun, h2, h3, h4⟩ := run_append_sl (P := P) w base t u o.type e i z size bytes ht hi hz hsize hby hzs v m xs hv xv n news hsrc h1 h63 hbytes hbase
  unfold Oper.wp execOp
  simp only [ho, resolve, invoke, builtin, Sem.run_bind, Sem.run_pure, Result.andThen_ok, List.map_toArray, List.map_cons, List.map_nil, hs, hx, hrun]
  exact h v' w' h2 h3 h4

theorem wpList_append_sl {P : Program} {w : World} {ops : Array Oper} {rest : List Oper} {o : Oper} {a : Act} {Q : Exit → Act → World → Prop} (hgd : o.guard = none) (s x : Operand) (t u : TypeId)
    (ho : o.op = .call { callee := .builtin .append, args := #[s, x], argTypes := #[t, u] }) {base : Nat} {e : TypeId} {size bytes : Nat} (hel : ElemOk P t e size bytes)
    (v : Value) (m : Nat) (xs : List Value) (hs : a.eval s = v) (hv : SlIs w base e size v m xs) (xv : Value) (n : Nat) (news : List Value) (hx : a.eval x = xv) (hsrc : SrcIs P w u size xv n news) (h1 : ∀ u ∈ news, u.oneCell' = true)
    (h63 : m + n ≤ maxLen) (hbytes : (m + n) * bytes ≤ 140737488355328) (hbase : base ≤ w.heap.size)
    (h : ∀ v' w', SlIs w' base e size v' (m + n) (xs ++ news) → w.grownBy w' v.ownBlock → (v'.ownBlock = v.ownBlock ∨ v'.ownBlock = some w.heap.size) → wpList P ops Q rest (a.put o.dst v') w') : wpList P ops Q (o :: rest) a w :=
  wpList_plain hgd fun _ hK => wp_append_sl s x t u ho hel v m xs hs hv xv n news hx hsrc h1 h63 hbytes hbase fun v' w' h2 h3 h4 => hK _ _ (h v' w' h2 h3 h4)
theorem step_append_sl {P : Program} {w : World} {ops : Array Oper} {o : Oper} {a : Act} {K : Act → World → Prop} {Q : Exit → Act → World → Prop} {E : Prop} (hgd : o.guard = none) (s x : Operand) (t u : TypeId)
    (ho : o.op = .call { callee := .builtin .append, args := #[s, x], argTypes := #[t, u] }) {base : Nat} {e : TypeId} {size bytes : Nat} (hel : ElemOk P t e size bytes)
    (v : Value) (m : Nat) (xs : List Value) (hs : a.eval s = v) (hv : SlIs w base e size v m xs) (xv : Value) (n : Nat) (news : List Value) (hx : a.eval x = xv) (hsrc : SrcIs P w u size xv n news) (h1 : ∀ u ∈ news, u.oneCell' = true)
    (h63 : m + n ≤ maxLen) (hbytes : (m + n) * bytes ≤ 140737488355328) (hbase : base ≤ w.heap.size)
    (h : ∀ v' w', SlIs w' base e size v' (m + n) (xs ++ news) → w.grownBy w' v.ownBlock → (v'.ownBlock = v.ownBlock ∨ v'.ownBlock = some w.heap.size) → K (a.put o.dst v') w') :
    if Region.wanted o (yielded ops a.tmps) = true then Oper.wp P o a w K Q else E := by
  rw [if_pos (by simp [Region.wanted, hgd])]
  exact wp_append_sl s x t u ho hel v m xs hs hv xv n news hx hsrc h1 h63 hbytes hbase h
end Go.Proofs.YtljenganlknhbaaGreat

/- A region that draws its order: all its operations but a forced tail yield one value each in every world of a class (calls may leave another world of the class); then the tail runs. No program is named here. -/
namespace Go.Proofs.YtljenganlknhbaaGreat
open Go.RowKit

section
variable {P : Program} {ops : Array Oper} {md : Region.Mode} {C : World → Prop}

/-- Whatever order the heads (those below n) come in; then L. -/
def headsQ (P : Program) (md : Region.Mode) (ops : Array Oper) (C : World → Prop) (n : Nat) (L : Array Bool → Act → Prop) : Nat → Array Bool → Act → Prop
  | 0, listed, a => L listed a
  | f + 1, listed, a => Region.ready md ops listed ≠ [] ∧ ∀ i ∈ Region.ready md ops listed, i < n ∧ qOp P ops C i (headsQ P md ops C n L f (listed.setIfInBounds i true)) a

theorem headsQ_any {n g : Nat} {L : Array Bool → Act → Prop} {Q' : Exit → Act → World → Prop} (hL : ∀ listed a w, C w → L listed a → wpAny P md ops Q' g listed a w) :
    ∀ (f : Nat) (listed : Array Bool) (a : Act) (w : World), C w → headsQ P md ops C n L f listed a → wpAny P md ops Q' (f + g) listed a w := by
  intro f
  induction f with
  | zero => intro listed a w hw h; rw [Nat.zero_add]; exact hL _ _ _ hw h
  | succ f ih =>
    intro listed a w hw h
    rw [show f + 1 + g = (f + g) + 1 by omega]
    exact ⟨fun h0 => absurd h0 h.1, fun i hi => wpOp_of_qOp hw (fun a' w' hw' h' => ih _ a' w' hw' h') (h.2 i hi).2⟩

/-- An operation that may come up now may be taken first. -/
theorem headsQ_first {n i : Nat} {oi : Oper} {v : Value} {L : Array Bool → Act → Prop} (hi : ops[i]? = some oi) (hsel : ∀ (j : Nat) (o : Oper) cs b, ops[j]? = some o → o.op ≠ .select cs b)
    (hs : Region.sinkB md ops n = true) (hc : Region.chainB md ops n = true) (hn : n < ops.size) (hin : i < n) (hdone : ∀ listed a, L listed a → ∀ j ∈ Region.ready md ops listed, n ≤ j) :
    ∀ (f : Nat) (listed : Array Bool) (a : Act), HeadInv md ops n listed →
      (∀ j oj, ops[j]? = some oj → j ≠ i → listed.getD j true = false → (∀ e ∈ oj.after, Region.binds md e = true → e.on ≠ i) → oi.apart ops oj = true) →
      i ∈ Region.ready md ops listed → YieldsIn P ops C oi v a →
      headsQ P md ops C n L f (listed.setIfInBounds i true) (a.put oi.dst v) → headsQ P md ops C n L (f + 1) listed a := by
  intro f
  induction f with
  | zero =>
    intro listed a inv _ hr hy H
    have hun := (mem_ready.1 hr).1
    refine ⟨List.ne_nil_of_mem hr, fun j hj => ?_⟩
    have hjn : j < n := Nat.lt_of_not_le fun h => tail_waits hs hc hn inv _ i rfl hin hun j h hj
    refine ⟨hjn, ?_⟩
    by_cases hji : j = i
    · subst hji; exact hy.qOp hi H
    · exact absurd (hdone _ _ H j (ready_mono hj hji)) (by omega)
  | succ f ih =>
    intro listed a inv hfree hr hy H
    have hun := (mem_ready.1 hr).1
    refine ⟨List.ne_nil_of_mem hr, fun j hj => ?_⟩
    have hjn : j < n := Nat.lt_of_not_le fun h => tail_waits hs hc hn inv _ i rfl hin hun j h hj
    refine ⟨hjn, ?_⟩
    by_cases hji : j = i
    · subst hji; exact hy.qOp hi H
    · obtain ⟨hjun, oj, hoj, hall⟩ := mem_ready.1 hj
      have hnot : ∀ e ∈ oj.after, Region.binds md e = true → e.on ≠ i := fun e he hb heq => by
        have h3 := hall e he hb
        rw [heq, getD_both hun] at h3
        cases h3
      have h2 := qOp_put hoj (hfree j oj hoj hji hjun hnot) (fun cs b => hsel i oi cs b hi) (fun cs b => hsel j oj cs b hoj) hy (H.2 j (ready_mono hj hji)).2
      have hfree' : ∀ k ok, ops[k]? = some ok → k ≠ i → (listed.setIfInBounds j true).getD k true = false →
          (∀ e ∈ ok.after, Region.binds md e = true → e.on ≠ i) → oi.apart ops ok = true := fun k ok hk hki hun' hno =>
        hfree k ok hk hki (by
          by_cases hjk : j = k
          · subst hjk; exact hjun
          · rwa [getD_set_ne true hjk] at hun') hno
      refine qOp_mono (fun a' h3 => ih (listed.setIfInBounds j true) a' (inv.set hj hjn) hfree' (ready_mono hr (Ne.symm hji)) h3.1 ?_) h2
      rw [Array.setIfInBounds_comm _ _ hji]
      exact h3.2

theorem headsQ_lex {n g : Nat} {Lq : Act → Prop} (hsel : Region.noSelect ops = true) (hs : Region.sinkB md ops n = true) (hc : Region.chainB md ops n = true) (hn : n < ops.size) :
    ∀ (l : List Oper) (k : Nat) (listed : Array Bool) (a : Act), (∀ j, j < l.length → l[j]? = ops[k + j]?) → k + l.length = n → HeadInv md ops n listed →
    Region.lexHead md ops g l.length k listed = true → wpQuiet P ops C Lq l a →
    headsQ P md ops C n (fun listed' a' => Region.seqB md ops g n listed' = true ∧ Lq a') l.length listed a := by
  intro l
  induction l with
  | nil =>
    intro k listed a _ hk _ hB h
    obtain rfl : k = n := by simpa using hk
    exact ⟨by simpa [Region.lexHead] using hB, h⟩
  | cons o l ih =>
    intro k listed a hl hk inv hB h
    have h0 : ops[k]? = some o := by simpa using (hl 0 (by simp)).symm
    simp only [List.length_cons] at hk
    simp only [List.length_cons, Region.lexHead, Bool.and_eq_true] at hB
    have hr' : k ∈ Region.ready md ops listed := by simpa using hB.1.1
    have hst : qOp P ops C k (wpQuiet P ops C Lq l) a := by unfold qOp; simp only [h0]; exact h
    obtain ⟨v, hy, hK⟩ := yieldsIn_of_qOp h0 hst
    exact headsQ_first h0 (Region.noSelect_spec hsel) hs hc hn (by omega) (fun listed' a' hL => seqB_ready hL.1) l.length listed a inv (Region.free_spec h0 hB.1.2) hr' hy
      (ih (k + 1) _ _ (fun j hj => by have := hl (j + 1) (by simp; omega); simpa [Nat.add_assoc, Nat.add_comm 1 j] using this) (by omega) (inv.set hr' (by omega)) hB.2 hK)

/-- ONE WALK OF THE TEXT's ORDER SERVES EVERY ORDER: heads that are quiet in the class, then the forced tail, from whatever world of the class. -/
theorem wp_region_heads {id : Nat} {Q : Exit → Act → World → Prop} {a : Act} {w : World} {l : List Oper} (C : World → Prop) (n : Nat) (hm : P.follows .mixedOrders = true) (hB : Region.lexTailB .any l.toArray n = true)
    (hC : C { w with drawn := w.drawn + 1 }) (h : wpQuiet P l.toArray C (fun a' => ∀ w', C w' → wpList P l.toArray Q (l.drop n) a' w') (l.take n) a) : (Code.region id l.toArray true).wp P Q a w := by
  simp only [Region.lexTailB, Bool.and_eq_true, decide_eq_true_eq] at hB
  obtain ⟨⟨⟨⟨hsel, hn⟩, hs⟩, hc⟩, hlex⟩ := hB
  have hn' : n < l.length := by simpa using hn
  have htl : (l.take n).length = n := by simp; omega
  have hdl : (l.drop n).length = l.toArray.size - n := by simp
  have inv0 : HeadInv .any l.toArray n (Array.replicate l.toArray.size false) :=
    ⟨by simp, fun j oj _ hl => (by rw [getD_replicate_false] at hl; cases hl), fun t _ ht => getD_in (by simpa using ht) (getD_replicate_false _ _)⟩
  have H := headsQ_lex (md := .any) (g := l.toArray.size - n) hsel hs hc hn (l.take n) 0 _ a (fun j hj => by
    have hj' : j < n := by rw [htl] at hj; exact hj
    simp [hj']) (by simpa using htl) inv0 (by rw [htl]; exact hlex) h
  refine wp_region_any hm ?_
  have := headsQ_any (Q' := Q) (g := l.toArray.size - n) (fun listed a' w' hw' hL => by
    have := wpAny_of_seq (md := .any) (Q' := Q) (l.drop n) n listed a' w' (fun j => by simp [List.getElem?_drop]) (by rw [hdl]; exact hL.1) (hL.2 w' hw')
    rwa [hdl] at this) _ _ _ _ hC H
  rw [htl, show n + (l.toArray.size - n) = l.toArray.size by omega] at this
  exact this
/-- The same where all operations are quiet. -/
theorem wp_region_all {id : Nat} {Q : Exit → Act → World → Prop} {a : Act} {w : World} {l : List Oper} (C : World → Prop) (hm : P.follows .mixedOrders = true) (hB : Region.lexB .any l.toArray = true)
    (hC : C { w with drawn := w.drawn + 1 }) (h : wpQuiet P l.toArray C (fun a' => ∀ w', C w' → Q .normal a' w') l a) : (Code.region id l.toArray true).wp P Q a w :=
  wp_region_quiet (C := C) hm hB hC (by simpa using h)
end

/-- The worlds behind w0 that are as w0 was, but for new blocks. -/
structure LaterOf (w0 : World) where
  w : World
  h : Below w0.heap.size w0 w
def LaterOf.start (w0 : World) : LaterOf w0 := ⟨{ w0 with drawn := w0.drawn + 1 }, ⟨rfl, rfl, rfl, Nat.le_refl _, fun _ _ => rfl⟩⟩
instance (w0 : World) : Nonempty (LaterOf w0) := ⟨LaterOf.start w0⟩
theorem LaterOf.blk {w0 : World} (x : LaterOf w0) {g : Nat} {t : TypeId} {cs : Array Value} (h : BlkIs w0 g t cs) : BlkIs x.w g t cs := h.below x.h h.lt
theorem LaterOf.call {P : Program} {f : FuncId} {args : Array Value} {w0 : World} (x : LaterOf w0) {v : Value} (h : Calls P f args x.w fun e w' => e = .returned v ∧ Below x.w.heap.size x.w w') :
    Calls P f args x.w fun e w'' => e = .returned v ∧ ∃ y : LaterOf w0, w'' = y.w :=
  h.mono fun _ w'' ⟨he, hb⟩ => ⟨he, ⟨w'', x.h.trans (hb.mono x.h.size)⟩, rfl⟩
theorem LaterOf.call_same {P : Program} {f : FuncId} {args : Array Value} {w0 : World} (x : LaterOf w0) {v : Value} (h : Calls P f args x.w fun e w' => e = .returned v ∧ x.w = w') :
    Calls P f args x.w fun e w'' => e = .returned v ∧ ∃ y : LaterOf w0, w'' = y.w :=
  h.mono fun _ _ ⟨he, hb⟩ => ⟨he, x, hb.symm⟩
end Go.Proofs.YtljenganlknhbaaGreat

/- Results that lie in cells: read at the return. No program is named. -/
namespace Go.Proofs.YtljenganlknhbaaGreat
open Go.RowKit
theorem results_cell1 {P : Program} {fn : Func} {p : Tmp} {ty : TypeId} (h : fn.results = #[.cell p ty]) (tmps : Array Value) (w : World) (g : Nat) (t : TypeId) (cs : Array Value) (fr : Nat × Nat) (d : TypeDesc)
    (hp : tmps.getD p undef = .pointer (some ⟨g, 0, none⟩)) (hg : w.heap[g]? = some (.cells cs t fr))
    (hu : P.underlying ty = some d) (hd : (match d with | .struct _ | .array _ _ => true | _ => false) = true) (hi : (P.info? ty).map (·.size) = some cs.size) :
    (results fn tmps).run P w = .ok (.agg cs) w := by
  have hp' : tmps[p]?.getD undef = .pointer (some ⟨g, 0, none⟩) := by simpa using hp
  simp [results, h, hp', asAddr, run_loadVar_row w g t ty cs fr d hg hu hd hi]
theorem results_cell_tmp' {P : Program} {fn : Func} {p q : Tmp} {ty : TypeId} (h : fn.results = #[.cell p ty, .tmp q]) (tmps : Array Value) (w : World) (g : Nat) (t : TypeId) (cs : Array Value) (fr : Nat × Nat) (d : TypeDesc)
    (hp : tmps.getD p undef = .pointer (some ⟨g, 0, none⟩)) (hg : w.heap[g]? = some (.cells cs t fr))
    (hu : P.underlying ty = some d) (hd : (match d with | .struct _ | .array _ _ => true | _ => false) = true) (hi : (P.info? ty).map (·.size) = some cs.size) :
    (results fn tmps).run P w = .ok (.tuple #[.agg cs, tmps.getD q undef]) w := by
  have hp' : tmps[p]?.getD undef = .pointer (some ⟨g, 0, none⟩) := by simpa using hp
  simp [results, h, hp', asAddr, run_loadVar_row w g t ty cs fr d hg hu hd hi]
end Go.Proofs.YtljenganlknhbaaGreat

/- Rows of things of k cells that can be read. No program is walked. -/
namespace Go.Proofs.YtljenganlknhbaaGreat
set_option linter.unusedVariables false
open Go.RowKit
section
variable {α : Type} {k : Nat} {enc : α → List Value} {w w' : World} {v : Value} {l : List α}
/-- A slice of things, k cells each, that can be read. -/
def RowAt (k : Nat) (enc : α → List Value) (w : World) (v : Value) (l : List α) : Prop := ∃ (ao : Option Addr) (cap : Nat), v = .slice ao l.length cap ∧ l.length ≤ cap ∧ cap ≤ maxLen ∧
  (0 < l.length → ∃ b off, ao = some ⟨b, off, none⟩ ∧ b < w.heap.size ∧ ∀ i (h : i < l.length) j u, (enc l[i])[j]? = some u → w.cell? ⟨b, off + i * k + j, none⟩ = some u)
theorem RowAt.later (h : RowAt k enc w v l) (hb : Below w.heap.size w w') : RowAt k enc w' v l := by
  obtain ⟨ao, cap, hv, h1, h2, h3⟩ := h
  refine ⟨ao, cap, hv, h1, h2, fun hn => ?_⟩
  obtain ⟨b, off, ha, hlt, hc⟩ := h3 hn
  exact ⟨b, off, ha, Nat.lt_of_lt_of_le hlt hb.size, fun i hi j u hu => by rw [hb.cell hlt]; exact hc i hi j u hu⟩
theorem RowAt.form (h : RowAt k enc w v l) : ∃ ao cap, v = .slice ao l.length cap ∧ l.length ≤ cap ∧ cap ≤ maxLen := by
  obtain ⟨ao, cap, hv, h1, h2, _⟩ := h
  exact ⟨ao, cap, hv, h1, h2⟩
theorem RowAt.nil_ (k : Nat) (enc : α → List Value) (w : World) (ao : Option Addr) (cap : Nat) (h : cap ≤ maxLen) : RowAt k enc w (.slice ao 0 cap) [] := ⟨ao, cap, rfl, Nat.zero_le _, h, fun h => absurd h (Nat.lt_irrefl _)⟩
theorem RowAt.at_ {ao : Option Addr} {n cap : Nat} (h : RowAt k enc w (.slice ao n cap) l) (hn : 0 < n) : ∃ b off, ao = some ⟨b, off, none⟩ ∧ b < w.heap.size ∧ ∀ i (h : i < l.length) j u, (enc l[i])[j]? = some u → w.cell? ⟨b, off + i * k + j, none⟩ = some u := by
  obtain ⟨ao', cap', hv, h1, h2, h3⟩ := h
  injection hv with e1 e2 e3
  subst e1 e3
  exact h3 (by omega)
theorem RowAt.len {ao : Option Addr} {n cap : Nat} (h : RowAt k enc w (.slice ao n cap) l) : n = l.length ∧ n ≤ cap ∧ cap ≤ maxLen := by
  obtain ⟨ao', cap', hv, h1, h2, h3⟩ := h
  injection hv with e1 e2 e3
  subst e2 e3
  exact ⟨rfl, h1, h2⟩
/-- A part of the row, by its capacity. -/
theorem RowAt.part {ao : Option Addr} {n cap : Nat} (h : RowAt k enc w (.slice ao n cap) l) (m c : Nat) (hm : m ≤ n) (hmc : m ≤ c) (hc : c ≤ maxLen) : RowAt k enc w (.slice ao m c) (l.take m) := by
  obtain ⟨h1, h2, h3⟩ := h.len
  have hl : (l.take m).length = m := by rw [List.length_take]; omega
  refine ⟨ao, c, by rw [hl], by rw [hl]; exact hmc, hc, fun hn => ?_⟩
  obtain ⟨b, off, ha, hlt, hx⟩ := h.at_ (by omega)
  refine ⟨b, off, ha, hlt, fun i hi j u hu => hx i (by omega) j u ?_⟩
  rwa [List.getElem_take] at hu
def rowCells (enc : α → List Value) (l : List α) : List Value := l.flatMap enc
theorem rowCells_app (enc : α → List Value) (l m : List α) : rowCells enc (l ++ m) = rowCells enc l ++ rowCells enc m := by simp [rowCells]
theorem rowCells_one (enc : α → List Value) (x : α) : rowCells enc [x] = enc x := by simp [rowCells]
theorem rowCells_len (hk : ∀ x, (enc x).length = k) : ∀ (l : List α), (rowCells enc l).length = l.length * k
  | [] => by simp [rowCells]
  | x :: l => by
    rw [show rowCells enc (x :: l) = enc x ++ rowCells enc l from rfl, List.length_append, hk, rowCells_len hk l, List.length_cons, Nat.add_mul]
    omega
theorem rowCells_get (hk : ∀ x, (enc x).length = k) : ∀ (l : List α) (i : Nat) (h : i < l.length) (j : Nat), j < k → (rowCells enc l)[i * k + j]? = (enc l[i])[j]?
  | x :: l, 0, _, j, hj => by
    rw [show rowCells enc (x :: l) = enc x ++ rowCells enc l from rfl, Nat.zero_mul, Nat.zero_add, List.getElem?_append_left (by rw [hk]; exact hj)]
    rfl
  | x :: l, i + 1, h, j, hj => by
    rw [show rowCells enc (x :: l) = enc x ++ rowCells enc l from rfl, List.getElem?_append_right (by rw [hk, Nat.add_mul]; omega), hk, show (i + 1) * k + j - k = i * k + j by rw [Nat.add_mul]; omega]
    exact rowCells_get hk l i (by simpa using h) j hj
/-- What the call has made itself can be read. -/
theorem RowAt.of_sl {base : Nat} {e : TypeId} (hk : ∀ x, (enc x).length = k) (h : SlIs w base e k v l.length (rowCells enc l)) : RowAt k enc w v l := by
  obtain ⟨ao, cap, rfl, h1, h2, _⟩ := h.form
  refine ⟨ao, cap, rfl, h1, h2, fun hn => ?_⟩
  obtain ⟨g, off, cap', hv, hg, hlt, _, _, hx, _⟩ := h.at_ hn
  injection hv with e1 e2 e3
  subst e1
  refine ⟨g, off, rfl, hlt, fun i hi j u hu => ?_⟩
  have hj : j < k := by
    rw [← hk l[i]]
    exact (List.getElem?_eq_some_iff.1 hu).1
  have hb : i * k + j < l.length * k := by
    have : (i + 1) * k ≤ l.length * k := Nat.mul_le_mul_right k hi
    rw [Nat.add_mul] at this
    omega
  rw [Nat.add_assoc, hx (i * k + j) (by rw [rowCells_len hk]; exact hb), rowCells_get hk l i hi j hj]
  exact hu
/-- The same things in other words. -/
theorem RowAt.map {β : Type} {enc' : β → List Value} {l' : List β} (h : RowAt k enc w v l) (hl : l'.length = l.length) (he : ∀ i (h1 : i < l'.length) (h2 : i < l.length), enc' l'[i] = enc l[i]) : RowAt k enc' w v l' := by
  obtain ⟨ao, cap, hv, h1, h2, h3⟩ := h
  refine ⟨ao, cap, by rw [hl]; exact hv, by omega, h2, fun hn => ?_⟩
  obtain ⟨b, off, ha, hlt, hc⟩ := h3 (by omega)
  exact ⟨b, off, ha, hlt, fun i hi j u hu => hc i (by omega) j u (by rw [← he i hi (by omega)]; exact hu)⟩
end
end Go.Proofs.YtljenganlknhbaaGreat

/- Slices of the call's own behind stores into a run of their cells: what Insert, Delete, Sort, Compact leave. No program is named here. -/
namespace Go.Proofs.YtljenganlknhbaaGreat
open Go.RowKit Go.Sort
/-- Only blocks in S, and new ones, have changed. -/
structure Chg (S : Nat → Prop) (w w' : World) : Prop where
  os : w'.os = w.os
  tape : w'.tape = w.tape
  output : w'.output = w.output
  size : w.heap.size ≤ w'.heap.size
  block : ∀ k, k < w.heap.size → ¬ S k → w'.heap[k]? = w.heap[k]?
theorem Chg.refl (S : Nat → Prop) (w : World) : Chg S w w := ⟨rfl, rfl, rfl, Nat.le_refl _, fun _ _ _ => rfl⟩
theorem Chg.of_below {S : Nat → Prop} {w w' : World} (h : Below w.heap.size w w') : Chg S w w' := ⟨h.os, h.tape, h.output, h.size, fun k hk _ => h.block k hk⟩
theorem Chg.of_grown {S : Nat → Prop} {w w' : World} {row : Option Nat} (h : w.grownBy w' row) (hr : ∀ k, row = some k → S k) : Chg S w w' := ⟨h.os, h.tape, h.output, h.size, fun k hk hn => h.block k hk (fun e => hn (hr k e.symm))⟩
theorem Chg.mono {S S' : Nat → Prop} {w w' : World} (h : Chg S w w') (hs : ∀ k, k < w.heap.size → S k → S' k) : Chg S' w w' := ⟨h.os, h.tape, h.output, h.size, fun k hk hn => h.block k hk (fun e => hn (hs k hk e))⟩
theorem Chg.trans {S : Nat → Prop} {a b c : World} (h : Chg S a b) (k : Chg (fun i => S i ∨ a.heap.size ≤ i) b c) : Chg S a c :=
  ⟨k.os.trans h.os, k.tape.trans h.tape, k.output.trans h.output, Nat.le_trans h.size k.size, fun i hi hn => (k.block i (Nat.lt_of_lt_of_le hi h.size) (fun e => by rcases e with e | e; exact hn e; omega)).trans (h.block i hi hn)⟩
theorem Chg.below {S : Nat → Prop} {B : Nat} {w w' : World} (h : Chg S w w') (hB : B ≤ w.heap.size) (hs : ∀ k, S k → B ≤ k) : Below B w w' := ⟨h.os, h.tape, h.output, h.size, fun k hk => h.block k (Nat.lt_of_lt_of_le hk hB) (fun e => by have := hs k e; omega)⟩
theorem Chg.blk {S : Nat → Prop} {w w' : World} {g : Nat} {t : TypeId} {cs : Array Value} (h : Chg S w w') (hb : BlkIs w g t cs) (hn : ¬ S g) : BlkIs w' g t cs := (h.block g hb.lt hn).trans hb
theorem Chg.row {S : Nat → Prop} {w w' : World} {g : Nat} {t : TypeId} {cs : Array Value} (h : Chg S w w') (hb : RowIs w g t cs) (hn : ¬ S g) : RowIs w' g t cs := by
  have hlt := hb.lt
  obtain ⟨fr, h1, h2⟩ := hb
  exact ⟨fr, (h.block g hlt hn).trans h1, h2⟩
theorem Chg.sl {S : Nat → Prop} {w w' : World} {base : Nat} {e : TypeId} {size n : Nat} {v : Value} {xs : List Value} (h : Chg S w w') (hv : SlIs w base e size v n xs) (hn : ∀ k, v.ownBlock = some k → ¬ S k) : SlIs w' base e size v n xs := by
  obtain ⟨h1, h2⟩ := hv
  refine ⟨h1, ?_⟩
  rcases h2 with h2 | ⟨g, off, cap, cur, rfl, hg, hh, r⟩
  · exact .inl h2
  · exact .inr ⟨g, off, cap, cur, rfl, hg, h.row hh (hn g rfl), r⟩
theorem Chg.setCell {S : Nat → Prop} {a w : World} (h : Chg S a w) {p : Addr} (hp : S p.block ∨ a.heap.size ≤ p.block) (v : Value) : Chg S a (w.setCell p v) :=
  h.trans ⟨rfl, rfl, rfl, by simp, fun k _ hn => Below.heap_setCell w p v k (fun e => hn (by rw [e]; exact hp))⟩
theorem Chg.alloc {S : Nat → Prop} {a w : World} (h : Chg S a w) (o : Obj) : Chg S a (w.alloc o) := h.trans (.of_below ((Below.refl _ _).alloc (Nat.le_refl _) _))
/-- A run of cells, stored. -/
theorem RowIs.puts {t : TypeId} {g : Nat} : ∀ (vs : List Value) (o : Nat) (w : World) (cs : Array Value), RowIs w g t cs →
    ∃ cs' : Array Value, RowIs (w.setCells g o vs) g t cs' ∧ cs'.size = cs.size ∧ (∀ j, j < vs.length → o + j < cs.size → cs'[o + j]? = vs[j]?) ∧ ∀ k, (k < o ∨ o + vs.length ≤ k) → cs'[k]? = cs[k]?
  | [], o, w, cs, h => ⟨cs, h, rfl, fun j hj => absurd hj (Nat.not_lt_zero _), fun _ _ => rfl⟩
  | v :: r, o, w, cs, h => by
    obtain ⟨cs', h1, h2, h3, h4⟩ := RowIs.puts r (o + 1) _ _ (h.put o v)
    refine ⟨cs', h1, by simpa using h2, fun j hj ho => ?_, fun k hk => ?_⟩
    · cases j with
      | zero =>
        rw [Nat.add_zero, h4 o (Or.inl (by omega)), List.getElem?_cons_zero, Array.getElem?_setIfInBounds, if_pos rfl, if_pos (by omega)]
      | succ j =>
        have := h3 j (by simpa using hj) (by simp; omega)
        rw [show o + 1 + j = o + (j + 1) by omega] at this
        rw [this, List.getElem?_cons_succ]
    · rw [h4 k (by simp only [List.length_cons] at hk; omega), Array.getElem?_setIfInBounds, if_neg (by simp only [List.length_cons] at hk; omega)]
theorem setCells_grown' {g : Nat} : ∀ (news : List Value) (o : Nat) (w : World), w.grownBy (w.setCells g o news) (some g) := fun news o w => setCells_grown news o w
theorem drewN_grown (w : World) (q : Nat) (row : Option Nat) : w.grownBy (w.drewN q) row := ⟨rfl, rfl, rfl, Nat.le_refl _, fun _ _ _ => rfl⟩
theorem grown_then {X Y Z : World} {row : Option Nat} (h : X.grownBy Y row) (k : Y.grownBy Z row) : X.grownBy Z row :=
  ⟨k.os.trans h.os, k.tape.trans h.tape, k.output.trans h.output, Nat.le_trans h.size k.size, fun i hi hne => (k.block i (Nat.lt_of_lt_of_le hi h.size) hne).trans (h.block i hi hne)⟩
theorem grown_new {w X Y : World} {row : Option Nat} {r : Nat} (h : w.grownBy X row) (k : X.grownBy Y (some r)) (hr : w.heap.size ≤ r) : w.grownBy Y row :=
  ⟨k.os.trans h.os, k.tape.trans h.tape, k.output.trans h.output, Nat.le_trans h.size k.size, fun i hi hne => (k.block i (Nat.lt_of_lt_of_le hi h.size) (fun e => by injection e with e; omega)).trans (h.block i hi hne)⟩
theorem RowIs.drewN {w : World} {g : Nat} {t : TypeId} {cs : Array Value} (h : RowIs w g t cs) (q : Nat) : RowIs (w.drewN q) g t cs := h
/-- A row put, by the library's sort. -/
theorem RowIs.putRow {α : Type} [Inhabited α] (enc : α → Value) {w : World} {g : Nat} {t : TypeId} {cs : Array Value} (h : RowIs w g t cs) (q off : Nat) (d : Array α) : RowIs (putRow enc (Sort.ahead w q) g off d) g t (putCells enc off d cs) := by
  obtain ⟨fr, h1, h2⟩ := h
  refine ⟨fr, ?_, fun i hi => h2 i (by simpa [putCells] using hi)⟩
  show ((Sort.ahead w q).heap.modify g _)[g]? = _
  have : (Sort.ahead w q).heap = w.heap := rfl
  rw [this, Array.getElem?_modify, if_pos rfl, h1]
  rfl
theorem RowIs.growO {w : World} {g : Nat} {t : TypeId} {cs : Array Value} (h : RowIs w g t cs) (os : Array Obj) : RowIs (grow w os) g t cs := by
  have hlt := h.lt
  obtain ⟨fr, h1, h2⟩ := h
  exact ⟨fr, by rw [grow]; simp only; rw [Array.getElem?_append_left hlt]; exact h1, h2⟩
theorem putRow_grown {α : Type} [Inhabited α] (enc : α → Value) (w : World) (q g off : Nat) (d : Array α) (os : Array Obj) : w.grownBy (grow (putRow enc (Sort.ahead w q) g off d) os) (some g) := by
  refine ⟨rfl, rfl, rfl, by simp [grow, putRow, mapBlock, Sort.ahead], fun k hk hne => ?_⟩
  show ((((Sort.ahead w q).heap.modify g _) ++ os)[k]?) = _
  have e : (Sort.ahead w q).heap = w.heap := rfl
  rw [e, Array.getElem?_append_left (by simpa using hk), Array.getElem?_modify, if_neg (fun e => hne (by rw [e]))]
theorem putCells_in {α : Type} [Inhabited α] (enc : α → Value) (off : Nat) (d : Array α) (cs : Array Value) (j : Nat) (hj : j < d.size) (hs : off + j < cs.size) : (putCells enc off d cs)[off + j]? = some (enc d[j]!) := by
  unfold putCells
  rw [Array.getElem?_mapIdx, Array.getElem?_eq_getElem hs]
  simp [hj]
theorem putCells_size {α : Type} [Inhabited α] (enc : α → Value) (off : Nat) (d : Array α) (cs : Array Value) : (putCells enc off d cs).size = cs.size := by simp [putCells]
/-- The one-cell slice behind a run of stores from its own place o on. -/
theorem SlIs.puts {w : World} {base : Nat} {e : TypeId} {g off n cap : Nat} {xs : List Value} (h : SlIs w base e 1 (.slice (some ⟨g, off, none⟩) n cap) n xs) (o m : Nat) (vs ys : List Value) (hm : m ≤ cap) (ho : o + vs.length ≤ cap) (hy : ys.length = m)
    (h1 : ∀ j, j < m → (j < o ∨ o + vs.length ≤ j) → j < n ∧ ys[j]? = xs[j]?) (h2 : ∀ j, j < m → o ≤ j → j < o + vs.length → ys[j]? = vs[j - o]?) :
    SlIs (w.setCells g (off + o) vs) base e 1 (.slice (some ⟨g, off, none⟩) m cap) m ys := by
  obtain ⟨hl, h0 | ⟨g', off', cap', cur, hv, hg, hh, hc, hmx, hs, hx⟩⟩ := h
  · cases h0.1
  · injection hv with e1 e2 e3
    injection e1 with e1
    injection e1 with e1 e4
    subst e1 e3 e4
    obtain ⟨cs', r1, r2, r3, r4⟩ := hh.puts vs (off + o)
    refine ⟨by rw [hy, Nat.mul_one], .inr ⟨g, off, cap, cs', rfl, hg, r1, hm, hmx, by rw [r2]; exact hs, fun j hj => ?_⟩⟩
    have hjm : j < m := by omega
    by_cases hin : o ≤ j ∧ j < o + vs.length
    · rw [h2 j hjm hin.1 hin.2]
      have := r3 (j - o) (by omega) (by omega)
      rw [show off + o + (j - o) = off + j by omega] at this
      exact this
    · obtain ⟨hjn, hyj⟩ := h1 j hjm (by omega)
      rw [r4 (off + j) (by omega), hx j (by omega), hyj]
theorem SlIs.parts {w : World} {base : Nat} {e : TypeId} {n : Nat} {v : Value} {xs : List Value} (h : SlIs w base e 1 v n xs) : (v = .slice none 0 0 ∧ n = 0) ∨
    ∃ g off cap, v = .slice (some ⟨g, off, none⟩) n cap ∧ base ≤ g ∧ g < w.heap.size ∧ n ≤ cap ∧ cap ≤ maxLen ∧ (∀ j, j < n → w.cell? ⟨g, off + j, none⟩ = xs[j]?) ∧ (∀ j, j < cap → (w.cell? ⟨g, off + j, none⟩).isSome = true) ∧ (∀ j, j < cap → w.frozen? ⟨g, off + j, none⟩ = false) ∧
      (∃ tk, w.shape? g = some (e, tk) ∧ off + cap ≤ tk) := by
  obtain ⟨hl, h0 | ⟨g, off, cap, cur, rfl, hg, hh, hc, hmx, hs, hx⟩⟩ := h
  · exact .inl h0
  · refine .inr ⟨g, off, cap, rfl, hg, hh.lt, hc, hmx, fun j hj => ?_, fun j hj => ?_, fun j hj => hh.free _ (by omega), ?_⟩
    · rw [hh.cell, hx j (by omega)]
    · rw [hh.cell, Array.getElem?_eq_getElem (by omega)]; rfl
    · obtain ⟨fr, h1, _⟩ := hh
      exact ⟨cur.size, by unfold World.shape?; rw [h1], by omega⟩
theorem BlkIs.shape {w : World} {g : Nat} {t : TypeId} {cs : Array Value} (h : BlkIs w g t cs) : w.shape? g = some (t, cs.size) := by unfold BlkIs at h; unfold World.shape?; rw [h]
/-- Slices of unlike types lie apart. -/
theorem sl_apart {w : World} {b1 b2 : Nat} {e1 e2 : TypeId} {s1 s2 n1 n2 : Nat} {v1 v2 : Value} {x1 x2 : List Value} (h1 : SlIs w b1 e1 s1 v1 n1 x1) (h2 : SlIs w b2 e2 s2 v2 n2 x2) (hne : e1 ≠ e2) : v1.ownBlock = none ∨ v1.ownBlock ≠ v2.ownBlock := by
  rcases h1.2 with ⟨rfl, _⟩ | ⟨g, off, cap, cur, rfl, _, ⟨fr, hh, _⟩, _⟩
  · exact Or.inl rfl
  · refine Or.inr fun e => ?_
    rcases h2.2 with ⟨rfl, _⟩ | ⟨g', off', cap', cur', rfl, _, ⟨fr', hh', _⟩, _⟩
    · cases e
    · have : g = g' := by simpa [Value.ownBlock] using e
      subst this
      rw [hh] at hh'
      injection hh' with hh'
      injection hh' with _ e2 _
      exact hne e2
end Go.Proofs.YtljenganlknhbaaGreat

