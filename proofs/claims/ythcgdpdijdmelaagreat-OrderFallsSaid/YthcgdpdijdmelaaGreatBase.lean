/- General words on memory, over any program: blocks known whole, arrays of numbers, small facts. No program is named here. -/
import Derived.WalkKit
import Derived.WalkLawsBesides
import Derived.WalkSpells
import Derived.Lib.Hide
import Derived.Deep.Draws
namespace Go.Proofs.YthcgdpdijdmelaaGreat
open Go.RowKit

/-- Block g is just the cells cs, of type t, none of them frozen. -/
def BlkIs (w : World) (g : Nat) (t : TypeId) (cs : Array Value) : Prop := w.heap[g]? = some (.cells cs t (0, 0))

section
variable {w w' : World} {g : Nat} {t : TypeId} {cs : Array Value}
theorem BlkIs.lt (h : BlkIs w g t cs) : g < w.heap.size := by
  rcases Nat.lt_or_ge g w.heap.size with hlt | hge
  · exact hlt
  · unfold BlkIs at h; rw [Array.getElem?_eq_none hge] at h; cases h
theorem BlkIs.cell (h : BlkIs w g t cs) (i : Nat) : w.cell? ⟨g, i, none⟩ = cs[i]? := by
  unfold BlkIs at h; simp [World.cell?, h]
theorem BlkIs.free (h : BlkIs w g t cs) (i : Nat) : w.frozen? ⟨g, i, none⟩ = false := by
  unfold BlkIs at h; simp [World.frozen?, h]
theorem BlkIs.new (w : World) (t : TypeId) (cs : Array Value) : BlkIs (w.alloc (.cells cs t)) w.heap.size t cs := heap_alloc_new w _
theorem BlkIs.new2 (w : World) (o : Obj) (t : TypeId) (cs : Array Value) : BlkIs ((w.alloc o).alloc (.cells cs t)) (w.heap.size + 1) t cs := by
  have h := BlkIs.new (w.alloc o) t cs
  rwa [World.size_alloc] at h
theorem BlkIs.new3 (w : World) (o o' : Obj) (t : TypeId) (cs : Array Value) : BlkIs (((w.alloc o).alloc o').alloc (.cells cs t)) (w.heap.size + 2) t cs := by
  have h := BlkIs.new2 (w.alloc o) o' t cs
  rwa [World.size_alloc] at h
theorem BlkIs.new4 (w : World) (o o' o2 : Obj) (t : TypeId) (cs : Array Value) : BlkIs ((((w.alloc o).alloc o').alloc o2).alloc (.cells cs t)) (w.heap.size + 3) t cs := by
  have h := BlkIs.new3 (w.alloc o) o' o2 t cs
  rwa [World.size_alloc] at h
theorem BlkIs.drew (h : BlkIs w g t cs) : BlkIs w.drew g t cs := h
theorem BlkIs.drewN (h : BlkIs w g t cs) (n : Nat) : BlkIs (w.drewN n) g t cs := h
theorem BlkIs.alloc (h : BlkIs w g t cs) (o : Obj) : BlkIs (w.alloc o) g t cs := (Below.heap_alloc w o g h.lt).trans h
theorem BlkIs.put (h : BlkIs w g t cs) (i : Nat) (u : Value) : BlkIs (w.setCell ⟨g, i, none⟩ u) g t (cs.setIfInBounds i u) := by
  unfold BlkIs at h ⊢
  simp [World.setCell, Array.getElem?_modify, h]
theorem BlkIs.far (h : BlkIs w g t cs) {p : Addr} (hp : g ≠ p.block) (u : Value) : BlkIs (w.setCell p u) g t cs := (Below.heap_setCell w p u g hp).trans h
theorem BlkIs.below {B : Nat} (h : BlkIs w g t cs) (hb : Below B w w') (hg : g < B) : BlkIs w' g t cs := (hb.block g hg).trans h
theorem BlkIs.grown {row : Option Nat} (h : BlkIs w g t cs) (hb : w.grownBy w' row) (hg : some g ≠ row) : BlkIs w' g t cs := (hb.block g h.lt hg).trans h
end

/-- A whole row stored over a block of its size. -/
theorem BlkIs.row {w : World} {g : Nat} {t : TypeId} {cs : Array Value} (h : BlkIs w g t cs) (c' : Array Value) : BlkIs (w.setRow g c') g t c' := setRow_heap w g cs c' t (0, 0) h
theorem BlkIs.rowFar {w : World} {g g' : Nat} {t : TypeId} {cs : Array Value} (h : BlkIs w g t cs) (hne : g ≠ g') (c' : Array Value) : BlkIs (w.setRow g' c') g t cs := (setRow_other w g' g c' hne).trans h
theorem below_row {B g : Nat} {w0 w : World} (hb : Below B w0 w) (hBg : B ≤ g) (cs : Array Value) : Below B w0 (w.setRow g cs) :=
  hb.trans ⟨rfl, rfl, rfl, by simp [World.setRow], fun k hk => setRow_other w g k cs (by omega)⟩

theorem wpList_build_to {P : Program} {ops : Array Oper} {rest : List Oper} {o : Oper} {a : Act} {w : World} {Q : Exit → Act → World → Prop} (hg : o.guard = none) (t : TypeId) (parts : Array (Nat × Operand)) (ho : o.op = .build t parts)
    (cs : Array Value) (hf : P.built t (parts.map fun (i, x) => (i, a.eval x)).toList = some cs)
    (h : wpList P ops Q rest (a.put o.dst (.agg cs)) w) : wpList P ops Q (o :: rest) a w :=
  wpList_build hg t parts ho (by rw [hf]; rfl) (by rw [hf]; exact h)

theorem grown_row {w : World} {g : Nat} (cs : Array Value) : w.grownBy (w.setRow g cs) (some g) :=
  ⟨rfl, rfl, rfl, by simp [World.setRow], fun k _ hne => setRow_other w g k cs (fun e => hne (by rw [e]))⟩
theorem grown_below {w w' : World} {g B : Nat} (h : w.grownBy w' (some g)) (hg : B ≤ g) (hB : B ≤ w.heap.size) : Below B w w' :=
  ⟨h.os, h.tape, h.output, h.size, fun k hk => h.block k (by omega) (fun e => by injection e; omega)⟩
/-- A whole row stored over a block: of the world behind it only what it is good for is told. -/
theorem wpList_store_row_to {P : Program} {ops : Array Oper} {rest : List Oper} {o : Oper} {a : Act} {w : World} {Q : Exit → Act → World → Prop} (hgd : o.guard = none) (ty : TypeId) (x y : Operand) (ho : o.op = .store ty x y)
    (g : Nat) (cells : Array Value) (hx : a.eval x = .pointer (some ⟨g, 0, none⟩)) (hy : a.eval y = .agg cells)
    (t : TypeId) (old : Array Value) (hg : BlkIs w g t old) (hi : (P.info? ty).map (·.size) = some cells.size)
    (hold : old.size = cells.size) (h1 : cells.all (·.oneCell') = true)
    (h : ∀ w', BlkIs w' g t cells → w.grownBy w' (some g) → wpList P ops Q rest (a.put o.dst undef) w') : wpList P ops Q (o :: rest) a w :=
  wpList_store_row hgd ty x y ho g cells hx hy t old hg hi hold h1 (h _ (hg.row cells) (grown_row cells))

/-- One cell of an array value. -/
theorem run_index_row {P : Program} {T e : TypeId} {n : Nat} {i : TypeInfo} {d : TypeDesc} (hT : P.underlying T = some (.array n e)) (hi : P.info? e = some i) (hs : i.size = 1) (he : P.underlying e = some d) (hd : (match d with | .struct _ | .array _ _ => false | _ => true) = true)
    (cs : Array Value) (k : IntKind) (j : Nat) (hj : j < n) (v : Value) (hv : cs[j]? = some v) (w : World) :
    (Instr.index T (.agg cs) (.int k (j : Int))).run P w = .ok v w := by
  have h2 : (isAgg e).run P w = .ok false w := by
    simp only [isAgg, Sem.run_bind, run_underlying he, Result.andThen_ok]
    cases d <;> simp_all
  simp only [Instr.index, asIntOf, Sem.run_bind, Sem.run_pure, Result.andThen_ok, run_underlying hT]
  have h3 : (0 : Int) ≤ (j : Int) ∧ (j : Int) < (n : Int) := by omega
  simp [h3, part, h2, sizeOf, typeInfo, hi, hs, hv]

/-- Numbers as cells. -/
def nums (k : IntKind) (l : List Int) : Array Value := (l.map (Value.int k)).toArray
theorem nums_size (k : IntKind) (l : List Int) : (nums k l).size = l.length := by simp [nums]
theorem nums_get (k : IntKind) (l : List Int) (i : Nat) (h : i < l.length) : (nums k l)[i]? = some (.int k (l.getD i 0)) := by
  simp [nums, List.getD, List.getElem?_eq_getElem h]
theorem nums_set (k : IntKind) (l : List Int) (i : Nat) (x : Int) : (nums k l).setIfInBounds i (.int k x) = nums k (l.set i x) := by
  simp [nums, ← List.map_set]

theorem nums_one (k : IntKind) (l : List Int) : (nums k l).all (·.oneCell') = true := by
  simp [nums, Value.oneCell']

theorem below_cells {W w1 : World} (hb : Below W.heap.size W w1) : (∀ b o, b < W.heap.size → w1.cell? ⟨b, o, none⟩ = W.cell? ⟨b, o, none⟩) ∧ (∀ b o, b < W.heap.size → w1.frozen? ⟨b, o, none⟩ = W.frozen? ⟨b, o, none⟩) :=
  ⟨fun b o h => hb.cell (p := ⟨b, o, none⟩) h, fun b o h => hb.frozen (p := ⟨b, o, none⟩) h⟩
theorem below_drewN {B : Nat} {a w : World} (h : Below B a w) (n : Nat) : Below B a (w.drewN n) := ⟨h.os, h.tape, h.output, h.size, h.block⟩
theorem getD_lt {l : List Int} {m : Int} (hm : 0 < m) (h : ∀ x ∈ l, 0 ≤ x ∧ x < m) (i : Nat) : 0 ≤ l.getD i 0 ∧ l.getD i 0 < m := by
  rw [List.getD]
  cases hi : l[i]? with
  | none => simp; omega
  | some v => simpa using h v (List.mem_of_getElem? hi)
/-- Nothing but draws. -/
def DrawsOf (w w' : World) : Prop := ∃ n, w' = w.drewN n
theorem DrawsOf.refl (w : World) : DrawsOf w w := ⟨0, rfl⟩
theorem DrawsOf.drewN {w w' : World} (h : DrawsOf w w') (n : Nat) : DrawsOf w (w'.drewN n) := by
  obtain ⟨m, rfl⟩ := h
  exact ⟨m + n, by rw [World.drewN_drewN]⟩
theorem DrawsOf.drew {w w' : World} (h : DrawsOf w w') : DrawsOf w w'.drew := h.drewN 1
theorem DrawsOf.cell {w w' : World} (h : DrawsOf w w') (a : Addr) : w'.cell? a = w.cell? a := by
  obtain ⟨m, rfl⟩ := h; rfl
theorem DrawsOf.below {w w' : World} (h : DrawsOf w w') (B : Nat) : Below B w w' := by
  obtain ⟨m, rfl⟩ := h; exact below_drewN (Below.refl _ _) m
theorem DrawsOf.blk {w w' : World} (h : DrawsOf w w') {g : Nat} {t : TypeId} {cs : Array Value} (hb : BlkIs w g t cs) : BlkIs w' g t cs := by
  obtain ⟨m, rfl⟩ := h; exact hb
theorem ret_int {k : IntKind} {a b : Int} (h : a = b) : Ending.returned (.int k a) = .returned (.int k b) := by rw [h]
end Go.Proofs.YthcgdpdijdmelaaGreat
