/- Several texts in one. (Layer 12.) -/
import Derived.Test.YtljenganlknhbaaGreatPkA
import Derived.Lib.SlicesCompact
import Derived.Test.YtljenganlknhbaaGreatProg
import Derived.Laws.Externs
import Derived.Shelf.Spec.SlicesInsert
import Derived.Lib.AppendZeros
import Derived.Lib.SliceRun
import Derived.Laws.MakeOwn
import Derived.Lib.Hide
import Derived.Sort.Walk0
import Derived.WalkKit
import Derived.BigQuiet
import Derived.Deep.CutRange
import Derived.Test.YtljenganlknhbaaGreatShelf
import Derived.Test.YtljenganlknhbaaGreatIns
import Derived.Test.YtljenganlknhbaaGreatChecked
import Derived.RegionTactic
/- Sets as rising lists: plain laws, over any elements with a strict order. No program. (Layer 08.) -/
namespace Go.Proofs.YtljenganlknhbaaGreat.Set
set_option linter.unusedVariables false
/-- Elements that stand in an order. -/
class El (α : Type) where
  lt : α → α → Prop
  dec : ∀ a b, Decidable (lt a b)
  irr : ∀ a, ¬ lt a a
  tr : ∀ {a b c}, lt a b → lt b c → lt a c
  tri : ∀ a b, lt a b ∨ a = b ∨ lt b a
instance (α : Type) [El α] (a b : α) : Decidable (El.lt a b) := El.dec a b
instance : El Int where
  lt a b := a < b
  dec a b := inferInstance
  irr a := by omega
  tr h k := by omega
  tri a b := by omega
theorem bytes_inj {s t : ByteArray} (h : s.data.toList = t.data.toList) : s = t := by
  apply ByteArray.ext
  apply Array.ext'
  exact h
instance : El ByteArray where
  lt a b := a.data.toList < b.data.toList
  dec a b := inferInstance
  irr a := List.lt_irrefl _
  tr h k := List.lt_trans h k
  tri a b := by
    rcases List.le_total a.data.toList b.data.toList with h | h
    · rcases List.le_iff_lt_or_eq.1 h with h | h
      · exact Or.inl h
      · exact Or.inr (Or.inl (bytes_inj h))
    · rcases List.le_iff_lt_or_eq.1 h with h | h
      · exact Or.inr (Or.inr h)
      · exact Or.inr (Or.inl (bytes_inj h).symm)
variable {α : Type} [El α]
def Rise (l : List α) : Prop := l.Pairwise El.lt
/-- How many stand below. -/
def pos (l : List α) (x : α) : Nat := l.countP fun y => decide (El.lt y x)
theorem pos_le (l : List α) (x : α) : pos l x ≤ l.length := List.countP_le_length
theorem pos_nil (x : α) : pos [] x = 0 := rfl
theorem pos_cons_pos {y : α} {l : List α} {x : α} (h : El.lt y x) : pos (y :: l) x = pos l x + 1 := by unfold pos; rw [List.countP_cons_of_pos (by simpa using h)]
theorem pos_zero {y : α} {l : List α} {x : α} (hr : Rise (y :: l)) (h : ¬ El.lt y x) : pos (y :: l) x = 0 := by
  have hp := List.pairwise_cons.1 hr
  unfold pos
  rw [List.countP_eq_zero]
  intro z hz
  rcases List.mem_cons.1 hz with rfl | hz
  · simpa using h
  · have h1 := hp.1 z hz
    simp only [decide_eq_true_eq]
    intro h2
    exact h (El.tr h1 h2)
open Classical in
/-- With one more. -/
noncomputable def ins (x : α) (l : List α) : List α := if x ∈ l then l else l.take (pos l x) ++ x :: l.drop (pos l x)
theorem ins_of {x : α} {l : List α} (h : x ∈ l) : ins x l = l := if_pos h
theorem ins_new {x : α} {l : List α} (h : ¬ x ∈ l) : ins x l = l.take (pos l x) ++ x :: l.drop (pos l x) := if_neg h
theorem mem_ins {x y : α} {l : List α} : y ∈ ins x l ↔ y = x ∨ y ∈ l := by
  unfold ins
  split
  · next h => exact ⟨Or.inr, fun h' => by rcases h' with rfl | h'; exact h; exact h'⟩
  · rw [List.mem_append, List.mem_cons]
    constructor
    · rintro (h | h | h)
      · exact Or.inr (List.mem_of_mem_take h)
      · exact Or.inl h
      · exact Or.inr (List.mem_of_mem_drop h)
    · rintro (h | h)
      · exact Or.inr (Or.inl h)
      · rw [← List.take_append_drop (pos l x) l, List.mem_append] at h
        rcases h with h | h
        · exact Or.inl h
        · exact Or.inr (Or.inr h)
theorem ins_rise {x : α} : ∀ {l : List α}, Rise l → Rise (ins x l)
  | [], _ => by
    unfold ins
    simp [pos, Rise]
  | y :: l, hr => by
    by_cases hm : x ∈ y :: l
    · rw [ins_of hm]; exact hr
    · have hp := List.pairwise_cons.1 hr
      have hxy : x ≠ y := fun e => hm (by simp [e])
      have hml : ¬ x ∈ l := fun h => hm (by simp [h])
      rw [ins_new hm]
      by_cases hlt : El.lt y x
      · rw [pos_cons_pos hlt, List.take_succ_cons, List.drop_succ_cons, List.cons_append]
        have ih := ins_rise (x := x) hp.2
        have e := ins_new hml
        rw [e] at ih
        refine List.pairwise_cons.2 ⟨fun z hz => ?_, ih⟩
        rw [← e] at hz
        rcases mem_ins.1 hz with rfl | hz
        · exact hlt
        · exact hp.1 z hz
      · rw [pos_zero hr hlt, List.take_zero, List.drop_zero, List.nil_append]
        have hxy' : El.lt x y := by
          rcases El.tri x y with h | h | h
          · exact h
          · exact absurd h hxy
          · exact absurd h hlt
        refine List.pairwise_cons.2 ⟨fun z hz => ?_, hr⟩
        rcases List.mem_cons.1 hz with rfl | hz
        · exact hxy'
        · exact El.tr hxy' (hp.1 z hz)
theorem ins_length {x : α} {l : List α} (h : ¬ x ∈ l) : (ins x l).length = l.length + 1 := by
  rw [ins_new h, List.length_append, List.length_cons, List.length_take, List.length_drop]
  have := pos_le l x
  omega
/-- Rising lists of the same things are the same. -/
theorem rise_ext {l m : List α} (hl : Rise l) (hm : Rise m) (h : ∀ x, x ∈ l ↔ x ∈ m) : l = m := by
  refine List.Perm.eq_of_pairwise (le := El.lt) (fun a b _ _ h1 h2 => absurd (El.tr h1 h2) (El.irr _)) hl hm ?_
  have nd : ∀ {k : List α}, Rise k → k.Nodup := fun h => h.imp fun {a b} h e => by subst e; exact El.irr _ h
  exact (List.perm_ext_iff_of_nodup (nd hl) (nd hm)).2 h
theorem rise_filter {l : List α} (hl : Rise l) (p : α → Bool) : Rise (l.filter p) := List.Pairwise.filter p hl
/-- The list that a set of things has. -/
def IsOf (list l : List α) : Prop := Rise l ∧ ∀ x, x ∈ l ↔ x ∈ list
theorem isOf_unique {list l m : List α} (h : IsOf list l) (k : IsOf list m) : l = m := rise_ext h.1 k.1 fun x => (h.2 x).trans (k.2 x).symm
/-- Where a thing stands. -/
theorem pos_at {l : List α} (hl : Rise l) {x : α} (h : x ∈ l) : ∃ hp : pos l x < l.length, l[pos l x] = x := by
  induction l with
  | nil => cases h
  | cons y r ih =>
    have hp := List.pairwise_cons.1 hl
    by_cases hlt : El.lt y x
    · have hx : x ∈ r := by
        rcases List.mem_cons.1 h with rfl | h
        · exact absurd hlt (El.irr _)
        · exact h
      obtain ⟨h1, h2⟩ := ih hp.2 hx
      refine ⟨by rw [pos_cons_pos hlt, List.length_cons]; omega, ?_⟩
      simp only [pos_cons_pos hlt, List.getElem_cons_succ]
      exact h2
    · have hx : x = y := by
        rcases List.mem_cons.1 h with rfl | h
        · rfl
        · exact absurd (hp.1 x h) hlt
      refine ⟨by rw [pos_zero hl hlt]; simp, ?_⟩
      simp only [pos_zero hl hlt, List.getElem_cons_zero]
      exact hx.symm
/-- The library's compact of a list that does not fall. -/
theorem compact_upto {β : Type} [El β] [Inhabited β] [DecidableEq β] (d : Array β) (hs : ∀ i j, i < j → j < d.size → ¬ El.lt d[j]! d[i]!) : ∀ m, m ≤ d.size →
    Rise (Lib.compactUpTo d m) ∧ ∀ x, x ∈ Lib.compactUpTo d m ↔ ∃ j, j < m ∧ d[j]! = x
  | 0, _ => ⟨List.Pairwise.nil, fun x => ⟨fun h => (by cases h), fun ⟨j, hj, _⟩ => absurd hj (Nat.not_lt_zero _)⟩⟩
  | m + 1, hm => by
    obtain ⟨h1, h2⟩ := compact_upto d hs m (by omega)
    rw [Lib.compactUpTo_succ]
    by_cases hk : m = 0 ∨ d[m]! ≠ d[m - 1]!
    · have hkt : Lib.keeps d m = true := by
        rcases hk with rfl | hk
        · exact Lib.keeps_lt_one d 0 (by omega)
        · exact Lib.keeps_pos hk
      rw [if_pos hkt]
      have hlt : ∀ x ∈ Lib.compactUpTo d m, El.lt x d[m]! := by
        intro x hx
        obtain ⟨j, hj, rfl⟩ := (h2 x).1 hx
        rcases El.tri d[j]! d[m]! with h | h | h
        · exact h
        · exfalso
          rcases hk with rfl | hk
          · exact absurd hj (Nat.not_lt_zero _)
          · rcases El.tri d[m]! d[m - 1]! with h3 | h3 | h3
            · exact hs (m - 1) m (by omega) (by omega) h3
            · exact hk h3
            · rw [← h] at h3
              rcases Nat.lt_or_ge j (m - 1) with h4 | h4
              · exact hs j (m - 1) h4 (by omega) h3
              · obtain rfl : j = m - 1 := by omega
                exact El.irr _ h3
        · exact absurd h (hs j m hj (by omega))
      refine ⟨List.pairwise_append.2 ⟨h1, List.pairwise_singleton _ _, fun x hx y hy => by rcases List.mem_singleton.1 hy with rfl; exact hlt x hx⟩, fun x => ?_⟩
      rw [List.mem_append, h2, List.mem_singleton]
      constructor
      · rintro (⟨j, hj, rfl⟩ | rfl)
        · exact ⟨j, by omega, rfl⟩
        · exact ⟨m, by omega, rfl⟩
      · rintro ⟨j, hj, rfl⟩
        rcases Nat.lt_or_ge j m with h | h
        · exact Or.inl ⟨j, h, rfl⟩
        · obtain rfl : j = m := by omega
          exact Or.inr rfl
    · have h0 : ¬ m = 0 := fun e => hk (Or.inl e)
      have he : d[m]! = d[m - 1]! := Classical.byContradiction fun e => hk (Or.inr e)
      rw [if_neg (by rw [Lib.keeps_neg (by omega) he]; simp), List.append_nil]
      refine ⟨h1, fun x => ?_⟩
      rw [h2]
      constructor
      · rintro ⟨j, hj, rfl⟩
        exact ⟨j, by omega, rfl⟩
      · rintro ⟨j, hj, rfl⟩
        rcases Nat.lt_or_ge j m with h | h
        · exact ⟨j, h, rfl⟩
        · obtain rfl : j = m := by omega
          exact ⟨j - 1, by omega, he.symm⟩
theorem compact_isOf {β : Type} [El β] [Inhabited β] [DecidableEq β] {list zs : List β} (hp : zs.Perm list) (hs : zs.Pairwise fun a b => ¬ El.lt b a) : IsOf list (Lib.compact zs) := by
  have hget : ∀ i (h : i < zs.length), zs.toArray[i]! = zs[i] := fun i h => by simp [h]
  obtain ⟨h1, h2⟩ := compact_upto zs.toArray (fun i j hij hj => by
    have hj' : j < zs.length := by simpa using hj
    rw [hget j hj', hget i (by omega)]
    exact List.pairwise_iff_getElem.1 hs i j (by omega) hj' hij) zs.length (by simp)
  refine ⟨h1, fun x => (h2 x).trans ?_⟩
  rw [← hp.mem_iff]
  constructor
  · rintro ⟨j, hj, rfl⟩
    rw [hget j hj]
    exact List.getElem_mem hj
  · intro hx
    obtain ⟨j, hj, rfl⟩ := List.getElem_of_mem hx
    exact ⟨j, hj, hget j hj⟩
end Go.Proofs.YtljenganlknhbaaGreat.Set

/- Slices of struct{}: slices.Clone and slices.Insert, walked. (Layer 08.) -/
namespace Go.Proofs.YtljenganlknhbaaGreat.Set
set_option linter.unusedVariables false
open Go.RowKit Go.Sort Go.Lib
theorem first_unit (w : World) (n : Nat) (v : Value) (h : v = .slice none 0 0 ∨ ∃ a m c, v = .slice (some a) m c) : (Builtin.firstCells 0 n v).run Tryz.prog w = .ok #[] w := by
  rcases h with rfl | ⟨a, m, c, rfl⟩
  · simp [Builtin.firstCells]
  · exact run_firstCells_some w 0 n a m c [] (by simp) (fun j v hj => by simp at hj)
end Go.Proofs.YtljenganlknhbaaGreat.Set

/- Slices of int: slices.Clone, Sort, Compact, Insert, BinarySearch, in the words of SlIs. (Layer 08.) -/
namespace Go.Proofs.YtljenganlknhbaaGreat.Set
set_option linter.unusedVariables false
open Go.RowKit Go.Sort Go.Lib
theorem el_int : ElemOk Tryz.prog 52 3 1 8 := ElemOk.mk' (z := Value.int .i64 0) Tryz.underlying52 (by kernel_rfl) rfl
def icells (l : List Int) : List Value := l.map (Value.int .i64)
theorem icells_length (l : List Int) : (icells l).length = l.length := by simp [icells]
theorem icells_get (l : List Int) (i : Nat) (h : i < l.length) : (icells l)[i]? = some (Value.int .i64 l[i]) := by simp [icells, List.getElem?_eq_getElem h]
theorem icells_one (l : List Int) : ∀ v ∈ icells l, v.oneCell' = true := by
  intro v hv
  obtain ⟨y, _, rfl⟩ := List.mem_map.1 hv
  rfl
/-- A slice that can be read. -/
def IntAt (w : World) (v : Value) (l : List Int) : Prop := ∃ (ao : Option Addr) (cap : Nat), v = .slice ao l.length cap ∧ l.length ≤ cap ∧ cap ≤ maxLen ∧
  (0 < l.length → ∃ b off, ao = some ⟨b, off, none⟩ ∧ b < w.heap.size ∧ ∀ i (h : i < l.length), w.cell? ⟨b, off + i, none⟩ = some (Value.int .i64 l[i]))
theorem IntAt.later {w w' : World} {v : Value} {l : List Int} (h : IntAt w v l) (hb : Below w.heap.size w w') : IntAt w' v l := by
  obtain ⟨ao, cap, hv, h1, h2, h3⟩ := h
  refine ⟨ao, cap, hv, h1, h2, fun hn => ?_⟩
  obtain ⟨b, off, ha, hlt, hc⟩ := h3 hn
  exact ⟨b, off, ha, Nat.lt_of_lt_of_le hlt hb.size, fun i hi => by rw [hb.cell hlt, hc i hi]⟩
theorem IntAt.of_sl {w : World} {base : Nat} {e : TypeId} {v : Value} {l : List Int} (h : SlIs w base e 1 v l.length (icells l)) : IntAt w v l := by
  rcases h.parts with ⟨rfl, h0⟩ | ⟨g, off, cap, rfl, _, hlt, hc, hm, hx, _⟩
  · exact ⟨none, 0, by rw [h0], by omega, by decide, fun h => absurd h (by omega)⟩
  · exact ⟨_, cap, rfl, hc, hm, fun _ => ⟨g, off, rfl, hlt, fun i hi => by rw [hx i hi, icells_get l i hi]⟩⟩
/-- What Insert of one thing leaves. -/
def InsInt (base n : Nat) (v : Value) (ys : List Value) (w w' : World) (e : Ending) : Prop :=
  ∃ v', e = .returned v' ∧ SlIs w' base 3 1 v' (n + 1) ys ∧ w.grownBy w' v.ownBlock ∧ (v'.ownBlock = v.ownBlock ∨ v'.ownBlock = some w.heap.size)
theorem ins_cells (cs : List Value) (i n : Nat) (v : Value) (hl : cs.length = n) (hi : i ≤ n) (j : Nat) : (cs.take i ++ v :: cs.drop i)[j]? = if j < i then cs[j]? else if j = i then some v else cs[j - 1]? := by
  by_cases h1 : j < i
  · rw [if_pos h1, List.getElem?_append_left (by rw [List.length_take]; omega), List.getElem?_take, if_pos h1]
  · rw [if_neg h1, List.getElem?_append_right (by rw [List.length_take]; omega), List.length_take, Nat.min_eq_left (by omega)]
    by_cases h2 : j = i
    · subst h2
      rw [if_pos rfl, Nat.sub_self]; rfl
    · rw [if_neg h2, show j - i = (j - i - 1) + 1 by omega, List.getElem?_cons_succ, List.getElem?_drop]
      congr 1
      omega
end Go.Proofs.YtljenganlknhbaaGreat.Set

/- Slices of int: Sort, Compact, BinarySearch, in the words of SlIs. (Layer 08.) -/
namespace Go.Proofs.YtljenganlknhbaaGreat.Set
set_option linter.unusedVariables false
open Go.RowKit Go.Sort Go.Lib
/-- Whether a thing is among others. -/
noncomputable def has {α : Type} (l : List α) (x : α) : Bool := @decide (x ∈ l) (Classical.propDecidable _)
theorem has_true {α : Type} {l : List α} {x : α} (h : x ∈ l) : has l x = true := by unfold has; exact @decide_eq_true _ (Classical.propDecidable _) h
theorem has_false {α : Type} {l : List α} {x : α} (h : ¬ x ∈ l) : has l x = false := by unfold has; exact @decide_eq_false _ (Classical.propDecidable _) h
theorem has_iff {α : Type} {l : List α} {x : α} : has l x = true ↔ x ∈ l := by
  constructor
  · intro h
    exact Classical.byContradiction fun hn => by rw [has_false hn] at h; cases h
  · exact has_true
/-- Behind the library's sort. -/
theorem sl_sorted {α : Type} [Inhabited α] (enc : α → Value) {w : World} {base g off cap : Nat} {e : TypeId} {l : List α} (h : SlIs w base e 1 (.slice (some ⟨g, off, none⟩) l.length cap) l.length (l.map enc)) (hn : 0 < l.length) (d : Array α) (hd : d.size = l.length) (q : Nat) (os : Array Obj) :
    SlIs (grow (putRow enc (Sort.ahead w q) g off d) os) base e 1 (.slice (some ⟨g, off, none⟩) l.length cap) l.length (d.toList.map enc) := by
  rcases h.2 with h0 | ⟨g', off', cap', cur, hv, hg, hh, hc, hm, hs, hx⟩
  · cases h0.1
  · injection hv with e1 e2 e3
    injection e1 with e1
    injection e1 with e1 e4
    subst e1 e3 e4
    refine ⟨by rw [List.length_map, Array.length_toList, hd, Nat.mul_one], .inr ⟨g, off, cap, putCells enc off d cur, rfl, hg, (hh.putRow enc q off d).growO os, hc, hm, by rw [putCells_size]; exact hs, fun j hj => ?_⟩⟩
    have hj' : j < d.size := by simpa using hj
    rw [putCells_in enc off d cur j hj' (by omega), List.getElem?_map, Array.getElem?_toList, Array.getElem?_eq_getElem hj']
    simp [hj']
theorem holds_of {α : Type} [Inhabited α] (enc : α → Value) {w : World} {base g off cap : Nat} {e : TypeId} {l : List α} (h : SlIs w base e 1 (.slice (some ⟨g, off, none⟩) l.length cap) l.length (l.map enc)) : Holds enc w g off l.toArray := by
  rcases h.parts with ⟨hv, _⟩ | ⟨g', off', cap', hv, _, _, hc, _, hx, _, hf, _⟩
  · cases hv
  · injection hv with e1 e2 e3
    injection e1 with e1
    injection e1 with e1 e4
    subst e1 e3 e4
    intro j hj
    have hj' : j < l.length := by simpa using hj
    refine ⟨?_, hf j (by omega)⟩
    rw [hx j hj', List.getElem?_map, List.getElem?_eq_getElem hj']
    simp [hj']
theorem sorted_isOf_int (l : List Int) : IsOf l (Lib.compact (l.mergeSort fun x y => decide (x ≤ y))) := by
  refine compact_isOf (List.mergeSort_perm _ _) ?_
  have := List.pairwise_mergeSort (le := fun x y : Int => decide (x ≤ y)) (fun a b c h1 h2 => by simp at *; omega) (fun a b => by simp; omega) l
  exact this.imp fun {a b} h => by
    have h' : a ≤ b := by simpa using h
    show ¬ b < a
    omega
end Go.Proofs.YtljenganlknhbaaGreat.Set

/- shelf.Set[int]: all, find, Has, Len, At, Keys, List, Of, walked. Conditions: at most 1,000,000 things. (Layer 08.) -/
namespace Go.Proofs.YtljenganlknhbaaGreat.Set
set_option linter.unusedVariables false
open Go.RowKit Go.Sort Go.Lib
/-- The blocks of a set. -/
def Own_ (g : Nat) (kv vv : Value) (k : Nat) : Prop := k = g ∨ kv.ownBlock = some k ∨ vv.ownBlock = some k
theorem DrawsOf.trans {a b c : World} (h : DrawsOf a b) (k : DrawsOf b c) : DrawsOf a c := by
  obtain ⟨n, rfl⟩ := h
  obtain ⟨m, rfl⟩ := k
  exact ⟨n + m, by rw [World.drewN_drewN]⟩
end Go.Proofs.YtljenganlknhbaaGreat.Set

/- shelf.Set[int].Add, walked; Of. Conditions: fewer than 1,000,000 things. (Layer 08.) -/
namespace Go.Proofs.YtljenganlknhbaaGreat.Set
set_option linter.unusedVariables false
open Go.RowKit Go.Sort Go.Lib
end Go.Proofs.YtljenganlknhbaaGreat.Set

/- shelf.Set[int].Add; shelf.Of, walked. (Layer 08.) -/
namespace Go.Proofs.YtljenganlknhbaaGreat.Set
set_option linter.unusedVariables false
open Go.RowKit Go.Sort Go.Lib
end Go.Proofs.YtljenganlknhbaaGreat.Set

/- Slices of string: slices.Clone, Sort, Compact, Insert, BinarySearch, in the words of SlIs. (Layer 08.) -/
namespace Go.Proofs.YtljenganlknhbaaGreat.Set
set_option linter.unusedVariables false
open Go.RowKit Go.Sort Go.Lib
theorem el_string : ElemOk Tryz.prog 22 9 1 16 := ElemOk.mk' (z := Value.string ⟨#[]⟩) Tryz.underlying22 (by kernel_rfl) rfl
def scells (l : List ByteArray) : List Value := l.map (Value.string)
theorem scells_length (l : List ByteArray) : (scells l).length = l.length := by simp [scells]
theorem scells_get (l : List ByteArray) (i : Nat) (h : i < l.length) : (scells l)[i]? = some (Value.string l[i]) := by simp [scells, List.getElem?_eq_getElem h]
theorem scells_one (l : List ByteArray) : ∀ v ∈ scells l, v.oneCell' = true := by
  intro v hv
  obtain ⟨y, _, rfl⟩ := List.mem_map.1 hv
  rfl
/-- A slice that can be read. -/
def StrAt (w : World) (v : Value) (l : List ByteArray) : Prop := ∃ (ao : Option Addr) (cap : Nat), v = .slice ao l.length cap ∧ l.length ≤ cap ∧ cap ≤ maxLen ∧
  (0 < l.length → ∃ b off, ao = some ⟨b, off, none⟩ ∧ b < w.heap.size ∧ ∀ i (h : i < l.length), w.cell? ⟨b, off + i, none⟩ = some (Value.string l[i]))
theorem StrAt.later {w w' : World} {v : Value} {l : List ByteArray} (h : StrAt w v l) (hb : Below w.heap.size w w') : StrAt w' v l := by
  obtain ⟨ao, cap, hv, h1, h2, h3⟩ := h
  refine ⟨ao, cap, hv, h1, h2, fun hn => ?_⟩
  obtain ⟨b, off, ha, hlt, hc⟩ := h3 hn
  exact ⟨b, off, ha, Nat.lt_of_lt_of_le hlt hb.size, fun i hi => by rw [hb.cell hlt, hc i hi]⟩
theorem StrAt.of_sl {w : World} {base : Nat} {e : TypeId} {v : Value} {l : List ByteArray} (h : SlIs w base e 1 v l.length (scells l)) : StrAt w v l := by
  rcases h.parts with ⟨rfl, h0⟩ | ⟨g, off, cap, rfl, _, hlt, hc, hm, hx, _⟩
  · exact ⟨none, 0, by rw [h0], by omega, by decide, fun h => absurd h (by omega)⟩
  · exact ⟨_, cap, rfl, hc, hm, fun _ => ⟨g, off, rfl, hlt, fun i hi => by rw [hx i hi, scells_get l i hi]⟩⟩
/-- What Insert of one thing leaves. -/
def InsStr (base n : Nat) (v : Value) (ys : List Value) (w w' : World) (e : Ending) : Prop :=
  ∃ v', e = .returned v' ∧ SlIs w' base 9 1 v' (n + 1) ys ∧ w.grownBy w' v.ownBlock ∧ (v'.ownBlock = v.ownBlock ∨ v'.ownBlock = some w.heap.size)
end Go.Proofs.YtljenganlknhbaaGreat.Set

/- Slices of texts: BinarySearch, in the words of SlIs. (Layer 08.) -/
namespace Go.Proofs.YtljenganlknhbaaGreat.Set
set_option linter.unusedVariables false
open Go.RowKit Go.Sort Go.Lib
theorem less_lt (S T : ByteArray) : Op.bytesLess S.toList T.toList = decide (El.lt S T) := by
  rw [Go.Proofs.bytesLess_eq, ByteArray.toList_eq, ByteArray.toList_eq]
  exact decide_eq_decide.2 Iff.rfl
theorem pos_low {α : Type} [El α] : ∀ {l : List α} {x : α}, Rise l → ∀ t (h : t < l.length), t < pos l x → El.lt l[t] x
  | [], _, _, t, h, _ => absurd h (Nat.not_lt_zero _)
  | y :: r, x, hr, t, h, ht => by
    by_cases hlt : El.lt y x
    · cases t with
      | zero => exact hlt
      | succ t => exact pos_low (List.pairwise_cons.1 hr).2 t (by simpa using h) (by rw [pos_cons_pos hlt] at ht; omega)
    · rw [pos_zero hr hlt] at ht; omega
theorem pos_high {α : Type} [El α] : ∀ {l : List α} {x : α}, Rise l → ∀ t (h : t < l.length), pos l x ≤ t → ¬ El.lt l[t] x
  | [], _, _, t, h, _ => absurd h (Nat.not_lt_zero _)
  | y :: r, x, hr, t, h, ht => by
    have hp := List.pairwise_cons.1 hr
    by_cases hlt : El.lt y x
    · rw [pos_cons_pos hlt] at ht
      cases t with
      | zero => omega
      | succ t => exact pos_high hp.2 t (by simpa using h) (by omega)
    · cases t with
      | zero => exact hlt
      | succ t => exact fun h2 => hlt (El.tr (hp.1 _ (List.getElem_mem _)) h2)
end Go.Proofs.YtljenganlknhbaaGreat.Set

/- Slices of texts: Sort, Compact, in the words of SlIs. (Layer 08, the seat of the sets of texts.) -/
namespace Go.Proofs.YtljenganlknhbaaGreat.Set
set_option linter.unusedVariables false
open Go.RowKit Go.Sort Go.Lib
abbrev toL (s : ByteArray) : List UInt8 := s.data.toList
abbrev ofL_ (u : List UInt8) : ByteArray := ⟨u.toArray⟩
theorem ofL_toL (s : ByteArray) : ofL_ (toL s) = s := by apply ByteArray.ext; simp
theorem toL_ofL (u : List UInt8) : toL (ofL_ u) = u := by simp
instance : El (List UInt8) where
  lt a b := a < b
  dec a b := inferInstance
  irr a := List.lt_irrefl _
  tr h k := List.lt_trans h k
  tri a b := by
    rcases List.le_total a b with h | h
    · rcases List.le_iff_lt_or_eq.1 h with h | h
      · exact Or.inl h
      · exact Or.inr (Or.inl h)
    · rcases List.le_iff_lt_or_eq.1 h with h | h
      · exact Or.inr (Or.inr h)
      · exact Or.inr (Or.inl h.symm)
def bsort (l : List ByteArray) : List ByteArray := ((l.map toL).mergeSort fun x y => decide (x ≤ y)).map ofL_
def bcompact (l : List ByteArray) : List ByteArray := (Lib.compact (l.map toL)).map ofL_
theorem bsort_length (l : List ByteArray) : (bsort l).length = l.length := by simp [bsort]
theorem map_toL_ofL (u : List (List UInt8)) : (u.map ofL_).map toL = u := by
  rw [List.map_map]
  conv => rhs; rw [← List.map_id u]
  rfl
theorem sorted_isOf_string (l : List ByteArray) : IsOf l (bcompact (bsort l)) := by
  have h : IsOf (l.map toL) (Lib.compact ((l.map toL).mergeSort fun x y => decide (x ≤ y))) := by
    refine compact_isOf (List.mergeSort_perm _ _) ?_
    have := List.pairwise_mergeSort (le := fun x y : List UInt8 => decide (x ≤ y)) (fun a b c h1 h2 => by simp at *; exact List.le_trans h1 h2) (fun a b => by simp; exact List.le_total a b) (l.map toL)
    exact this.imp fun {a b} h => by
      have h' : a ≤ b := by simpa using h
      exact h'
  rw [bcompact, bsort, map_toL_ofL]
  refine ⟨?_, fun x => ?_⟩
  · exact List.pairwise_map.2 (h.1.imp fun {a b} hab => by show toL (ofL_ a) < toL (ofL_ b); rw [toL_ofL, toL_ofL]; exact hab)
  · rw [List.mem_map]
    constructor
    · rintro ⟨u, hu, rfl⟩
      obtain ⟨s, hs, rfl⟩ := List.mem_map.1 ((h.2 u).1 hu)
      rw [ofL_toL]; exact hs
    · intro hx
      exact ⟨toL x, (h.2 _).2 (List.mem_map.2 ⟨x, hx, rfl⟩), ofL_toL x⟩
end Go.Proofs.YtljenganlknhbaaGreat.Set

/- shelf.Set[string]: all, find, Has, Len, At, Keys, List, Of, walked. Conditions: at most 1,000,000 things. (Layer 08.) -/
namespace Go.Proofs.YtljenganlknhbaaGreat.Set
set_option linter.unusedVariables false
open Go.RowKit Go.Sort Go.Lib
end Go.Proofs.YtljenganlknhbaaGreat.Set

/- shelf.Set[string].Add, walked; Of. Conditions: fewer than 1,000,000 things. (Layer 08.) -/
namespace Go.Proofs.YtljenganlknhbaaGreat.Set
set_option linter.unusedVariables false
open Go.RowKit Go.Sort Go.Lib
end Go.Proofs.YtljenganlknhbaaGreat.Set

/- shelf.Set[string].Add; shelf.Of, walked. (Layer 08.) -/
namespace Go.Proofs.YtljenganlknhbaaGreat.Set
set_option linter.unusedVariables false
open Go.RowKit Go.Sort Go.Lib
end Go.Proofs.YtljenganlknhbaaGreat.Set

