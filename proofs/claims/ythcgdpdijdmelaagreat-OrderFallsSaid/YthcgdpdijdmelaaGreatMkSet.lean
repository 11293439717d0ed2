/- Several texts in one. (Layer 12.) -/
import Derived.Test.YthcgdpdijdmelaaGreatSlOps
import Derived.Lib.SlicesCompact
import Derived.Test.YthcgdpdijdmelaaGreatProg
import Derived.Laws.Externs
import Derived.Shelf.Spec.SlicesInsert
import Derived.Lib.AppendZeros
import Derived.Lib.SliceRun
import Derived.Laws.MakeOwn
import Derived.Lib.Hide
import Derived.WalkKit
import Derived.BigQuiet
import Derived.Deep.CutRange
import Derived.Test.YthcgdpdijdmelaaGreatShelf
import Derived.Test.YthcgdpdijdmelaaGreatIns
import Derived.Test.YthcgdpdijdmelaaGreatChecked
import Derived.RegionTactic
/- Sets as rising lists: plain laws, over any elements with a strict order. No program. (Layer 08.) -/
namespace Go.Proofs.YthcgdpdijdmelaaGreat.Set
set_option linter.unusedVariables false
/-- Elements that stand in an order. -/
class El (α : Type) where
  lt : α → α → Prop
  dec : ∀ a b, Decidable (lt a b)
  irr : ∀ a, ¬ lt a a
  tr : ∀ {a b c}, lt a b → lt b c → lt a c
  tri : ∀ a b, lt a b ∨ a = b ∨ lt b a
instance (α : Type) [El α] (a b : α) : Decidable (El.lt a b) := El.dec a b
instance : El Int where
  lt a b := a < b
  dec a b := inferInstance
  irr a := by omega
  tr h k := by omega
  tri a b := by omega
theorem bytes_inj {s t : ByteArray} (h : s.data.toList = t.data.toList) : s = t := by
  apply ByteArray.ext
  apply Array.ext'
  exact h
instance : El ByteArray where
  lt a b := a.data.toList < b.data.toList
  dec a b := inferInstance
  irr a := List.lt_irrefl _
  tr h k := List.lt_trans h k
  tri a b := by
    rcases List.le_total a.data.toList b.data.toList with h | h
    · rcases List.le_iff_lt_or_eq.1 h with h | h
      · exact Or.inl h
      · exact Or.inr (Or.inl (bytes_inj h))
    · rcases List.le_iff_lt_or_eq.1 h with h | h
      · exact Or.inr (Or.inr h)
      · exact Or.inr (Or.inl (bytes_inj h).symm)
variable {α : Type} [El α]
def Rise (l : List α) : Prop := l.Pairwise El.lt
/-- How many stand below. -/
def pos (l : List α) (x : α) : Nat := l.countP fun y => decide (El.lt y x)
theorem pos_le (l : List α) (x : α) : pos l x ≤ l.length := List.countP_le_length
theorem pos_nil (x : α) : pos [] x = 0 := rfl
theorem pos_cons_pos {y : α} {l : List α} {x : α} (h : El.lt y x) : pos (y :: l) x = pos l x + 1 := by unfold pos; rw [List.countP_cons_of_pos (by simpa using h)]
theorem pos_zero {y : α} {l : List α} {x : α} (hr : Rise (y :: l)) (h : ¬ El.lt y x) : pos (y :: l) x = 0 := by
  have hp := List.pairwise_cons.1 hr
  unfold pos
  rw [List.countP_eq_zero]
  intro z hz
  rcases List.mem_cons.1 hz with rfl | hz
  · simpa using h
  · have h1 := hp.1 z hz
    simp only [decide_eq_true_eq]
    intro h2
    exact h (El.tr h1 h2)
open Classical in
/-- With one more. -/
noncomputable def ins (x : α) (l : List α) : List α := if x ∈ l then l else l.take (pos l x) ++ x :: l.drop (pos l x)
theorem ins_of {x : α} {l : List α} (h : x ∈ l) : ins x l = l := if_pos h
theorem ins_new {x : α} {l : List α} (h : ¬ x ∈ l) : ins x l = l.take (pos l x) ++ x :: l.drop (pos l x) := if_neg h
theorem mem_ins {x y : α} {l : List α} : y ∈ ins x l ↔ y = x ∨ y ∈ l := by
  unfold ins
  split
  · next h => exact ⟨Or.inr, fun h' => by rcases h' with rfl | h'; exact h; exact h'⟩
  · rw [List.mem_append, List.mem_cons]
    constructor
    · rintro (h | h | h)
      · exact Or.inr (List.mem_of_mem_take h)
      · exact Or.inl h
      · exact Or.inr (List.mem_of_mem_drop h)
    · rintro (h | h)
      · exact Or.inr (Or.inl h)
      · rw [← List.take_append_drop (pos l x) l, List.mem_append] at h
        rcases h with h | h
        · exact Or.inl h
        · exact Or.inr (Or.inr h)
theorem ins_rise {x : α} : ∀ {l : List α}, Rise l → Rise (ins x l)
  | [], _ => by
    unfold ins
    simp [pos, Rise]
  | y :: l, hr => by
    by_cases hm : x ∈ y :: l
    · rw [ins_of hm]; exact hr
    · have hp := List.pairwise_cons.1 hr
      have hxy : x ≠ y := fun e => hm (by simp [e])
      have hml : ¬ x ∈ l := fun h => hm (by simp [h])
      rw [ins_new hm]
      by_cases hlt : El.lt y x
      · rw [pos_cons_pos hlt, List.take_succ_cons, List.drop_succ_cons, List.cons_append]
        have ih := ins_rise (x := x) hp.2
        have e := ins_new hml
        rw [e] at ih
        refine List.pairwise_cons.2 ⟨fun z hz => ?_, ih⟩
        rw [← e] at hz
        rcases mem_ins.1 hz with rfl | hz
        · exact hlt
        · exact hp.1 z hz
      · rw [pos_zero hr hlt, List.take_zero, List.drop_zero, List.nil_append]
        have hxy' : El.lt x y := by
          rcases El.tri x y with h | h | h
          · exact h
          · exact absurd h hxy
          · exact absurd h hlt
        refine List.pairwise_cons.2 ⟨fun z hz => ?_, hr⟩
        rcases List.mem_cons.1 hz with rfl | hz
        · exact hxy'
        · exact El.tr hxy' (hp.1 z hz)
theorem ins_length {x : α} {l : List α} (h : ¬ x ∈ l) : (ins x l).length = l.length + 1 := by
  rw [ins_new h, List.length_append, List.length_cons, List.length_take, List.length_drop]
  have := pos_le l x
  omega
/-- Rising lists of the same things are the same. -/
theorem rise_ext {l m : List α} (hl : Rise l) (hm : Rise m) (h : ∀ x, x ∈ l ↔ x ∈ m) : l = m := by
  refine List.Perm.eq_of_pairwise (le := El.lt) (fun a b _ _ h1 h2 => absurd (El.tr h1 h2) (El.irr _)) hl hm ?_
  have nd : ∀ {k : List α}, Rise k → k.Nodup := fun h => h.imp fun {a b} h e => by subst e; exact El.irr _ h
  exact (List.perm_ext_iff_of_nodup (nd hl) (nd hm)).2 h
theorem rise_filter {l : List α} (hl : Rise l) (p : α → Bool) : Rise (l.filter p) := List.Pairwise.filter p hl
/-- The list that a set of things has. -/
def IsOf (list l : List α) : Prop := Rise l ∧ ∀ x, x ∈ l ↔ x ∈ list
theorem isOf_unique {list l m : List α} (h : IsOf list l) (k : IsOf list m) : l = m := rise_ext h.1 k.1 fun x => (h.2 x).trans (k.2 x).symm
/-- Where a thing stands. -/
theorem pos_at {l : List α} (hl : Rise l) {x : α} (h : x ∈ l) : ∃ hp : pos l x < l.length, l[pos l x] = x := by
  induction l with
  | nil => cases h
  | cons y r ih =>
    have hp := List.pairwise_cons.1 hl
    by_cases hlt : El.lt y x
    · have hx : x ∈ r := by
        rcases List.mem_cons.1 h with rfl | h
        · exact absurd hlt (El.irr _)
        · exact h
      obtain ⟨h1, h2⟩ := ih hp.2 hx
      refine ⟨by rw [pos_cons_pos hlt, List.length_cons]; omega, ?_⟩
      simp only [pos_cons_pos hlt, List.getElem_cons_succ]
      exact h2
    · have hx : x = y := by
        rcases List.mem_cons.1 h with rfl | h
        · rfl
        · exact absurd (hp.1 x h) hlt
      refine ⟨by rw [pos_zero hl hlt]; simp, ?_⟩
      simp only [pos_zero hl hlt, List.getElem_cons_zero]
      exact hx.symm
/-- The library's compact of a list that does not fall. -/
theorem compact_upto {β : Type} [El β] [Inhabited β] [DecidableEq β] (d : Array β) (hs : ∀ i j, i < j → j < d.size → ¬ El.lt d[j]! d[i]!) : ∀ m, m ≤ d.size →
    Rise (Lib.compactUpTo d m) ∧ ∀ x, x ∈ Lib.compactUpTo d m ↔ ∃ j, j < m ∧ d[j]! = x
  | 0, _ => ⟨List.Pairwise.nil, fun x => ⟨fun h => (by cases h), fun ⟨j, hj, _⟩ => absurd hj (Nat.not_lt_zero _)⟩⟩
  | m + 1, hm => by
    obtain ⟨h1, h2⟩ := compact_upto d hs m (by omega)
    rw [Lib.compactUpTo_succ]
    by_cases hk : m = 0 ∨ d[m]! ≠ d[m - 1]!
    · have hkt : Lib.keeps d m = true := by
        rcases hk with rfl | hk
        · exact Lib.keeps_lt_one d 0 (by omega)
        · exact Lib.keeps_pos hk
      rw [if_pos hkt]
      have hlt : ∀ x ∈ Lib.compactUpTo d m, El.lt x d[m]! := by
        intro x hx
        obtain ⟨j, hj, rfl⟩ := (h2 x).1 hx
        rcases El.tri d[j]! d[m]! with h | h | h
        · exact h
        · exfalso
          rcases hk with rfl | hk
          · exact absurd hj (Nat.not_lt_zero _)
          · rcases El.tri d[m]! d[m - 1]! with h3 | h3 | h3
            · exact hs (m - 1) m (by omega) (by omega) h3
            · exact hk h3
            · rw [← h] at h3
              rcases Nat.lt_or_ge j (m - 1) with h4 | h4
              · exact hs j (m - 1) h4 (by omega) h3
              · obtain rfl : j = m - 1 := by omega
                exact El.irr _ h3
        · exact absurd h (hs j m hj (by omega))
      refine ⟨List.pairwise_append.2 ⟨h1, List.pairwise_singleton _ _, fun x hx y hy => by rcases List.mem_singleton.1 hy with rfl; exact hlt x hx⟩, fun x => ?_⟩
      rw [List.mem_append, h2, List.mem_singleton]
      constructor
      · rintro (⟨j, hj, rfl⟩ | rfl)
        · exact ⟨j, by omega, rfl⟩
        · exact ⟨m, by omega, rfl⟩
      · rintro ⟨j, hj, rfl⟩
        rcases Nat.lt_or_ge j m with h | h
        · exact Or.inl ⟨j, h, rfl⟩
        · obtain rfl : j = m := by omega
          exact Or.inr rfl
    · have h0 : ¬ m = 0 := fun e => hk (Or.inl e)
      have he : d[m]! = d[m - 1]! := Classical.byContradiction fun e => hk (Or.inr e)
      rw [if_neg (by rw [Lib.keeps_neg (by omega) he]; simp), List.append_nil]
      refine ⟨h1, fun x => ?_⟩
      rw [h2]
      constructor
      · rintro ⟨j, hj, rfl⟩
        exact ⟨j, by omega, rfl⟩
      · rintro ⟨j, hj, rfl⟩
        rcases Nat.lt_or_ge j m with h | h
        · exact ⟨j, h, rfl⟩
        · obtain rfl : j = m := by omega
          exact ⟨j - 1, by omega, he.symm⟩
theorem compact_isOf {β : Type} [El β] [Inhabited β] [DecidableEq β] {list zs : List β} (hp : zs.Perm list) (hs : zs.Pairwise fun a b => ¬ El.lt b a) : IsOf list (Lib.compact zs) := by
  have hget : ∀ i (h : i < zs.length), zs.toArray[i]! = zs[i] := fun i h => by simp [h]
  obtain ⟨h1, h2⟩ := compact_upto zs.toArray (fun i j hij hj => by
    have hj' : j < zs.length := by simpa using hj
    rw [hget j hj', hget i (by omega)]
    exact List.pairwise_iff_getElem.1 hs i j (by omega) hj' hij) zs.length (by simp)
  refine ⟨h1, fun x => (h2 x).trans ?_⟩
  rw [← hp.mem_iff]
  constructor
  · rintro ⟨j, hj, rfl⟩
    rw [hget j hj]
    exact List.getElem_mem hj
  · intro hx
    obtain ⟨j, hj, rfl⟩ := List.getElem_of_mem hx
    exact ⟨j, hj, hget j hj⟩
end Go.Proofs.YthcgdpdijdmelaaGreat.Set

/- Slices of struct{}: slices.Clone and slices.Insert, walked. (Layer 08.) -/
namespace Go.Proofs.YthcgdpdijdmelaaGreat.Set
set_option linter.unusedVariables false
open Go.RowKit Go.Sort Go.Lib
theorem el_unit : ElemOk Tryz.prog 78 86 0 0 := ElemOk.mk' (z := .agg #[]) Tryz.underlying78 (by kernel_rfl) rfl
theorem info_unit : (Tryz.prog.info? 86).map (fun i => (i.zero, i.size, i.bytes)) = some (some (.agg #[]), 0, 0) := by kernel_rfl
/-- A slice of nothings: of its row only the length counts. -/
theorem unit_at {w : World} {base n : Nat} {v : Value} (h : SlIs w base 86 0 v n []) : (v = .slice none 0 0 ∧ n = 0) ∨ ∃ g off cap, v = .slice (some ⟨g, off, none⟩) n cap ∧ base ≤ g ∧ g < w.heap.size ∧ n ≤ cap ∧ cap ≤ maxLen := by
  rcases h.2 with h0 | ⟨g, off, cap, cur, rfl, hg, hh, hc, hm, _⟩
  · exact .inl h0
  · exact .inr ⟨g, off, cap, rfl, hg, hh.lt, hc, hm⟩
theorem unit_cut {w : World} {base n g off cap : Nat} (h : SlIs w base 86 0 (.slice (some ⟨g, off, none⟩) n cap) n []) (m c : Nat) (hm : m ≤ c) (hc : c ≤ cap) : SlIs w base 86 0 (.slice (some ⟨g, off, none⟩) m c) m [] := by
  rcases h.2 with h0 | ⟨g', off', cap', cur, hv, hg, hh, hc', hm', hs, _⟩
  · cases h0.1
  · injection hv with e1 e2 e3
    injection e1 with e1
    injection e1 with e1 e4
    subst e1 e3 e4
    exact ⟨by simp, .inr ⟨g, off, c, cur, rfl, hg, hh, hm, by omega, by omega, fun j hj => absurd hj (Nat.not_lt_zero _)⟩⟩
theorem first_unit (w : World) (n : Nat) (v : Value) (h : v = .slice none 0 0 ∨ ∃ a m c, v = .slice (some a) m c) : (Builtin.firstCells 0 n v).run Tryz.prog w = .ok #[] w := by
  rcases h with rfl | ⟨a, m, c, rfl⟩
  · simp [Builtin.firstCells]
  · exact run_firstCells_some w 0 n a m c [] (by simp) (fun j v hj => by simp at hj)
theorem copy_unit (w : World) (ty : TypeId) (a b : Option Addr) (n m c d : Nat) : (Builtin.copy_ #[78, 78] ty #[.slice a n c, .slice b m d]).run Tryz.prog w = .ok (goInt (Nat.min m n)) w := by
  obtain ⟨i, hi, h0, h1, h2⟩ := info_parts info_unit
  have hf : (Builtin.firstCells 0 (Nat.min m n) (.slice b m d)).run Tryz.prog w = .ok #[] w := by
    cases b with
    | none => simp [Builtin.firstCells]
    | some b => exact run_firstCells_some w 0 _ b m d [] (by simp) (fun j v hj => by simp at hj)
  cases a <;> simp [Builtin.copy_, run_underlying Tryz.underlying78, Builtin.lenOf, sizeOf, typeInfo, hi, h1, hf, storeCells]
theorem zeros_unit (w : World) (ty : TypeId) (a : Addr) (i cap k : Nat) (h0 : 0 < k) (hg : cap < i + k) (h63 : ((i + k : Nat) : Int) ≤ 9223372036854775807) :
    (Builtin.append_ #[78, 3] ty #[.slice (some a) i cap, .int .i64 k]).run Tryz.prog w = .ok (.slice (some ⟨w.heap.size, 0, none⟩) (i + k) (grownCap w (i + k) cap 86)) (w.drew.alloc (.cells #[] 86)) := by
  obtain ⟨t, hi, z0, z1, z2⟩ := info_parts info_unit
  have hk : k ≠ 0 := by omega
  have hw : IntKind.i64.wrap (k : Int) = k := by rw [IntKind.wrap_i64]; omega
  have hn : ¬ (i + k ≤ cap) := by omega
  have h63' : ¬ (9223372036854775807 < ((i : Int) + (k : Int))) := by omega
  have hneg : ¬ ((k : Int) < 0) := by omega
  have hf := first_unit w.drew i (.slice (some a) i cap) (Or.inr ⟨a, i, cap, rfl⟩)
  have hzc : ∀ n, Builtin.zeroCells #[] n = #[] := fun n => by simp [Builtin.zeroCells]
  simp [Builtin.append_, run_underlying Tryz.underlying78, run_underlying Tryz.underlying3, sizeOf, typeInfo, zeroValue, hi, z0, z1, z2, asInt, asIntOf, hw, hn, hneg, h63', Question.forced, hf, newRow, grownCap, Value.cells, hzc]
set_option maxRecDepth 100000 in
theorem overlaps_unit (a b : Addr) (n m c d : Nat) (w : World) : (callFunc 74 #[.slice (some a) n c, .slice (some b) m d]).run Tryz.prog w = .ok (.value (.bool false)) w := by
  rw [run_callFunc_extern Tryz.func74 (by kernel_rfl) (by kernel_rfl) (by kernel_rfl) (e := Extern.SlicesOverlaps.overlaps #[78, 78] #[4]) (by kernel_rfl)]
  have hz := Tryz.sizeOf86
  have e : (Extern.SlicesOverlaps.overlaps #[78, 78] #[4] #[.slice (some a) n c, .slice (some b) m d]).run Tryz.prog w = .ok (.bool false) w := by
    change Sem.run Tryz.prog (α := Value) (do
      let some t := (#[78, 78] : Array TypeId)[0]? | stuck "slices.overlaps: no parameter types"
      let .slice elem ← underlying t | stuck "slices.overlaps: slice type expected"
      let size ← sizeOf elem
      match (some a : Option Addr), (some b : Option Addr) with
      | some a, some b =>
        if n = 0 ∨ m = 0 ∨ size = 0 then pure (Value.bool false)
        else if a.block != b.block && (← frozen a) && (← frozen b) then unsupported .addressObserved
        else do
          if a.block != b.block then do
            noView a; noView b
            if ← mayBeOne a b then return Value.bool ((← choose (.extern "sameAddr.stringBytes" 2)) == 1)
          pure (Value.bool (a.block == b.block && a.off < b.off + m * size && b.off < a.off + n * size))
      | _, _ => pure (Value.bool false)) w = _
    simp [run_underlying Tryz.underlying78, hz]
  rw [e]
  rfl
/-- What Insert of one nothing leaves. -/
def InsU (base n : Nat) (v : Value) (w w' : World) (e : Ending) : Prop :=
  ∃ v', e = .returned v' ∧ SlIs w' base 86 0 v' (n + 1) [] ∧ w.grownBy w' v.ownBlock ∧ (v'.ownBlock = v.ownBlock ∨ v'.ownBlock = some w.heap.size)
set_option maxRecDepth 100000 in
set_option maxHeartbeats 1000000 in
theorem insert_unit (base n i : Nat) (v : Value) (vb : Nat) (w : World) (h : SlIs w base 86 0 v n []) (hi : i ≤ n) (hn : n + 1 ≤ maxLen) (hb : base ≤ w.heap.size) (ha : BlkIs w vb 86 #[]) :
    Calls Tryz.prog 56 #[v, .int .i64 (i : Int), .slice (some ⟨vb, 0, none⟩) 1 1] w fun e w' => InsU base n v w w' e := by
  have hm63 : (n : Int) + 1 ≤ 9223372036854775807 := by unfold maxLen at hn; omega
  have HA := Lib.hid (SlIs.made (base := 0) (n := 1) (size := 0) ha (Nat.zero_le _) rfl (by decide))
  have H := Lib.hid h
  have HN := Lib.hid (And.intro hn hb)
  by_cases hin : i = n
  · subst hin
    have k0 : ((i : Int) == (i : Int)) = true := by simp
    obtain ⟨a, cap, rfl, hf⟩ : ∃ a cap, v = .slice a i cap ∧ i ≤ cap := by
      rcases unit_at h with ⟨rfl, rfl⟩ | ⟨g, off, cap, rfl, _, _, hc, _⟩
      · exact ⟨none, 0, rfl, Nat.le_refl _⟩
      · exact ⟨_, cap, rfl, hc⟩
    have k1 : (i : Int) ≤ cap := by omega
    clear h hn hb ha hi hf
    go_enter Tryz.func56, Tryz.ntmps56
    go_wp2_with (at_builtin
                 refine wpList_append_sl (base := base) rfl _ _ _ 78 rfl el_unit (.slice a i cap) i [] rfl H.out _ 1 [] rfl (SrcIs.own Tryz.underlying78 HA.out) (fun u hu => by cases hu) HN.out.1 (by simp) HN.out.2 ?_
                 intro v' w' hs1 hg1 hat1
                 have H1 := Lib.hid (And.intro hs1 (And.intro hg1 hat1))
                 clear hs1 hg1 hat1)
    go_ret
    exact ⟨_, rfl, H1.out⟩
  have hlt : i < n := by omega
  rcases unit_at h with ⟨rfl, rfl⟩ | ⟨g, off, cap, rfl, hg, hgl, hc, hm⟩
  · exact absurd hlt (Nat.not_lt_zero _)
  have k0 : ((i : Int) == (n : Int)) = false := by rw [beq_eq_false_iff_ne]; omega
  have k1 : (i : Int) ≤ n := by omega
  have k2 : (n : Int) ≤ cap := by omega
  have k3 : (i : Int) ≤ cap := by omega
  have HM := Lib.hid (And.intro hm (And.intro hc hlt))
  by_cases hroom : n + 1 ≤ cap
  · have k4 : decide ((cap : Int) < (n : Int) + 1) = false := decide_eq_false (by omega)
    have k5 : (n : Int) + 1 ≤ cap := by omega
    have k6 : (i : Int) + 1 ≤ (n : Int) + 1 := by omega
    have k7 : (i : Int) ≤ (n : Int) + 1 := by omega
    have kw : IntKind.i64.wrap ((i : Int) + 1) = (i : Int) + 1 := by rw [IntKind.wrap_i64]; omega
    have HS := Lib.hid (show SlIs w.drew base 86 0 (.slice (some ⟨g, off, none⟩) (n + 1) cap) (n + 1) [] from unit_cut h (n + 1) cap hroom (Nat.le_refl _) |> fun h => h)
    have ov := overlaps_unit
    have mixed : Tryz.prog.follows .mixedOrders = true := by kernel_rfl
    clear h hn hb ha hg hgl hc hm hin hlt
    go_enter Tryz.func56, Tryz.ntmps56
    go_wp2_with (simp only [ov])
    have cp := copy_unit
    have t1 : ((n : Int) + 1 - ((i : Int) + 1)).toNat = n - i := by omega
    have t2 : ((n : Int) + 1 - (i : Int)).toNat = n + 1 - i := by omega
    have hck : ¬ cap = i := by have := HM.out; omega
    have b0 : (0 : Int) ≤ (i : Int) + 1 := by omega
    go_region_law (refine step_copy_runI rfl _ _ 78 78 rfl _ _ (by simp [Act.eval, Act.put]) (by simp [Act.eval, Act.put]) (copy_unit _ _ _ _ _ _ _ _) ?_)
    go_wp2_with (at_builtin; refine wpList_copy_runI _ rfl _ _ 78 78 rfl _ _ rfl rfl (copy_unit _ _ _ _ _ _ _ _) ?_)
    go_ret
    exact ⟨_, rfl, HS.out, drewN_grown w 1 _, Or.inl rfl⟩
  · have k4 : decide ((cap : Int) < (n : Int) + 1) = true := decide_eq_true (by omega)
    have kw : (n : Int) + 1 - (i : Int) = ((n + 1 - i : Nat) : Int) := by omega
    have hz := fun ty => zeros_unit w ty ⟨g, off, none⟩ i cap (n + 1 - i) (by omega) (by omega) (by omega)
    rw [show i + (n + 1 - i) = n + 1 by omega, ← kw] at hz
    have hge := grownCap_ge w (n + 1) cap 86
    have hle := grownCap_le_maxLen w (n + 1) cap 86 hn
    obtain ⟨C, hC⟩ : ∃ C, C = grownCap w (n + 1) cap 86 := ⟨_, rfl⟩
    rw [← hC] at hz hge hle
    have HC := Lib.hid (And.intro hge (And.intro hle (And.intro hb hn)))
    have g1 : (n : Int) + 1 ≤ C := by omega
    have g2 : (i : Int) ≤ (n : Int) + 1 := by omega
    have g3 : (i : Int) + 1 ≤ (n : Int) + 1 := by omega
    have kw1 : IntKind.i64.wrap ((i : Int) + 1) = (i : Int) + 1 := by rw [IntKind.wrap_i64]; omega
    have b0 : (0 : Int) ≤ (i : Int) + 1 := by omega
    have mixed : Tryz.prog.follows .mixedOrders = true := by kernel_rfl
    have t1 : ((n : Int) + 1 - ((i : Int) + 1)).toNat = n - i := by omega
    have t2 : ((n : Int) + 1 - (i : Int)).toNat = n + 1 - i := by omega
    have hck : ¬ cap = i := by have := HM.out; omega
    have hck2 : ¬ C = i := by omega
    clear h hn hb ha hg hgl hc hm hin hlt hC hge hle kw
    go_enter Tryz.func56, Tryz.ntmps56
    have cp := copy_unit
    go_wp2_with (at_builtin; refine wpList_append_run w rfl _ _ 78 3 rfl _ _ rfl rfl _ _ (hz _) ?_)
    go_region_law (refine step_copy_runI rfl _ _ 78 78 rfl _ _ (by simp [Act.eval, Act.put]) (by simp [Act.eval, Act.put]) (copy_unit _ _ _ _ _ _ _ _) ?_)
    go_wp2_with fail
    go_ret
    refine ⟨_, rfl, ⟨by simp, .inr ⟨w.heap.size, 0, C, #[], rfl, HC.out.2.2.1, (BlkIs.new w 86 #[]).toRow, HC.out.1, HC.out.2.1, by simp, fun j hj => absurd hj (Nat.not_lt_zero _)⟩⟩, ?_, Or.inr rfl⟩
    exact grown_then (World.grownBy_alloc w _ _) (drewN_grown _ 2 _)
theorem make_unit (w : World) (n : Nat) (h : (n : Int) ≤ 9223372036854775807) : (Instr.makeSlice 78 (.int .i64 (n : Int)) (.int .i64 (n : Int))).run Tryz.prog w = .ok (.slice (some ⟨w.heap.size, 0, none⟩) n n) (w.alloc (.cells #[] 86)) := by
  obtain ⟨t, hi, z0, z1, z2⟩ := info_parts info_unit
  have hw : IntKind.i64.wrap (n : Int) = n := by rw [IntKind.wrap_i64]; omega
  have hneg : ¬ ((n : Int) < 0) := by omega
  simp [Instr.makeSlice, run_underlying Tryz.underlying78, asInt, asIntOf, typeInfo, sizeOf, hi, z1, z2, hw, hneg, newRow, Array.range_zero']
end Go.Proofs.YthcgdpdijdmelaaGreat.Set

/- Slices of int: slices.Clone, Sort, Compact, Insert, BinarySearch, in the words of SlIs. (Layer 08.) -/
namespace Go.Proofs.YthcgdpdijdmelaaGreat.Set
set_option linter.unusedVariables false
open Go.RowKit Go.Sort Go.Lib
theorem el_int : ElemOk Tryz.prog 52 3 1 8 := ElemOk.mk' (z := Value.int .i64 0) Tryz.underlying52 (by kernel_rfl) rfl
def icells (l : List Int) : List Value := l.map (Value.int .i64)
theorem icells_length (l : List Int) : (icells l).length = l.length := by simp [icells]
theorem icells_get (l : List Int) (i : Nat) (h : i < l.length) : (icells l)[i]? = some (Value.int .i64 l[i]) := by simp [icells, List.getElem?_eq_getElem h]
theorem icells_one (l : List Int) : ∀ v ∈ icells l, v.oneCell' = true := by
  intro v hv
  obtain ⟨y, _, rfl⟩ := List.mem_map.1 hv
  rfl
/-- A slice that can be read. -/
def IntAt (w : World) (v : Value) (l : List Int) : Prop := ∃ (ao : Option Addr) (cap : Nat), v = .slice ao l.length cap ∧ l.length ≤ cap ∧ cap ≤ maxLen ∧
  (0 < l.length → ∃ b off, ao = some ⟨b, off, none⟩ ∧ b < w.heap.size ∧ ∀ i (h : i < l.length), w.cell? ⟨b, off + i, none⟩ = some (Value.int .i64 l[i]))
theorem IntAt.later {w w' : World} {v : Value} {l : List Int} (h : IntAt w v l) (hb : Below w.heap.size w w') : IntAt w' v l := by
  obtain ⟨ao, cap, hv, h1, h2, h3⟩ := h
  refine ⟨ao, cap, hv, h1, h2, fun hn => ?_⟩
  obtain ⟨b, off, ha, hlt, hc⟩ := h3 hn
  exact ⟨b, off, ha, Nat.lt_of_lt_of_le hlt hb.size, fun i hi => by rw [hb.cell hlt, hc i hi]⟩
theorem IntAt.of_sl {w : World} {base : Nat} {e : TypeId} {v : Value} {l : List Int} (h : SlIs w base e 1 v l.length (icells l)) : IntAt w v l := by
  rcases h.parts with ⟨rfl, h0⟩ | ⟨g, off, cap, rfl, _, hlt, hc, hm, hx, _⟩
  · exact ⟨none, 0, by rw [h0], by omega, by decide, fun h => absurd h (by omega)⟩
  · exact ⟨_, cap, rfl, hc, hm, fun _ => ⟨g, off, rfl, hlt, fun i hi => by rw [hx i hi, icells_get l i hi]⟩⟩
/-- What Insert of one thing leaves. -/
def InsInt (base n : Nat) (v : Value) (ys : List Value) (w w' : World) (e : Ending) : Prop :=
  ∃ v', e = .returned v' ∧ SlIs w' base 3 1 v' (n + 1) ys ∧ w.grownBy w' v.ownBlock ∧ (v'.ownBlock = v.ownBlock ∨ v'.ownBlock = some w.heap.size)
theorem ins_cells (cs : List Value) (i n : Nat) (v : Value) (hl : cs.length = n) (hi : i ≤ n) (j : Nat) : (cs.take i ++ v :: cs.drop i)[j]? = if j < i then cs[j]? else if j = i then some v else cs[j - 1]? := by
  by_cases h1 : j < i
  · rw [if_pos h1, List.getElem?_append_left (by rw [List.length_take]; omega), List.getElem?_take, if_pos h1]
  · rw [if_neg h1, List.getElem?_append_right (by rw [List.length_take]; omega), List.length_take, Nat.min_eq_left (by omega)]
    by_cases h2 : j = i
    · subst h2
      rw [if_pos rfl, Nat.sub_self]; rfl
    · rw [if_neg h2, show j - i = (j - i - 1) + 1 by omega, List.getElem?_cons_succ, List.getElem?_drop]
      congr 1
      omega
end Go.Proofs.YthcgdpdijdmelaaGreat.Set

/- Slices of int: Sort, Compact, BinarySearch, in the words of SlIs. (Layer 08.) -/
namespace Go.Proofs.YthcgdpdijdmelaaGreat.Set
set_option linter.unusedVariables false
open Go.RowKit Go.Sort Go.Lib
/-- Whether a thing is among others. -/
noncomputable def has {α : Type} (l : List α) (x : α) : Bool := @decide (x ∈ l) (Classical.propDecidable _)
theorem has_true {α : Type} {l : List α} {x : α} (h : x ∈ l) : has l x = true := by unfold has; exact @decide_eq_true _ (Classical.propDecidable _) h
theorem has_false {α : Type} {l : List α} {x : α} (h : ¬ x ∈ l) : has l x = false := by unfold has; exact @decide_eq_false _ (Classical.propDecidable _) h
theorem has_iff {α : Type} {l : List α} {x : α} : has l x = true ↔ x ∈ l := by
  constructor
  · intro h
    exact Classical.byContradiction fun hn => by rw [has_false hn] at h; cases h
  · exact has_true
/-- Behind the library's sort. -/
theorem sl_sorted {α : Type} [Inhabited α] (enc : α → Value) {w : World} {base g off cap : Nat} {e : TypeId} {l : List α} (h : SlIs w base e 1 (.slice (some ⟨g, off, none⟩) l.length cap) l.length (l.map enc)) (hn : 0 < l.length) (d : Array α) (hd : d.size = l.length) (q : Nat) (os : Array Obj) :
    SlIs (grow (putRow enc (Sort.ahead w q) g off d) os) base e 1 (.slice (some ⟨g, off, none⟩) l.length cap) l.length (d.toList.map enc) := by
  rcases h.2 with h0 | ⟨g', off', cap', cur, hv, hg, hh, hc, hm, hs, hx⟩
  · cases h0.1
  · injection hv with e1 e2 e3
    injection e1 with e1
    injection e1 with e1 e4
    subst e1 e3 e4
    refine ⟨by rw [List.length_map, Array.length_toList, hd, Nat.mul_one], .inr ⟨g, off, cap, putCells enc off d cur, rfl, hg, (hh.putRow enc q off d).growO os, hc, hm, by rw [putCells_size]; exact hs, fun j hj => ?_⟩⟩
    have hj' : j < d.size := by simpa using hj
    rw [putCells_in enc off d cur j hj' (by omega), List.getElem?_map, Array.getElem?_toList, Array.getElem?_eq_getElem hj']
    simp [hj']
theorem holds_of {α : Type} [Inhabited α] (enc : α → Value) {w : World} {base g off cap : Nat} {e : TypeId} {l : List α} (h : SlIs w base e 1 (.slice (some ⟨g, off, none⟩) l.length cap) l.length (l.map enc)) : Holds enc w g off l.toArray := by
  rcases h.parts with ⟨hv, _⟩ | ⟨g', off', cap', hv, _, _, hc, _, hx, _, hf, _⟩
  · cases hv
  · injection hv with e1 e2 e3
    injection e1 with e1
    injection e1 with e1 e4
    subst e1 e3 e4
    intro j hj
    have hj' : j < l.length := by simpa using hj
    refine ⟨?_, hf j (by omega)⟩
    rw [hx j hj', List.getElem?_map, List.getElem?_eq_getElem hj']
    simp [hj']
theorem sorted_isOf_int (l : List Int) : IsOf l (Lib.compact (l.mergeSort fun x y => decide (x ≤ y))) := by
  refine compact_isOf (List.mergeSort_perm _ _) ?_
  have := List.pairwise_mergeSort (le := fun x y : Int => decide (x ≤ y)) (fun a b c h1 h2 => by simp at *; omega) (fun a b => by simp; omega) l
  exact this.imp fun {a b} h => by
    have h' : a ≤ b := by simpa using h
    show ¬ b < a
    omega
end Go.Proofs.YthcgdpdijdmelaaGreat.Set

/- shelf.Set[int]: all, find, Has, Len, At, Keys, List, Of, walked. Conditions: at most 1,000,000 things. (Layer 08.) -/
namespace Go.Proofs.YthcgdpdijdmelaaGreat.Set
set_option linter.unusedVariables false
open Go.RowKit Go.Sort Go.Lib
/-- The blocks of a set. -/
def Own_ (g : Nat) (kv vv : Value) (k : Nat) : Prop := k = g ∨ kv.ownBlock = some k ∨ vv.ownBlock = some k
theorem DrawsOf.trans {a b c : World} (h : DrawsOf a b) (k : DrawsOf b c) : DrawsOf a c := by
  obtain ⟨n, rfl⟩ := h
  obtain ⟨m, rfl⟩ := k
  exact ⟨n + m, by rw [World.drewN_drewN]⟩
end Go.Proofs.YthcgdpdijdmelaaGreat.Set

/- shelf.Set[int].Add, walked; Of. Conditions: fewer than 1,000,000 things. (Layer 08.) -/
namespace Go.Proofs.YthcgdpdijdmelaaGreat.Set
set_option linter.unusedVariables false
open Go.RowKit Go.Sort Go.Lib
end Go.Proofs.YthcgdpdijdmelaaGreat.Set

/- shelf.Set[int].Add; shelf.Of, walked. (Layer 08.) -/
namespace Go.Proofs.YthcgdpdijdmelaaGreat.Set
set_option linter.unusedVariables false
open Go.RowKit Go.Sort Go.Lib
end Go.Proofs.YthcgdpdijdmelaaGreat.Set

/- Slices of string: slices.Clone, Sort, Compact, Insert, BinarySearch, in the words of SlIs. (Layer 08.) -/
namespace Go.Proofs.YthcgdpdijdmelaaGreat.Set
set_option linter.unusedVariables false
open Go.RowKit Go.Sort Go.Lib
theorem el_string : ElemOk Tryz.prog 26 9 1 16 := ElemOk.mk' (z := Value.string ⟨#[]⟩) Tryz.underlying26 (by kernel_rfl) rfl
def scells (l : List ByteArray) : List Value := l.map (Value.string)
theorem scells_length (l : List ByteArray) : (scells l).length = l.length := by simp [scells]
theorem scells_get (l : List ByteArray) (i : Nat) (h : i < l.length) : (scells l)[i]? = some (Value.string l[i]) := by simp [scells, List.getElem?_eq_getElem h]
theorem scells_one (l : List ByteArray) : ∀ v ∈ scells l, v.oneCell' = true := by
  intro v hv
  obtain ⟨y, _, rfl⟩ := List.mem_map.1 hv
  rfl
/-- A slice that can be read. -/
def StrAt (w : World) (v : Value) (l : List ByteArray) : Prop := ∃ (ao : Option Addr) (cap : Nat), v = .slice ao l.length cap ∧ l.length ≤ cap ∧ cap ≤ maxLen ∧
  (0 < l.length → ∃ b off, ao = some ⟨b, off, none⟩ ∧ b < w.heap.size ∧ ∀ i (h : i < l.length), w.cell? ⟨b, off + i, none⟩ = some (Value.string l[i]))
theorem StrAt.later {w w' : World} {v : Value} {l : List ByteArray} (h : StrAt w v l) (hb : Below w.heap.size w w') : StrAt w' v l := by
  obtain ⟨ao, cap, hv, h1, h2, h3⟩ := h
  refine ⟨ao, cap, hv, h1, h2, fun hn => ?_⟩
  obtain ⟨b, off, ha, hlt, hc⟩ := h3 hn
  exact ⟨b, off, ha, Nat.lt_of_lt_of_le hlt hb.size, fun i hi => by rw [hb.cell hlt, hc i hi]⟩
theorem StrAt.of_sl {w : World} {base : Nat} {e : TypeId} {v : Value} {l : List ByteArray} (h : SlIs w base e 1 v l.length (scells l)) : StrAt w v l := by
  rcases h.parts with ⟨rfl, h0⟩ | ⟨g, off, cap, rfl, _, hlt, hc, hm, hx, _⟩
  · exact ⟨none, 0, by rw [h0], by omega, by decide, fun h => absurd h (by omega)⟩
  · exact ⟨_, cap, rfl, hc, hm, fun _ => ⟨g, off, rfl, hlt, fun i hi => by rw [hx i hi, scells_get l i hi]⟩⟩
theorem clone_string (v : Value) (l : List ByteArray) (w : World) (h : StrAt w v l) (hn : l.length ≤ 1000000) :
    Calls Tryz.prog 34 #[v] w fun e w' => ∃ v', e = .returned v' ∧ SlIs w' w.heap.size 9 1 v' l.length (scells l) ∧ Below w.heap.size w w' := by
  obtain ⟨ao, cap, rfl, h1, h2, h3⟩ := h
  cases ao with
  | none =>
    have h0 : l.length = 0 := by
      rcases Nat.eq_zero_or_pos l.length with h | h
      · exact h
      · obtain ⟨b, off, ha, _⟩ := h3 h
        cases ha
    have hl : l = [] := List.eq_nil_of_length_eq_zero h0
    subst hl
    refine (Tryz.slices_Clone_string_nil 0 cap w).mono ?_
    rintro e w' ⟨rfl, rfl⟩
    exact ⟨_, rfl, SlIs.nil_ _ _ _ _, Below.refl _ _⟩
  | some a =>
    rcases Nat.eq_zero_or_pos l.length with h0 | h0
    · have hl : l = [] := List.eq_nil_of_length_eq_zero h0
      subst hl
      refine (Tryz.slices_Clone_string_zero a cap w).mono ?_
      rintro e w' ⟨v', rfl, ho, _, hb⟩
      exact ⟨v', rfl, SlIs.of_own ho, hb⟩
    · obtain ⟨b, off, ha, hlt, hc⟩ := h3 h0
      injection ha with ha
      subst ha
      refine (Tryz.slices_Clone_string b off l.length cap l w (Nat.le_refl _) (by omega) (fun j hj => by
        rw [hc j hj, List.getD_eq_getElem?_getD, List.getElem?_eq_getElem hj]; rfl)).mono ?_
      rintro e w' ⟨v', rfl, ho, _, hb⟩
      rw [List.take_length] at ho
      exact ⟨v', rfl, SlIs.of_own ho, hb⟩
/-- What Insert of one thing leaves. -/
def InsStr (base n : Nat) (v : Value) (ys : List Value) (w w' : World) (e : Ending) : Prop :=
  ∃ v', e = .returned v' ∧ SlIs w' base 9 1 v' (n + 1) ys ∧ w.grownBy w' v.ownBlock ∧ (v'.ownBlock = v.ownBlock ∨ v'.ownBlock = some w.heap.size)
theorem insert_string (base i : Nat) (v : Value) (l : List ByteArray) (x : ByteArray) (vb : Nat) (w : World) (h : SlIs w base 9 1 v l.length (scells l)) (hi : i ≤ l.length) (hn : l.length ≤ 1000000) (hb : base ≤ w.heap.size)
    (ha : BlkIs w vb 9 #[Value.string x]) (hne : v.ownBlock ≠ some vb) :
    Calls Tryz.prog 25 #[v, .int .i64 (i : Int), .slice (some ⟨vb, 0, none⟩) 1 1] w fun e w' => InsStr base l.length v (scells (l.take i ++ x :: l.drop i)) w w' e := by
  obtain ⟨n, hnl⟩ : ∃ n, n = l.length := ⟨_, rfl⟩
  obtain ⟨cs, hcs⟩ : ∃ cs, cs = scells l := ⟨_, rfl⟩
  have hcl : cs.length = n := by rw [hcs, scells_length, hnl]
  have hys : scells (l.take i ++ x :: l.drop i) = cs.take i ++ Value.string x :: cs.drop i := by rw [hcs]; simp [scells, List.map_take, List.map_drop]
  have h1c : ∀ v ∈ cs, v.oneCell' = true := by rw [hcs]; exact scells_one l
  rw [hys]
  rw [← hnl] at hi hn ⊢
  rw [← hnl, ← hcs] at h
  have hyl : (cs.take i ++ Value.string x :: cs.drop i).length = n + 1 := by rw [List.length_append, List.length_cons, List.length_take, List.length_drop]; omega
  have hvs : ∀ (j : Nat) v, [Value.string x][j]? = some v → w.cell? ⟨vb, 0 + j, none⟩ = some v := fun j v hj => by
    rw [ha.cell]
    rcases j with _ | j
    · simpa using hj
    · simp at hj
  have h1v : ∀ v ∈ [Value.string x], v.oneCell' = true := fun v hv => by rcases List.mem_singleton.1 hv with rfl; rfl
  have hge : ∀ c, n + 1 ≤ grownCap w (n + 1) c 9 := fun c => grownCap_ge w (n + 1) c _
  have hle : ∀ c, grownCap w (n + 1) c 9 ≤ maxLen := fun c => grownCap_le_maxLen w (n + 1) c _ (by unfold maxLen; omega)
  have endgrow : ∀ (ao : Option Addr) (c : Nat), n ≤ c → c < n + 1 → (ao = none → n = 0) → (∀ a, ao = some a → ∀ (j : Nat) v, cs[j]? = some v → w.cell? (a.add j) = some v) → i = n →
      Calls Tryz.prog 25 #[.slice ao n c, .int .i64 (i : Int), .slice (some ⟨vb, 0, none⟩) 1 1] w fun e w' => InsStr base n (.slice ao n c) (cs.take i ++ Value.string x :: cs.drop i) w w' e := by
    intro ao c hnc hroom hnil hcell hin
    subst hin
    refine (Any2.slices_Insert_string_end_grow Tryz.insS ao i c vb 0 1 1 cs [Value.string x] w (by omega) hnc hroom (by omega) hcl rfl hnil hcell hvs h1v).mono ?_
    rintro e w' ⟨rfl, rfl⟩
    refine ⟨_, rfl, ?_, ?_, Or.inr rfl⟩
    · refine ⟨by rw [hyl]; omega, .inr ⟨w.heap.size, 0, _, _, rfl, hb, (BlkIs.new w.drew 9 _).toRow, hge c, hle c, ?_, fun j hj => ?_⟩⟩
      · have := hge c
        simp [Builtin.zeroCells, Value.cells, hcl]
        omega
      · rw [hyl] at hj
        rw [ins_cells cs i i _ hcl (Nat.le_refl _), Nat.zero_add, Array.getElem?_append_left (by simp [hcl]; omega), List.getElem?_toArray]
        by_cases h1 : j < i
        · rw [if_pos h1, List.getElem?_append_left (by omega)]
        · obtain rfl : j = i := by omega
          rw [if_neg (by omega), if_pos rfl, List.getElem?_append_right (by omega), hcl, Nat.sub_self]
          rfl
    · exact grown_then (drewN_grown w 1 _) (World.grownBy_alloc _ _ _)
  rcases h.parts with ⟨rfl, h0⟩ | ⟨g, off, cap, rfl, hg, hlt, hc, hmx, hx, hsome, hfz, tk, hsh, htk⟩
  · have hi0 : i = n := by omega
    rw [h0] at hi0 ⊢
    have := endgrow none 0 (by omega) (by omega) (fun _ => h0) (fun a ha => by cases ha) (by omega)
    rw [h0] at this
    exact this
  · have hmx' : cap ≤ 9223372036854775807 := by unfold maxLen at hmx; exact hmx
    have hcc : ∀ (j : Nat) v, cs[j]? = some v → w.cell? ⟨g, off + j, none⟩ = some v := fun j v hj => by
      rw [hx j (by rw [← hcl]; exact (List.getElem?_eq_some_iff.1 hj).1)]; exact hj
    have hvg : vb ≠ g := fun e => hne (by rw [e]; rfl)
    by_cases hin : i = n
    · subst hin
      by_cases hroom : i + 1 ≤ cap
      · refine (Any2.slices_Insert_string_end_room Tryz.insS g off i cap vb 0 1 1 [Value.string x] w (by omega) hroom hmx' rfl (fun j hj => by rw [Nat.add_assoc]; exact hsome _ (by omega)) (fun j hj => by rw [Nat.add_assoc]; exact hfz _ (by omega)) hvs h1v).mono ?_
        rintro e w' ⟨rfl, rfl⟩
        refine ⟨_, rfl, ?_, setCells_grown _ _ _, Or.inl rfl⟩
        refine SlIs.puts h i (i + 1) [Value.string x] _ hroom (by simpa using hroom) hyl (fun j hj hj2 => ?_) (fun j hj h1 h2 => ?_)
        · simp only [List.length_singleton] at hj2
          exact ⟨by omega, by rw [ins_cells cs i i _ hcl (Nat.le_refl _), if_pos (by omega)]⟩
        · simp only [List.length_singleton] at h2
          obtain rfl : j = i := by omega
          rw [ins_cells cs j j _ hcl (Nat.le_refl _), if_neg (by omega), if_pos rfl, Nat.sub_self]
          rfl
      · exact endgrow _ cap hc (by omega) (fun ha => by cases ha) (fun a ha j v hj => by
          injection ha with ha
          subst ha
          rw [Addr.add_lit]
          exact hcc j v hj) rfl
    · have hin' : i < n := by omega
      by_cases hroom : n + 1 ≤ cap
      · refine (Any2.slices_Insert_string_shift Tryz.insS g off n cap i vb 0 1 1 cs [Value.string x] w hin' (by omega) hroom hmx' hvg hcl rfl hcc (fun j hj => hsome j (by omega)) (fun j hj => hfz j (by omega)) hvs h1c h1v 9 9 1 tk ha.shape hsh (by omega) (ha.free 0) (ha.free 1)).mono ?_
        rintro e w' ⟨rfl, rfl⟩
        have hd : (cs.drop i).length = n - i := by rw [List.length_drop]; omega
        refine ⟨_, rfl, ?_, grown_then (grown_then (drewN_grown w 1 _) (setCells_grown _ _ _)) (setCells_grown _ _ _), Or.inl rfl⟩
        have s1 : SlIs (w.drew.setCells g (off + (i + 1)) (cs.drop i)) base 9 1 (.slice (some ⟨g, off, none⟩) (n + 1) cap) (n + 1) (cs.take (i + 1) ++ cs.drop i) := by
          refine SlIs.puts (w := w.drew) h (i + 1) (n + 1) (cs.drop i) _ hroom (by omega) (by rw [List.length_append, List.length_take, hd]; omega) (fun j hj hj2 => ?_) (fun j hj h1 h2 => ?_)
          · have hji : j < i + 1 := by omega
            exact ⟨by omega, by rw [List.getElem?_append_left (by rw [List.length_take]; omega), List.getElem?_take, if_pos hji]⟩
          · rw [List.getElem?_append_right (by rw [List.length_take]; omega), List.length_take, Nat.min_eq_left (by omega)]
        refine SlIs.puts s1 i (n + 1) [Value.string x] _ hroom (by simp; omega) hyl (fun j hj hj2 => ?_) (fun j hj h1 h2 => ?_)
        · simp only [List.length_singleton] at hj2
          refine ⟨hj, ?_⟩
          rw [ins_cells cs i n _ hcl (by omega)]
          by_cases h1 : j < i
          · rw [if_pos h1, List.getElem?_append_left (by rw [List.length_take]; omega), List.getElem?_take, if_pos (by omega)]
          · rw [if_neg h1, if_neg (by omega), List.getElem?_append_right (by rw [List.length_take]; omega), List.length_take, Nat.min_eq_left (by omega), List.getElem?_drop]
            congr 1
            omega
        · simp only [List.length_singleton] at h2
          obtain rfl : j = i := by omega
          rw [ins_cells cs j n _ hcl (by omega), if_neg (by omega), if_pos rfl, Nat.sub_self]
          rfl
      · refine (Any2.slices_Insert_string_grow Tryz.insS g off n cap i vb 0 1 1 cs [Value.string x] w hin' (by omega) hc (by omega) (by omega) hcl rfl hcc hvs h1c h1v).mono ?_
        rintro e w' ⟨rfl, rfl⟩
        have hd : (cs.drop i).length = n - i := by rw [List.length_drop]; omega
        have hgc := hge cap
        refine ⟨_, rfl, ?_, ?_, Or.inr rfl⟩
        · obtain ⟨ROW, hROW⟩ : ∃ ROW : Array Value, ROW = (cs.take i).toArray ++ Builtin.zeroCells (Value.string ⟨#[]⟩).cells (n + 1 - i) ++ Builtin.zeroCells (Value.string ⟨#[]⟩).cells (grownCap w (n + 1) cap 9 - (n + 1)) := ⟨_, rfl⟩
          have hRz : ROW.size = grownCap w (n + 1) cap 9 := by
            rw [hROW]
            simp [Builtin.zeroCells, Value.cells]
            omega
          have hRi : ∀ j, j < i → ROW[j]? = cs[j]? := fun j hj => by
            rw [hROW, Array.getElem?_append_left (by simp; omega), Array.getElem?_append_left (by simp; omega), List.getElem?_toArray, List.getElem?_take, if_pos hj]
          obtain ⟨G, hG⟩ : ∃ G, G = grownCap w (n + 1) cap 9 := ⟨_, rfl⟩
          have hGl := hle cap
          rw [← hG] at hRz hgc hGl
          obtain ⟨R, hR⟩ : ∃ R, R = ROW.toList.take (n + 1) := ⟨_, rfl⟩
          have hRl : R.length = n + 1 := by rw [hR, List.length_take, Array.length_toList]; omega
          have hRg : ∀ j, j < n + 1 → R[j]? = ROW[j]? := fun j hj => by rw [hR, List.getElem?_take, if_pos hj, Array.getElem?_toList]
          have s0 : SlIs (w.alloc (.cells ROW 9)).drew base 9 1 (.slice (some ⟨w.heap.size, 0, none⟩) (n + 1) G) (n + 1) R :=
            ⟨by rw [hRl, Nat.mul_one], .inr ⟨w.heap.size, 0, G, ROW, rfl, hb, (BlkIs.new w 9 ROW).toRow, hgc, hGl, by omega, fun j hj => by rw [Nat.zero_add]; exact (hRg j (by omega)).symm⟩⟩
          have s1 : SlIs ((w.alloc (.cells ROW 9)).drew.setCells w.heap.size (0 + i) [Value.string x]) base 9 1 (.slice (some ⟨w.heap.size, 0, none⟩) (n + 1) G) (n + 1) (cs.take i ++ Value.string x :: R.drop (i + 1)) := by
            refine SlIs.puts s0 i (n + 1) [Value.string x] _ hgc (by simp; omega) (by rw [List.length_append, List.length_cons, List.length_take, List.length_drop]; omega) (fun j hj hj2 => ?_) (fun j hj h1 h2 => ?_)
            · simp only [List.length_singleton] at hj2
              refine ⟨hj, ?_⟩
              by_cases h1 : j < i
              · rw [List.getElem?_append_left (by rw [List.length_take]; omega), List.getElem?_take, if_pos h1, hRg j (by omega), hRi j h1]
              · rw [List.getElem?_append_right (by rw [List.length_take]; omega), List.length_take, Nat.min_eq_left (by omega), show j - i = (j - i - 1) + 1 by omega, List.getElem?_cons_succ, List.getElem?_drop]
                congr 1
                omega
            · simp only [List.length_singleton] at h2
              obtain rfl : j = i := by omega
              rw [List.getElem?_append_right (by rw [List.length_take]; omega), List.length_take, Nat.min_eq_left (by omega), Nat.sub_self]
              rfl
          have s2 : SlIs (((w.alloc (.cells ROW 9)).drew.setCells w.heap.size (0 + i) [Value.string x]).drew.setCells w.heap.size (0 + (i + 1)) (cs.drop i)) base 9 1 (.slice (some ⟨w.heap.size, 0, none⟩) (n + 1) G) (n + 1) (cs.take i ++ Value.string x :: cs.drop i) := by
            refine SlIs.puts (w := ((w.alloc (.cells ROW 9)).drew.setCells w.heap.size (0 + i) [Value.string x]).drew) s1 (i + 1) (n + 1) (cs.drop i) _ hgc (by omega) hyl (fun j hj hj2 => ?_) (fun j hj h1 h2 => ?_)
            · have hji : j < i + 1 := by omega
              refine ⟨hj, ?_⟩
              by_cases h1 : j < i
              · rw [List.getElem?_append_left (by rw [List.length_take]; omega), List.getElem?_append_left (by rw [List.length_take]; omega)]
              · obtain rfl : j = i := by omega
                rw [List.getElem?_append_right (by rw [List.length_take]; omega), List.getElem?_append_right (by rw [List.length_take]; omega), List.length_take, Nat.min_eq_left (by omega), Nat.sub_self]
                rfl
            · rw [List.getElem?_append_right (by rw [List.length_take]; omega), List.length_take, Nat.min_eq_left (by omega), show j - i = (j - (i + 1)) + 1 by omega, List.getElem?_cons_succ]
          rw [Nat.zero_add, Nat.zero_add] at s2
          rw [hROW, hG] at s2
          exact s2
        · exact grown_new (grown_then (grown_new (grown_then (World.grownBy_alloc w _ _) (drewN_grown _ 1 _)) (setCells_grown _ _ _) (Nat.le_refl _)) (drewN_grown _ 1 _)) (setCells_grown _ _ _) (Nat.le_refl _)
end Go.Proofs.YthcgdpdijdmelaaGreat.Set

/- Slices of texts: BinarySearch, in the words of SlIs. (Layer 08.) -/
namespace Go.Proofs.YthcgdpdijdmelaaGreat.Set
set_option linter.unusedVariables false
open Go.RowKit Go.Sort Go.Lib
theorem less_lt (S T : ByteArray) : Op.bytesLess S.toList T.toList = decide (El.lt S T) := by
  rw [Go.Proofs.bytesLess_eq, ByteArray.toList_eq, ByteArray.toList_eq]
  exact decide_eq_decide.2 Iff.rfl
theorem pos_low {α : Type} [El α] : ∀ {l : List α} {x : α}, Rise l → ∀ t (h : t < l.length), t < pos l x → El.lt l[t] x
  | [], _, _, t, h, _ => absurd h (Nat.not_lt_zero _)
  | y :: r, x, hr, t, h, ht => by
    by_cases hlt : El.lt y x
    · cases t with
      | zero => exact hlt
      | succ t => exact pos_low (List.pairwise_cons.1 hr).2 t (by simpa using h) (by rw [pos_cons_pos hlt] at ht; omega)
    · rw [pos_zero hr hlt] at ht; omega
theorem pos_high {α : Type} [El α] : ∀ {l : List α} {x : α}, Rise l → ∀ t (h : t < l.length), pos l x ≤ t → ¬ El.lt l[t] x
  | [], _, _, t, h, _ => absurd h (Nat.not_lt_zero _)
  | y :: r, x, hr, t, h, ht => by
    have hp := List.pairwise_cons.1 hr
    by_cases hlt : El.lt y x
    · rw [pos_cons_pos hlt] at ht
      cases t with
      | zero => omega
      | succ t => exact pos_high hp.2 t (by simpa using h) (by omega)
    · cases t with
      | zero => exact hlt
      | succ t => exact fun h2 => hlt (El.tr (hp.1 _ (List.getElem_mem _)) h2)
theorem search_string (v : Value) (l : List ByteArray) (x : ByteArray) (w : World) (h : StrAt w v l) (hr : Rise l) (hn : l.length ≤ 1000000) :
    Calls Tryz.prog 43 #[v, .string x] w fun e w' => e = .returned (.tuple #[.int .i64 ((pos l x : Nat) : Int), .bool (has l x)]) ∧ DrawsOf w w' := by
  obtain ⟨ao, cap, rfl, h1, h2, h3⟩ := h
  rcases Nat.eq_zero_or_pos l.length with h0 | h0
  · have hl : l = [] := List.eq_nil_of_length_eq_zero h0
    subst hl
    refine (Any2.slices_BinarySearch_string_empty Tryz.bsS ao cap x w).mono ?_
    rintro e w' ⟨rfl, rfl⟩
    exact ⟨by rw [has_false (by simp)]; rfl, DrawsOf.refl _⟩
  · obtain ⟨b, off, rfl, hlt, hc⟩ := h3 h0
    refine (Any2.slices_BinarySearch_string Tryz.bsS b off l.length cap (fun t => if h : t < l.length then l[t] else x) x w (by omega) (fun j hj => by rw [hc j hj, dif_pos hj])).mono ?_
    rintro e w' ⟨rfl, q, rfl⟩
    have hp : Lib.bsGo (fun t => Op.bytesLess (if h : t < l.length then l[t] else x).toList x.toList) l.length 0 l.length = pos l x := by
      refine Lib.bsGo_spec _ (pos l x) (fun t ht => ?_) (fun t ht => ?_) _ _ _ (by omega) (Nat.zero_le _) (pos_le l x)
      · have h1 := pos_le l x
        simp only [less_lt]
        rw [dif_pos (by omega)]
        exact decide_eq_true (pos_low hr t _ ht)
      · simp only [less_lt]
        by_cases h : t < l.length
        · rw [dif_pos h]
          exact decide_eq_false (pos_high hr t h ht)
        · rw [dif_neg h]
          exact decide_eq_false (El.irr x)
    refine ⟨?_, ⟨q, rfl⟩⟩
    rw [hp]
    by_cases hm : x ∈ l
    · obtain ⟨h4, h5⟩ := pos_at hr hm
      rw [has_true hm, decide_eq_true]
      exact ⟨h4, by rw [dif_pos h4]; exact h5⟩
    · rw [has_false hm, decide_eq_false]
      rintro ⟨h4, h5⟩
      rw [dif_pos h4] at h5
      exact hm (h5 ▸ List.getElem_mem h4)
end Go.Proofs.YthcgdpdijdmelaaGreat.Set

/- Slices of texts: Sort, Compact, in the words of SlIs. (Layer 08, the seat of the sets of texts.) -/
namespace Go.Proofs.YthcgdpdijdmelaaGreat.Set
set_option linter.unusedVariables false
open Go.RowKit Go.Sort Go.Lib
abbrev toL (s : ByteArray) : List UInt8 := s.data.toList
abbrev ofL_ (u : List UInt8) : ByteArray := ⟨u.toArray⟩
theorem ofL_toL (s : ByteArray) : ofL_ (toL s) = s := by apply ByteArray.ext; simp
theorem toL_ofL (u : List UInt8) : toL (ofL_ u) = u := by simp
theorem scells_enc (l : List ByteArray) : scells l = (l.map toL).map encStr := by
  rw [scells, List.map_map]
  apply List.map_congr_left
  intro s _
  exact congrArg Value.string (ofL_toL s).symm
theorem enc_scells (u : List (List UInt8)) : u.map encStr = scells (u.map ofL_) := by
  rw [scells, List.map_map]
  rfl
instance : El (List UInt8) where
  lt a b := a < b
  dec a b := inferInstance
  irr a := List.lt_irrefl _
  tr h k := List.lt_trans h k
  tri a b := by
    rcases List.le_total a b with h | h
    · rcases List.le_iff_lt_or_eq.1 h with h | h
      · exact Or.inl h
      · exact Or.inr (Or.inl h)
    · rcases List.le_iff_lt_or_eq.1 h with h | h
      · exact Or.inr (Or.inr h)
      · exact Or.inr (Or.inl h.symm)
def bsort (l : List ByteArray) : List ByteArray := ((l.map toL).mergeSort fun x y => decide (x ≤ y)).map ofL_
def bcompact (l : List ByteArray) : List ByteArray := (Lib.compact (l.map toL)).map ofL_
theorem bsort_length (l : List ByteArray) : (bsort l).length = l.length := by simp [bsort]
theorem bcompact_le (l : List ByteArray) : (bcompact l).length ≤ l.length := by
  have := Lib.compact_length_le (l.map toL)
  simpa [bcompact] using this
theorem map_toL_ofL (u : List (List UInt8)) : (u.map ofL_).map toL = u := by
  rw [List.map_map]
  conv => rhs; rw [← List.map_id u]
  rfl
theorem sorted_isOf_string (l : List ByteArray) : IsOf l (bcompact (bsort l)) := by
  have h : IsOf (l.map toL) (Lib.compact ((l.map toL).mergeSort fun x y => decide (x ≤ y))) := by
    refine compact_isOf (List.mergeSort_perm _ _) ?_
    have := List.pairwise_mergeSort (le := fun x y : List UInt8 => decide (x ≤ y)) (fun a b c h1 h2 => by simp at *; exact List.le_trans h1 h2) (fun a b => by simp; exact List.le_total a b) (l.map toL)
    exact this.imp fun {a b} h => by
      have h' : a ≤ b := by simpa using h
      exact h'
  rw [bcompact, bsort, map_toL_ofL]
  refine ⟨?_, fun x => ?_⟩
  · exact List.pairwise_map.2 (h.1.imp fun {a b} hab => by show toL (ofL_ a) < toL (ofL_ b); rw [toL_ofL, toL_ofL]; exact hab)
  · rw [List.mem_map]
    constructor
    · rintro ⟨u, hu, rfl⟩
      obtain ⟨s, hs, rfl⟩ := List.mem_map.1 ((h.2 u).1 hu)
      rw [ofL_toL]; exact hs
    · intro hx
      exact ⟨toL x, (h.2 _).2 (List.mem_map.2 ⟨x, hx, rfl⟩), ofL_toL x⟩
theorem sort_string (base : Nat) (v : Value) (l : List ByteArray) (w : World) (h : SlIs w base 9 1 v l.length (scells l)) (hn : l.length ≤ 1000000) :
    Calls Tryz.prog 35 #[v] w fun e w' => e = .returned (.tuple #[]) ∧ SlIs w' base 9 1 v l.length (scells (bsort l)) ∧ w.grownBy w' v.ownBlock := by
  rcases h.parts with ⟨rfl, h0⟩ | ⟨g, off, cap, rfl, hg, hlt, hc, hm, _⟩
  · have hl : l = [] := List.eq_nil_of_length_eq_zero h0
    subst hl
    refine (Tryz.slices_Sort_string_none none 0 w).mono ?_
    rintro e w' ⟨rfl, rfl⟩
    exact ⟨rfl, by simpa [scells, bsort] using h, World.grownBy.refl _ _⟩
  · rcases Nat.eq_zero_or_pos l.length with h0 | h0
    · have hl : l = [] := List.eq_nil_of_length_eq_zero h0
      subst hl
      refine (Tryz.slices_Sort_string_none _ cap w).mono ?_
      rintro e w' ⟨rfl, rfl⟩
      exact ⟨rfl, by simpa [scells, bsort] using h, World.grownBy.refl _ _⟩
    · obtain ⟨u, hu⟩ : ∃ u, u = l.map toL := ⟨_, rfl⟩
      have hul : u.length = l.length := by rw [hu]; simp
      rw [scells_enc, ← hu, ← hul] at h
      rw [bsort, ← hu, ← enc_scells, ← hul]
      rw [← hul] at h0 hn
      refine (Tryz.slices_Sort_string g off cap u w (holds_of _ h) hlt (by omega)).mono ?_
      rintro e w' ⟨rfl, q, os, rfl⟩
      have := sl_sorted encStr h h0 (u.mergeSort fun x y => decide (x ≤ y)).toArray (by simp) q os
      exact ⟨rfl, by simpa using this, putRow_grown _ _ _ _ _ _ _⟩
theorem compact_string (base : Nat) (v : Value) (l : List ByteArray) (w : World) (h : SlIs w base 9 1 v l.length (scells l)) (hn : l.length ≤ 1000000) :
    Calls Tryz.prog 36 #[v] w fun e w' => ∃ v', e = .returned v' ∧ SlIs w' base 9 1 v' (bcompact l).length (scells (bcompact l)) ∧ w.grownBy w' v.ownBlock ∧ v'.ownBlock = v.ownBlock := by
  rcases h.parts with ⟨rfl, h0⟩ | ⟨g, off, cap, rfl, hg, hlt, hc, hm, hx, _, hf, _⟩
  · have hl : l = [] := List.eq_nil_of_length_eq_zero h0
    subst hl
    refine (Tryz.slices_Compact_string_empty none 0 w).mono ?_
    rintro e w' ⟨rfl, rfl⟩
    exact ⟨_, rfl, by simpa [scells, bcompact, Lib.compact, Lib.compactUpTo] using h, World.grownBy.refl _ _, rfl⟩
  · refine (Tryz.slices_Compact_string_cells g off l.length cap (fun i => l.getD i ⟨#[]⟩) w (by omega) hc (fun j hj => by
      rw [hx j hj, scells_get l j hj, List.getD_eq_getElem?_getD, List.getElem?_eq_getElem hj]; rfl) (fun j hj => hf j (by omega))).mono ?_
    rintro e w' ⟨rfl, q, rfl⟩
    have hso : (Lib.strsOf (fun i => l.getD i ⟨#[]⟩) l.length) = l.map toL := by
      apply List.ext_getElem?
      intro i
      rw [Lib.strsOf, List.getElem?_map, List.getElem?_map]
      by_cases hi : i < l.length
      · rw [List.getElem?_range hi, List.getElem?_eq_getElem hi]
        simp [List.getD_eq_getElem?_getD, List.getElem?_eq_getElem hi]
      · rw [List.getElem?_eq_none (by simpa using hi), List.getElem?_eq_none (by omega)]
        rfl
    rw [hso]
    have hk := Lib.compact_length_le (l.map toL)
    rw [List.length_map] at hk
    have hcl : (bcompact l).length = (Lib.compact (l.map toL)).length := by simp [bcompact]
    refine ⟨.slice (some ⟨g, off, none⟩) (bcompact l).length cap, by rw [hcl], ?_, grown_then (drewN_grown w q _) (setCells_grown _ _ _), rfl⟩
    have hlen : (List.map encStr (Lib.compact (l.map toL) ++ List.replicate (l.length - (Lib.compact (l.map toL)).length) [])).length = l.length := by simp; omega
    have := SlIs.puts (w := w.drewN q) h 0 (bcompact l).length (List.map encStr (Lib.compact (l.map toL) ++ List.replicate (l.length - (Lib.compact (l.map toL)).length) [])) (scells (bcompact l)) (by omega) (by rw [hlen]; omega) (scells_length _) (fun j hj hj2 => by rw [hlen] at hj2; omega) (fun j hj h1 h2 => by
      rw [Nat.sub_zero, List.getElem?_map, List.getElem?_append_left (by omega), bcompact, ← enc_scells, List.getElem?_map])
    exact this
end Go.Proofs.YthcgdpdijdmelaaGreat.Set

/- shelf.Set[string]: all, find, Has, Len, At, Keys, List, Of, walked. Conditions: at most 1,000,000 things. (Layer 08.) -/
namespace Go.Proofs.YthcgdpdijdmelaaGreat.Set
set_option linter.unusedVariables false
open Go.RowKit Go.Sort Go.Lib
/-- A set of string: its map, in block g: the keys kv, the values vv; all its blocks from base on. -/
structure StrSet (w : World) (base g : Nat) (kv vv : Value) (l : List ByteArray) : Prop where
  ge : base ≤ g
  blk : BlkIs w g 82 #[kv, vv]
  keys : SlIs w base 9 1 kv l.length (scells l)
  vals : SlIs w base 86 0 vv l.length []
  rise : Rise l
theorem StrSet.chg {S : Nat → Prop} {w w' : World} {base g : Nat} {kv vv : Value} {l : List ByteArray} (h : StrSet w base g kv vv l) (hc : Chg S w w') (hn : ∀ k, Own_ g kv vv k → ¬ S k) : StrSet w' base g kv vv l :=
  ⟨h.ge, hc.blk h.blk (hn g (Or.inl rfl)), hc.sl h.keys fun k hk => hn k (Or.inr (Or.inl hk)), hc.sl h.vals fun k hk => hn k (Or.inr (Or.inr hk)), h.rise⟩
theorem StrSet.later {w w' : World} {base g : Nat} {kv vv : Value} {l : List ByteArray} (h : StrSet w base g kv vv l) (hb : Below w.heap.size w w') : StrSet w' base g kv vv l :=
  h.chg (S := fun _ => False) (.of_below hb) fun _ _ h => h
theorem StrSet.mono {w : World} {base base' g : Nat} {kv vv : Value} {l : List ByteArray} (h : StrSet w base g kv vv l) (hb : base' ≤ base) : StrSet w base' g kv vv l :=
  ⟨Nat.le_trans hb h.ge, h.blk, h.keys.mono hb, h.vals.mono hb, h.rise⟩
theorem StrSet.own {w : World} {base g : Nat} {kv vv : Value} {l : List ByteArray} (h : StrSet w base g kv vv l) {k : Nat} (hk : Own_ g kv vv k) : base ≤ k ∧ k < w.heap.size := by
  rcases hk with rfl | hk | hk
  · exact ⟨h.ge, h.blk.lt⟩
  · exact h.keys.lt k hk
  · exact h.vals.lt k hk
theorem all_string (g : Nat) (w : World) (h : g < w.heap.size) (kv vv : Value) (hb : BlkIs w g 82 #[kv, vv]) : Calls Tryz.prog 37 #[.pointer (some ⟨g, 0, none⟩)] w fun e w' => e = .returned (.pointer (some ⟨g, 0, none⟩)) ∧ w = w' := by
  have c0 : w.cell? ⟨g, 0, none⟩ = some kv := hb.cell 0
  clear hb
  go_enter Tryz.func37, Tryz.ntmps37
  go_wp2_with fail
  go_ret
  exact ⟨rfl, rfl⟩
theorem find_string (base g : Nat) (kv vv : Value) (l : List ByteArray) (x : ByteArray) (w : World) (h : StrSet w base g kv vv l) (hn : l.length ≤ 1000000) :
    Calls Tryz.prog 55 #[.pointer (some ⟨g, 0, none⟩), Value.string x] w fun e w' => e = .returned (.tuple #[.int .i64 ((pos l x : Nat) : Int), .bool (has l x)]) ∧ DrawsOf w w' := by
  have S := Lib.hid (search_string kv l x w (StrAt.of_sl h.keys) h.rise hn)
  have c0 : w.cell? ⟨g, 0, none⟩ = some kv := h.blk.cell 0
  obtain ⟨ao, cap, rfl, -, -, -⟩ := h.keys.form
  obtain ⟨p, hp⟩ : ∃ p, p = pos l x := ⟨_, rfl⟩
  obtain ⟨b, hb⟩ : ∃ b, b = has l x := ⟨_, rfl⟩
  rw [← hp, ← hb] at S ⊢
  clear h hn hp hb
  go_enter Tryz.func55, Tryz.ntmps55
  go_wp2_with fail
  refine S.out.mono ?_
  rintro e w1 ⟨rfl, hd⟩
  have HD := Lib.hid hd
  clear S hd
  go_wp2_with fail
  go_ret2
  exact ⟨rfl, HD.out⟩
theorem keys_string (base g : Nat) (kv vv : Value) (l : List ByteArray) (w : World) (h : StrSet w base g kv vv l) (hn : l.length ≤ 1000000) :
    Calls Tryz.prog 40 #[.pointer (some ⟨g, 0, none⟩)] w fun e w' => ∃ v', e = .returned v' ∧ SlIs w' w.heap.size 9 1 v' l.length (scells l) ∧ Below w.heap.size w w' := by
  have c0 : w.cell? ⟨g, 0, none⟩ = some kv := h.blk.cell 0
  have C := Lib.hid (clone_string kv l w (StrAt.of_sl h.keys) hn)
  obtain ⟨ao, cap, rfl, -, -, -⟩ := h.keys.form
  clear h hn
  go_enter Tryz.func40, Tryz.ntmps40
  go_wp2_with fail
  refine C.out.mono ?_
  rintro e w1 ⟨v', rfl, hs, hb⟩
  have H := Lib.hid (And.intro hs hb)
  clear C hs hb
  go_wp2_with fail
  go_ret
  exact ⟨_, rfl, H.out⟩
theorem list_string (base g : Nat) (kv vv : Value) (l : List ByteArray) (w : World) (h : StrSet w base g kv vv l) (hn : l.length ≤ 1000000) :
    Calls Tryz.prog 20 #[.pointer (some ⟨g, 0, none⟩)] w fun e w' => ∃ v', e = .returned v' ∧ SlIs w' w.heap.size 9 1 v' l.length (scells l) ∧ Below w.heap.size w w' := by
  have A := Lib.hid (all_string g w h.blk.lt kv vv h.blk)
  have S := Lib.hid (keys_string base g kv vv l w h hn)
  clear h hn
  go_enter Tryz.func20, Tryz.ntmps20
  go_wp2_with fail
  refine A.out.mono ?_
  rintro e w1 ⟨rfl, rfl⟩
  clear A
  go_wp2_with fail
  refine S.out.mono ?_
  rintro e w1 ⟨v', rfl, hs, hb⟩
  have H := Lib.hid (And.intro hs hb)
  clear S hs hb
  go_wp2_with fail
  go_ret
  exact ⟨_, rfl, H.out⟩
end Go.Proofs.YthcgdpdijdmelaaGreat.Set

/- shelf.Set[string].Add, walked; Of. Conditions: fewer than 1,000,000 things. (Layer 08.) -/
namespace Go.Proofs.YthcgdpdijdmelaaGreat.Set
set_option linter.unusedVariables false
open Go.RowKit Go.Sort Go.Lib
/-- What Put leaves. -/
def StrPut (base g : Nat) (kv vv : Value) (l : List ByteArray) (x : ByteArray) (w w' : World) (e : Ending) : Prop :=
  ∃ kv' vv', e = .returned (.bool (!has l x)) ∧ StrSet w' base g kv' vv' (ins x l) ∧ Chg (Own_ g kv vv) w w' ∧ ∀ k, Own_ g kv' vv' k → Own_ g kv vv k ∨ w.heap.size ≤ k
set_option maxRecDepth 100000 in
set_option maxHeartbeats 2000000 in
theorem put_string (base g : Nat) (kv vv : Value) (l : List ByteArray) (x : ByteArray) (w : World) (h : StrSet w base g kv vv l) (hn : l.length < 1000000) :
    Calls Tryz.prog 38 #[.pointer (some ⟨g, 0, none⟩), Value.string x, .agg #[]] w fun e w' => StrPut base g kv vv l x w w' e := by
  have hB := h.later ((Below.refl w.heap.size w).alloc (Nat.le_refl _) (.cells #[] 86))
  have H0 := Lib.hid (show ∃ W, W = w.alloc (.cells #[] 86) ∧ StrSet W base g kv vv l ∧ BlkIs W w.heap.size 86 #[] ∧ Below w.heap.size w W from ⟨_, rfl, hB, BlkIs.new _ _ _, (Below.refl _ _).alloc (Nat.le_refl _) _⟩)
  have hgl := h.blk.lt
  have hbl : base ≤ w.heap.size := Nat.le_trans h.ge (Nat.le_of_lt hgl)
  have HG := Lib.hid (And.intro hgl hbl)
  have HH := Lib.hid h
  clear hB h hgl hbl
  go_enter Tryz.func38, Tryz.ntmps38
  go_wp2_with fail
  obtain ⟨W, hW, H0⟩ := H0.out
  rw [← hW]
  have H0 := Lib.hid H0
  clear hW
  obtain ⟨p, hp⟩ : ∃ p, p = pos l x := ⟨_, rfl⟩
  have F := Lib.hid (find_string base g kv vv l x W H0.out.1 (by omega))
  rw [← hp] at F
  have hpl : p ≤ l.length := by rw [hp]; exact pos_le l x
  have HP := Lib.hid hp
  clear hp
  by_cases hx : x ∈ l
  · rw [has_true hx] at F
    have HX := Lib.hid hx
    obtain ⟨hpl', _⟩ := pos_at HH.out.rise hx
    rw [← HP.out] at hpl'
    clear hx
    refine F.out.mono ?_
    rintro e w1 ⟨rfl, hd⟩
    obtain ⟨q, rfl⟩ := hd
    clear F
    have c1 : W.cell? ⟨g, 1, none⟩ = some vv := H0.out.1.blk.cell 1
    rcases unit_at H0.out.1.vals with ⟨_, h0⟩ | ⟨b, off, cap, rfl, _, hbw, hc, hm⟩
    · exact absurd hpl' (by omega)
    have k0 : (p : Int) < l.length := by omega
    go_wp2_with fail
    go_region
    go_wp2_with fail
    go_ret
    have hdr := ((DrawsOf.refl W).drewN (q + 1)).below W.heap.size
    refine ⟨kv, _, by rw [has_true HX.out]; rfl, by rw [ins_of HX.out]; exact H0.out.1.later hdr, Chg.of_below (H0.out.2.2.trans (hdr.mono H0.out.2.2.size)), fun k hk => Or.inl hk⟩
  · rw [has_false hx] at F
    have HX := Lib.hid hx
    clear hx
    refine F.out.mono ?_
    rintro e w1 ⟨rfl, hd⟩
    obtain ⟨q, rfl⟩ := hd
    clear F
    obtain ⟨ak, ck, rfl, -, -, -⟩ := H0.out.1.keys.form
    obtain ⟨av, cv, rfl, -, -, -⟩ := H0.out.1.vals.form
    obtain ⟨W1, hW1⟩ : ∃ W1, W1 = W.drewN q := ⟨_, rfl⟩
    have hdr := ((DrawsOf.refl W).drewN q).below W.heap.size
    have H1 := Lib.hid (show StrSet W1 base g (.slice ak l.length ck) (.slice av l.length cv) l ∧ BlkIs W1 w.heap.size 86 #[] ∧ Below w.heap.size w W1 from by
      rw [hW1]; exact ⟨H0.out.1.later hdr, H0.out.2.1, H0.out.2.2.trans (hdr.mono H0.out.2.2.size)⟩)
    rw [← hW1]
    clear hW1 hdr
    obtain ⟨W2, hW2⟩ : ∃ W2, W2 = W1.alloc (.cells #[Value.string x] 9) := ⟨_, rfl⟩
    have hb2 : Below W1.heap.size W1 W2 := by rw [hW2]; exact (Below.refl _ _).alloc (Nat.le_refl _) _
    have hz2 : W2.heap.size = W1.heap.size + 1 := by rw [hW2]; simp
    have H2 := Lib.hid (show StrSet W2 base g (.slice ak l.length ck) (.slice av l.length cv) l ∧ BlkIs W2 w.heap.size 86 #[] ∧ BlkIs W2 W1.heap.size 9 #[Value.string x] ∧ Below w.heap.size w W2 from by
      refine ⟨H1.out.1.later hb2, H1.out.2.1.below hb2 H1.out.2.1.lt, ?_, H1.out.2.2.trans (hb2.mono H1.out.2.2.size)⟩
      rw [hW2]; exact BlkIs.new _ _ _)
    have I := Lib.hid (insert_string base p (.slice ak l.length ck) l x W1.heap.size W2 H2.out.1.keys hpl (by omega) (Nat.le_trans HG.out.2 H2.out.2.2.2.size) H2.out.2.2.1 (fun e => by have := (H1.out.1.keys.lt _ e).2; omega))
    have HW2 := Lib.hid hW2
    have c0 : W1.cell? ⟨g, 0, none⟩ = some (.slice ak l.length ck) := H1.out.1.blk.cell 0
    have d0 : W2.cell? ⟨g, 0, none⟩ = some (.slice ak l.length ck) := H2.out.1.blk.cell 0
    clear hW2 hb2
    go_wp2_with fail
    rw [← HW2.out]
    refine I.out.mono ?_
    rintro e W3 ⟨v3, rfl, hs3, hg3, ho3⟩
    have hk3 : BlkIs W3 g 82 #[.slice ak l.length ck, .slice av l.length cv] := H2.out.1.blk.grown hg3 (fun e => H2.out.1.keys.ne_blk H2.out.1.blk (by decide) e.symm)
    have hv3 : SlIs W3 base 86 0 (.slice av l.length cv) l.length [] := H2.out.1.vals.kept hg3 (sl_apart H2.out.1.vals H2.out.1.keys (by decide))
    obtain ⟨a3, cap3, rfl, -, -, -⟩ := hs3.form
    have H3 := Lib.hid (And.intro hs3 (And.intro hk3 (And.intro hv3 (And.intro hg3 ho3))))
    have c3 : W3.cell? ⟨g, 0, none⟩ = some (.slice ak l.length ck) := hk3.cell 0
    have f3 := hk3.free 0
    clear I hs3 hk3 hv3 hg3 ho3 c0 d0
    go_wp2_with fail
    obtain ⟨W4, hW4⟩ : ∃ W4, W4 = W3.setCell ⟨g, 0, none⟩ (.slice a3 (l.length + 1) cap3) := ⟨_, rfl⟩
    have H4 := Lib.hid (show BlkIs W4 g 82 #[.slice a3 (l.length + 1) cap3, .slice av l.length cv] ∧ SlIs W4 base 9 1 (.slice a3 (l.length + 1) cap3) (l.length + 1) (scells (l.take p ++ x :: l.drop p)) ∧ SlIs W4 base 86 0 (.slice av l.length cv) l.length [] ∧
        Chg (Own_ g (.slice ak l.length ck) (.slice av l.length cv)) w W4 from by
      rw [hW4]
      refine ⟨?_, H3.out.1.far (H3.out.1.ne_blk H3.out.2.1 (by decide)) _, H3.out.2.2.1.far (H3.out.2.2.1.ne_blk H3.out.2.1 (by decide)) _, ?_⟩
      · have := H3.out.2.1.put 0 (.slice a3 (l.length + 1) cap3)
        simpa using this
      · refine Chg.setCell ?_ (Or.inl (Or.inl rfl)) _
        exact (Chg.of_below H2.out.2.2.2).trans (.of_grown H3.out.2.2.2.1 fun k hk => Or.inl (Or.inr (Or.inl hk))))
    rw [← hW4]
    have c4 : W4.cell? ⟨g, 1, none⟩ = some (.slice av l.length cv) := H4.out.1.cell 1
    clear hW4 c3 f3
    have mixed : Tryz.prog.follows .mixedOrders = true := by kernel_rfl
    obtain ⟨W5, hW5⟩ : ∃ W5, W5 = (W4.alloc (.cells #[] 86)).drew := ⟨_, rfl⟩
    have hb5 : Below W4.heap.size W4 W5 := by rw [hW5]; exact below_drewN ((Below.refl _ _).alloc (Nat.le_refl _) _) 1
    have IU := Lib.hid (insert_unit base l.length p (.slice av l.length cv) W4.heap.size W5 (H4.out.2.2.1.later hb5) hpl (by unfold maxLen; omega) (Nat.le_trans HG.out.2 (Nat.le_trans H4.out.2.2.2.size hb5.size)) (by rw [hW5]; exact (BlkIs.new W4 86 #[]).drew))
    have H5 := Lib.hid (show BlkIs W5 g 82 #[.slice a3 (l.length + 1) cap3, .slice av l.length cv] ∧ SlIs W5 base 9 1 (.slice a3 (l.length + 1) cap3) (l.length + 1) (scells (l.take p ++ x :: l.drop p)) ∧ SlIs W5 base 86 0 (.slice av l.length cv) l.length [] ∧
        Chg (Own_ g (.slice ak l.length ck) (.slice av l.length cv)) w W5 from
      ⟨H4.out.1.below hb5 H4.out.1.lt, H4.out.2.1.later hb5, H4.out.2.2.1.later hb5, H4.out.2.2.2.trans (Chg.of_below hb5)⟩)
    rw [hW5] at IU
    have HW5 := Lib.hid hW5
    have hg4 : g < W4.heap.size := H4.out.1.lt
    clear hW5 hb5
    go_region_law (first
      | (go_simp; go_at_call 56; refine IU.out.mono ?_
         rintro e W6 ⟨v6, rfl, hs6, hg6, ho6⟩
         rw [← HW5.out] at hg6 ho6
         have hk6 : BlkIs W6 g 82 #[.slice a3 (l.length + 1) cap3, .slice av l.length cv] := H5.out.1.grown hg6 (fun e => H5.out.2.2.1.ne_blk H5.out.1 (by decide) e.symm)
         have hv6 : SlIs W6 base 9 1 (.slice a3 (l.length + 1) cap3) (l.length + 1) (scells (l.take p ++ x :: l.drop p)) := H5.out.2.1.kept hg6 (sl_apart H5.out.2.1 H5.out.2.2.1 (by decide))
         obtain ⟨a6, cap6, rfl, -, -, -⟩ := hs6.form
         have c6 : W6.cell? ⟨g, 1, none⟩ = some (.slice av l.length cv) := hk6.cell 1
         have f6 := hk6.free 1
         have H6 := Lib.hid (And.intro hs6 (And.intro hk6 (And.intro hv6 (And.intro ((H5.out.2.2.2).trans (.of_grown hg6 fun k hk => Or.inl (Or.inr (Or.inr hk)))) ho6))))
         clear hs6 hk6 hv6 hg6 ho6))
    all_goals
      clear c4 c6 f6 IU
      go_wp2_with fail
      go_ret
      have hch : Chg (Own_ g (.slice ak l.length ck) (.slice av l.length cv)) w (W6.setCell ⟨g, 1, none⟩ (.slice a6 (l.length + 1) cap6)) := H6.out.2.2.2.1.setCell (Or.inl (Or.inl rfl)) _
      have hbk : BlkIs (W6.setCell ⟨g, 1, none⟩ (.slice a6 (l.length + 1) cap6)) g 82 #[.slice a3 (l.length + 1) cap3, .slice a6 (l.length + 1) cap6] := by
        have := H6.out.2.1.put 1 (.slice a6 (l.length + 1) cap6)
        simpa using this
      have hins : ins x l = l.take p ++ x :: l.drop p := by rw [ins_new HX.out, HP.out]
      have hil : (ins x l).length = l.length + 1 := ins_length HX.out
      refine ⟨_, _, by rw [has_false HX.out]; rfl, ⟨HH.out.ge, hbk, ?_, ?_, ins_rise HH.out.rise⟩, hch, ?_⟩
      · rw [hil, hins]
        exact H6.out.2.2.1.far (H6.out.2.2.1.ne_blk H6.out.2.1 (by decide)) _
      · rw [hil]
        exact H6.out.1.far (H6.out.1.ne_blk H6.out.2.1 (by decide)) _
      · rintro k (rfl | hk | hk)
        · exact Or.inl (Or.inl rfl)
        · rcases H3.out.2.2.2.2 with e | e
          · exact Or.inl (Or.inr (Or.inl (by rw [← e]; exact hk)))
          · refine Or.inr ?_
            have h1 := H2.out.2.2.2.size
            have e' : some k = some W2.heap.size := hk.symm.trans e
            injection e' with e'
            omega
        · rcases H6.out.2.2.2.2 with e | e
          · exact Or.inl (Or.inr (Or.inr (by rw [← e]; exact hk)))
          · refine Or.inr ?_
            have h1 := H5.out.2.2.2.size
            have e' : some k = some W5.heap.size := hk.symm.trans e
            injection e' with e'
            omega
end Go.Proofs.YthcgdpdijdmelaaGreat.Set

/- shelf.Set[string].Add; shelf.Of, walked. (Layer 08.) -/
namespace Go.Proofs.YthcgdpdijdmelaaGreat.Set
set_option linter.unusedVariables false
open Go.RowKit Go.Sort Go.Lib
theorem add_string (base g : Nat) (kv vv : Value) (l : List ByteArray) (x : ByteArray) (w : World) (h : StrSet w base g kv vv l) (hn : l.length < 1000000) :
    Calls Tryz.prog 18 #[.pointer (some ⟨g, 0, none⟩), Value.string x] w fun e w' => StrPut base g kv vv l x w w' e := by
  have A := Lib.hid (all_string g w h.blk.lt kv vv h.blk)
  have S := Lib.hid (put_string base g kv vv l x w h hn)
  obtain ⟨Q, hQ⟩ : ∃ Q, Q = StrPut base g kv vv l x w := ⟨_, rfl⟩
  have HR : Hid (∀ w' e, Q w' e → ∃ b, e = .returned (.bool b)) := Lib.hid (by rw [hQ]; rintro w' e ⟨kv', vv', he, _⟩; exact ⟨_, he⟩)
  rw [← hQ] at S ⊢
  clear h hn hQ
  go_enter Tryz.func18, Tryz.ntmps18
  go_wp2_with fail
  refine A.out.mono ?_
  rintro e w1 ⟨rfl, rfl⟩
  clear A
  go_wp2_with fail
  refine S.out.mono ?_
  rintro e w1 hq
  obtain ⟨b, rfl⟩ := HR.out w1 e hq
  have HQ := Lib.hid hq
  clear S hq HR
  go_wp2_with fail
  exact HQ.out
/-- What Of leaves. -/
def StrOf (list : List ByteArray) (w w' : World) (e : Ending) : Prop := ∃ g kv vv l, e = .returned (.pointer (some ⟨g, 0, none⟩)) ∧ IsOf list l ∧ StrSet w' w.heap.size g kv vv l ∧ Below w.heap.size w w'
set_option maxRecDepth 100000 in
theorem of_string (v : Value) (list : List ByteArray) (w : World) (h : StrAt w v list) (hn : list.length ≤ 1000000) :
    Calls Tryz.prog 17 #[v] w fun e w' => StrOf list w w' e := by
  have C := Lib.hid (clone_string v list w h hn)
  obtain ⟨ao, cap, rfl, -, -, -⟩ := h
  go_enter Tryz.func17, Tryz.ntmps17
  go_wp2_with fail
  refine C.out.mono ?_
  rintro e w1 ⟨v1, rfl, hs1, hb1⟩
  have H1 := Lib.hid (And.intro hs1 hb1)
  have S := Lib.hid (sort_string _ _ list w1 hs1 hn)
  clear C hs1 hb1
  go_wp2_with fail
  refine S.out.mono ?_
  rintro e w2 ⟨rfl, hs2, hg2⟩
  obtain ⟨sl, hsl⟩ : ∃ sl, sl = (bsort list) := ⟨_, rfl⟩
  have hlen : sl.length = list.length := by rw [hsl]; exact bsort_length _
  rw [← hsl, ← hlen] at hs2
  have K := Lib.hid (compact_string _ _ sl w2 hs2 (by omega))
  have HO := Lib.hid (sorted_isOf_string list)
  rw [← hsl] at HO
  have H2 := Lib.hid (show SlIs w2 w.heap.size 9 1 v1 sl.length (scells sl) ∧ Below w.heap.size w w2 from ⟨hs2, H1.out.2.grown hg2 H1.out.2.size fun j hj => (H1.out.1.lt j hj).1⟩)
  clear S hs2 hg2 hsl
  go_wp2_with fail
  refine K.out.mono ?_
  rintro e w3 ⟨v3, rfl, hs3, hg3, ho3⟩
  obtain ⟨l, hl⟩ : ∃ l, l = bcompact sl := ⟨_, rfl⟩
  have hkl := bcompact_le sl
  rw [← hl] at hs3 HO hkl
  have hll : l.length ≤ 1000000 := by omega
  obtain ⟨a3, c3, rfl, -, -, -⟩ := hs3.form
  have H3 := Lib.hid (show SlIs w3 w.heap.size 9 1 (.slice a3 l.length c3) l.length (scells l) ∧ Below w.heap.size w w3 from ⟨hs3, H2.out.2.grown hg3 H2.out.2.size fun j hj => (H2.out.1.lt j hj).1⟩)
  have mk := make_unit
  have k0 : (l.length : Int) ≤ 9223372036854775807 := by omega
  have HLL := Lib.hid (And.intro hll HO.out)
  clear K hs3 hg3 ho3 hl hkl hll HO
  go_wp2_with fail
  go_ret
  refine ⟨w3.heap.size + 1, _, _, l, by simp, HLL.out.2, ⟨Nat.le_trans H3.out.2.size (by omega), BlkIs.new2 _ _ _ _, ?_, ?_, HLL.out.2.1⟩, ?_⟩
  · exact (H3.out.1.alloc _).alloc _
  · refine SlIs.alloc ⟨by simp, .inr ⟨w3.heap.size, 0, _, #[], rfl, H3.out.2.size, (BlkIs.new w3 86 #[]).toRow, Nat.le_refl _, by unfold maxLen; have := HLL.out.1; omega, by simp, fun j hj => absurd hj (Nat.not_lt_zero _)⟩⟩ _
  · exact (H3.out.2.alloc H3.out.2.size _).alloc (by simp; exact Nat.le_succ_of_le H3.out.2.size) _
end Go.Proofs.YthcgdpdijdmelaaGreat.Set

