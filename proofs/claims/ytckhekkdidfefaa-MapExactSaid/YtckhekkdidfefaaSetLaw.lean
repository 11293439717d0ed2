/- Sets as rising lists: plain laws, over any elements with a strict order. No program. (Layer 08.) -/
import Derived.Test.YtckhekkdidfefaaSlOps
import Derived.Lib.SlicesCompact
namespace Go.Proofs.Ytckhekkdidfefaa.Set
set_option linter.unusedVariables false
/-- Elements that stand in an order. -/
class El (α : Type) where
  lt : α → α → Prop
  dec : ∀ a b, Decidable (lt a b)
  irr : ∀ a, ¬ lt a a
  tr : ∀ {a b c}, lt a b → lt b c → lt a c
  tri : ∀ a b, lt a b ∨ a = b ∨ lt b a
instance (α : Type) [El α] (a b : α) : Decidable (El.lt a b) := El.dec a b
instance : El Int where
  lt a b := a < b
  dec a b := inferInstance
  irr a := by omega
  tr h k := by omega
  tri a b := by omega
theorem bytes_inj {s t : ByteArray} (h : s.data.toList = t.data.toList) : s = t := by
  apply ByteArray.ext
  apply Array.ext'
  exact h
instance : El ByteArray where
  lt a b := a.data.toList < b.data.toList
  dec a b := inferInstance
  irr a := List.lt_irrefl _
  tr h k := List.lt_trans h k
  tri a b := by
    rcases List.le_total a.data.toList b.data.toList with h | h
    · rcases List.le_iff_lt_or_eq.1 h with h | h
      · exact Or.inl h
      · exact Or.inr (Or.inl (bytes_inj h))
    · rcases List.le_iff_lt_or_eq.1 h with h | h
      · exact Or.inr (Or.inr h)
      · exact Or.inr (Or.inl (bytes_inj h).symm)
variable {α : Type} [El α]
def Rise (l : List α) : Prop := l.Pairwise El.lt
/-- How many stand below. -/
def pos (l : List α) (x : α) : Nat := l.countP fun y => decide (El.lt y x)
theorem pos_le (l : List α) (x : α) : pos l x ≤ l.length := List.countP_le_length
theorem pos_nil (x : α) : pos [] x = 0 := rfl
theorem pos_cons_pos {y : α} {l : List α} {x : α} (h : El.lt y x) : pos (y :: l) x = pos l x + 1 := by unfold pos; rw [List.countP_cons_of_pos (by simpa using h)]
theorem pos_zero {y : α} {l : List α} {x : α} (hr : Rise (y :: l)) (h : ¬ El.lt y x) : pos (y :: l) x = 0 := by
  have hp := List.pairwise_cons.1 hr
  unfold pos
  rw [List.countP_eq_zero]
  intro z hz
  rcases List.mem_cons.1 hz with rfl | hz
  · simpa using h
  · have h1 := hp.1 z hz
    simp only [decide_eq_true_eq]
    intro h2
    exact h (El.tr h1 h2)
open Classical in
/-- With one more. -/
noncomputable def ins (x : α) (l : List α) : List α := if x ∈ l then l else l.take (pos l x) ++ x :: l.drop (pos l x)
theorem ins_of {x : α} {l : List α} (h : x ∈ l) : ins x l = l := if_pos h
theorem ins_new {x : α} {l : List α} (h : ¬ x ∈ l) : ins x l = l.take (pos l x) ++ x :: l.drop (pos l x) := if_neg h
theorem mem_ins {x y : α} {l : List α} : y ∈ ins x l ↔ y = x ∨ y ∈ l := by
  unfold ins
  split
  · next h => exact ⟨Or.inr, fun h' => by rcases h' with rfl | h'; exact h; exact h'⟩
  · rw [List.mem_append, List.mem_cons]
    constructor
    · rintro (h | h | h)
      · exact Or.inr (List.mem_of_mem_take h)
      · exact Or.inl h
      · exact Or.inr (List.mem_of_mem_drop h)
    · rintro (h | h)
      · exact Or.inr (Or.inl h)
      · rw [← List.take_append_drop (pos l x) l, List.mem_append] at h
        rcases h with h | h
        · exact Or.inl h
        · exact Or.inr (Or.inr h)
theorem ins_rise {x : α} : ∀ {l : List α}, Rise l → Rise (ins x l)
  | [], _ => by
    unfold ins
    simp [pos, Rise]
  | y :: l, hr => by
    by_cases hm : x ∈ y :: l
    · rw [ins_of hm]; exact hr
    · have hp := List.pairwise_cons.1 hr
      have hxy : x ≠ y := fun e => hm (by simp [e])
      have hml : ¬ x ∈ l := fun h => hm (by simp [h])
      rw [ins_new hm]
      by_cases hlt : El.lt y x
      · rw [pos_cons_pos hlt, List.take_succ_cons, List.drop_succ_cons, List.cons_append]
        have ih := ins_rise (x := x) hp.2
        have e := ins_new hml
        rw [e] at ih
        refine List.pairwise_cons.2 ⟨fun z hz => ?_, ih⟩
        rw [← e] at hz
        rcases mem_ins.1 hz with rfl | hz
        · exact hlt
        · exact hp.1 z hz
      · rw [pos_zero hr hlt, List.take_zero, List.drop_zero, List.nil_append]
        have hxy' : El.lt x y := by
          rcases El.tri x y with h | h | h
          · exact h
          · exact absurd h hxy
          · exact absurd h hlt
        refine List.pairwise_cons.2 ⟨fun z hz => ?_, hr⟩
        rcases List.mem_cons.1 hz with rfl | hz
        · exact hxy'
        · exact El.tr hxy' (hp.1 z hz)
theorem ins_length {x : α} {l : List α} (h : ¬ x ∈ l) : (ins x l).length = l.length + 1 := by
  rw [ins_new h, List.length_append, List.length_cons, List.length_take, List.length_drop]
  have := pos_le l x
  omega
/-- Rising lists of the same things are the same. -/
theorem rise_ext {l m : List α} (hl : Rise l) (hm : Rise m) (h : ∀ x, x ∈ l ↔ x ∈ m) : l = m := by
  refine List.Perm.eq_of_pairwise (le := El.lt) (fun a b _ _ h1 h2 => absurd (El.tr h1 h2) (El.irr _)) hl hm ?_
  have nd : ∀ {k : List α}, Rise k → k.Nodup := fun h => h.imp fun {a b} h e => by subst e; exact El.irr _ h
  exact (List.perm_ext_iff_of_nodup (nd hl) (nd hm)).2 h
theorem rise_filter {l : List α} (hl : Rise l) (p : α → Bool) : Rise (l.filter p) := List.Pairwise.filter p hl
/-- The list that a set of things has. -/
def IsOf (list l : List α) : Prop := Rise l ∧ ∀ x, x ∈ l ↔ x ∈ list
theorem isOf_unique {list l m : List α} (h : IsOf list l) (k : IsOf list m) : l = m := rise_ext h.1 k.1 fun x => (h.2 x).trans (k.2 x).symm
/-- Where a thing stands. -/
theorem pos_at {l : List α} (hl : Rise l) {x : α} (h : x ∈ l) : ∃ hp : pos l x < l.length, l[pos l x] = x := by
  induction l with
  | nil => cases h
  | cons y r ih =>
    have hp := List.pairwise_cons.1 hl
    by_cases hlt : El.lt y x
    · have hx : x ∈ r := by
        rcases List.mem_cons.1 h with rfl | h
        · exact absurd hlt (El.irr _)
        · exact h
      obtain ⟨h1, h2⟩ := ih hp.2 hx
      refine ⟨by rw [pos_cons_pos hlt, List.length_cons]; omega, ?_⟩
      simp only [pos_cons_pos hlt, List.getElem_cons_succ]
      exact h2
    · have hx : x = y := by
        rcases List.mem_cons.1 h with rfl | h
        · rfl
        · exact absurd (hp.1 x h) hlt
      refine ⟨by rw [pos_zero hl hlt]; simp, ?_⟩
      simp only [pos_zero hl hlt, List.getElem_cons_zero]
      exact hx.symm
/-- The library's compact of a list that does not fall. -/
theorem compact_upto {β : Type} [El β] [Inhabited β] [DecidableEq β] (d : Array β) (hs : ∀ i j, i < j → j < d.size → ¬ El.lt d[j]! d[i]!) : ∀ m, m ≤ d.size →
    Rise (Lib.compactUpTo d m) ∧ ∀ x, x ∈ Lib.compactUpTo d m ↔ ∃ j, j < m ∧ d[j]! = x
  | 0, _ => ⟨List.Pairwise.nil, fun x => ⟨fun h => (by cases h), fun ⟨j, hj, _⟩ => absurd hj (Nat.not_lt_zero _)⟩⟩
  | m + 1, hm => by
    obtain ⟨h1, h2⟩ := compact_upto d hs m (by omega)
    rw [Lib.compactUpTo_succ]
    by_cases hk : m = 0 ∨ d[m]! ≠ d[m - 1]!
    · have hkt : Lib.keeps d m = true := by
        rcases hk with rfl | hk
        · exact Lib.keeps_lt_one d 0 (by omega)
        · exact Lib.keeps_pos hk
      rw [if_pos hkt]
      have hlt : ∀ x ∈ Lib.compactUpTo d m, El.lt x d[m]! := by
        intro x hx
        obtain ⟨j, hj, rfl⟩ := (h2 x).1 hx
        rcases El.tri d[j]! d[m]! with h | h | h
        · exact h
        · exfalso
          rcases hk with rfl | hk
          · exact absurd hj (Nat.not_lt_zero _)
          · rcases El.tri d[m]! d[m - 1]! with h3 | h3 | h3
            · exact hs (m - 1) m (by omega) (by omega) h3
            · exact hk h3
            · rw [← h] at h3
              rcases Nat.lt_or_ge j (m - 1) with h4 | h4
              · exact hs j (m - 1) h4 (by omega) h3
              · obtain rfl : j = m - 1 := by omega
                exact El.irr _ h3
        · exact absurd h (hs j m hj (by omega))
      refine ⟨List.pairwise_append.2 ⟨h1, List.pairwise_singleton _ _, fun x hx y hy => by rcases List.mem_singleton.1 hy with rfl; exact hlt x hx⟩, fun x => ?_⟩
      rw [List.mem_append, h2, List.mem_singleton]
      constructor
      · rintro (⟨j, hj, rfl⟩ | rfl)
        · exact ⟨j, by omega, rfl⟩
        · exact ⟨m, by omega, rfl⟩
      · rintro ⟨j, hj, rfl⟩
        rcases Nat.lt_or_ge j m with h | h
        · exact Or.inl ⟨j, h, rfl⟩
        · obtain rfl : j = m := by omega
          exact Or.inr rfl
    · have h0 : ¬ m = 0 := fun e => hk (Or.inl e)
      have he : d[m]! = d[m - 1]! := Classical.byContradiction fun e => hk (Or.inr e)
      rw [if_neg (by rw [Lib.keeps_neg (by omega) he]; simp), List.append_nil]
      refine ⟨h1, fun x => ?_⟩
      rw [h2]
      constructor
      · rintro ⟨j, hj, rfl⟩
        exact ⟨j, by omega, rfl⟩
      · rintro ⟨j, hj, rfl⟩
        rcases Nat.lt_or_ge j m with h | h
        · exact ⟨j, h, rfl⟩
        · obtain rfl : j = m := by omega
          exact ⟨j - 1, by omega, he.symm⟩
theorem compact_isOf {β : Type} [El β] [Inhabited β] [DecidableEq β] {list zs : List β} (hp : zs.Perm list) (hs : zs.Pairwise fun a b => ¬ El.lt b a) : IsOf list (Lib.compact zs) := by
  have hget : ∀ i (h : i < zs.length), zs.toArray[i]! = zs[i] := fun i h => by simp [h]
  obtain ⟨h1, h2⟩ := compact_upto zs.toArray (fun i j hij hj => by
    have hj' : j < zs.length := by simpa using hj
    rw [hget j hj', hget i (by omega)]
    exact List.pairwise_iff_getElem.1 hs i j (by omega) hj' hij) zs.length (by simp)
  refine ⟨h1, fun x => (h2 x).trans ?_⟩
  rw [← hp.mem_iff]
  constructor
  · rintro ⟨j, hj, rfl⟩
    rw [hget j hj]
    exact List.getElem_mem hj
  · intro hx
    obtain ⟨j, hj, rfl⟩ := List.getElem_of_mem hx
    exact ⟨j, hj, hget j hj⟩
end Go.Proofs.Ytckhekkdidfefaa.Set
