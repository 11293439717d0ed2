/- Several texts in one. (Layer 12.) -/
import Derived.Test.YtbmknmjcoeinkaaGreatMkSet
import Derived.Test.YtbmknmjcoeinkaaGreatMk0
/- Rising lists as finite maps by a key; what two of them become. Plain, over any things. No program. (Layer 13.) -/
namespace Go.Proofs.YtbmknmjcoeinkaaGreat.Mg
set_option linter.unusedVariables false
open Set (El)
open Classical
theorem pair_ext {α : Type} {r : α → α → Prop} (irr : ∀ a, ¬ r a a) (tr : ∀ {a b c}, r a b → r b c → r a c) : ∀ {l m : List α}, l.Pairwise r → m.Pairwise r → (∀ x, x ∈ l ↔ x ∈ m) → l = m
  | [], [], _, _, _ => rfl
  | [], y :: m, _, _, h => absurd ((h y).2 (by simp)) (by simp)
  | x :: l, [], _, _, h => absurd ((h x).1 (by simp)) (by simp)
  | x :: l, y :: m, hl, hm, h => by
    obtain ⟨l1, l2⟩ := List.pairwise_cons.1 hl
    obtain ⟨m1, m2⟩ := List.pairwise_cons.1 hm
    have e : x = y := by
      apply Classical.byContradiction
      intro hne
      rcases List.mem_cons.1 ((h x).1 (by simp)) with h1 | h1
      · exact hne h1
      rcases List.mem_cons.1 ((h y).2 (by simp)) with h2 | h2
      · exact hne h2.symm
      exact irr x (tr (l1 y h2) (m1 x h1))
    subst e
    rw [pair_ext irr tr l2 m2 (fun z => ⟨fun hz => ?_, fun hz => ?_⟩)]
    · rcases List.mem_cons.1 ((h z).1 (List.mem_cons_of_mem _ hz)) with e | h1
      · exact absurd (e ▸ l1 z hz) (irr _)
      · exact h1
    · rcases List.mem_cons.1 ((h z).2 (List.mem_cons_of_mem _ hz)) with e | h1
      · exact absurd (e ▸ m1 z hz) (irr _)
      · exact h1
section
variable {α κ : Type} {key : α → κ}
/-- What stands at a key. -/
noncomputable def gk (key : α → κ) (l : List α) (k : κ) : Option α := l.find? fun x => decide (key x = k)
theorem gk_some {l : List α} {k : κ} {x : α} (h : gk key l k = some x) : x ∈ l ∧ key x = k := by
  unfold gk at h
  exact ⟨List.mem_of_find?_eq_some h, by simpa using List.find?_some h⟩
theorem gk_none {l : List α} {k : κ} : gk key l k = none ↔ ∀ x ∈ l, key x ≠ k := by
  unfold gk
  rw [List.find?_eq_none]
  simp
/-- Keys that each stand once. -/
def Uk (key : α → κ) (l : List α) : Prop := ∀ x ∈ l, ∀ y ∈ l, key x = key y → x = y
theorem gk_mem {l : List α} (h : Uk key l) {x : α} (hx : x ∈ l) : gk key l (key x) = some x := by
  cases hq : gk key l (key x) with
  | none => exact absurd rfl (gk_none.1 hq x hx)
  | some y =>
    obtain ⟨h1, h2⟩ := gk_some hq
    rw [h y h1 x hx h2]
theorem gk_iff {l : List α} (h : Uk key l) {k : κ} {x : α} : gk key l k = some x ↔ x ∈ l ∧ key x = k :=
  ⟨gk_some, fun ⟨h1, h2⟩ => by rw [← h2]; exact gk_mem h h1⟩
/-- What two become at a key: none says that they clash. -/
def mo (mt : α → α → Option α) : Option α → Option α → Option (Option α)
  | none, q => some q
  | some x, none => some (some x)
  | some x, some y => (mt x y).map some
def Clash (key : α → κ) (mt : α → α → Option α) (a b : List α) : Prop := ∃ k x y, gk key a k = some x ∧ gk key b k = some y ∧ mt x y = none
theorem clash_comm {mt : α → α → Option α} (hc : ∀ x y, key x = key y → mt x y = mt y x) {a b : List α} (h : Clash key mt a b) : Clash key mt b a := by
  obtain ⟨k, x, y, h1, h2, h3⟩ := h
  exact ⟨k, y, x, h2, h1, by rw [← hc x y (((gk_some h1).2).trans ((gk_some h2).2).symm)]; exact h3⟩
/-- One below another one. -/
def Bl (le : α → α → Prop) (a b : List α) : Prop := ∀ x ∈ a, ∃ y ∈ b, le x y
end
section
variable {α κ : Type} [El κ] {key : α → κ}
/-- By its keys a list rises. -/
def Rk (key : α → κ) (l : List α) : Prop := l.Pairwise fun a b => El.lt (key a) (key b)
theorem rk_key {l : List α} (h : Rk key l) {x y : α} (hx : x ∈ l) (hy : y ∈ l) (e : key x = key y) : x = y := by
  induction l with
  | nil => cases hx
  | cons a l ih =>
    obtain ⟨h1, h2⟩ := List.pairwise_cons.1 h
    rcases List.mem_cons.1 hx with hx | hx
    · rcases List.mem_cons.1 hy with hy | hy
      · rw [hx, hy]
      · have := h1 y hy
        rw [← hx, e] at this
        exact absurd this (El.irr _)
    · rcases List.mem_cons.1 hy with hy | hy
      · have := h1 x hx
        rw [← hy, e] at this
        exact absurd this (El.irr _)
      · exact ih h2 hx hy
theorem rk_uk {l : List α} (h : Rk key l) : Uk key l := fun _ hx _ hy e => rk_key h hx hy e
theorem rk_ext {l m : List α} (hl : Rk key l) (hm : Rk key m) (h : ∀ k, gk key l k = gk key m k) : l = m :=
  pair_ext (r := fun a b => El.lt (key a) (key b)) (fun a => El.irr _) (fun h k => El.tr h k) hl hm fun x => by
    constructor
    · intro hx
      have := gk_mem (rk_uk hl) hx
      rw [h] at this
      exact (gk_some this).1
    · intro hx
      have := gk_mem (rk_uk hm) hx
      rw [← h] at this
      exact (gk_some this).1
/-- The list that two become. -/
def JoinIs (key : α → κ) (mt : α → α → Option α) (a b out : List α) : Prop := Rk key out ∧ ∀ k, mo mt (gk key a k) (gk key b k) = some (gk key out k)
theorem join_unique {mt : α → α → Option α} {a b o o' : List α} (h : JoinIs key mt a b o) (h' : JoinIs key mt a b o') : o = o' :=
  rk_ext h.1 h'.1 fun k => by have h1 := h.2 k; rw [h'.2 k] at h1; exact (Option.some.inj h1).symm
theorem join_no_clash {mt : α → α → Option α} {a b o : List α} (h : JoinIs key mt a b o) : ¬ Clash key mt a b := by
  rintro ⟨k, x, y, h1, h2, h3⟩
  have h4 := h.2 k
  rw [h1, h2] at h4
  have h5 : (mt x y).map some = some (gk key o k) := h4
  rw [h3] at h5
  cases h5
/-- The join turned round. -/
theorem join_comm {mt : α → α → Option α} (hc : ∀ x y, key x = key y → mt x y = mt y x) {a b o : List α} (h : JoinIs key mt a b o) : JoinIs key mt b a o := by
  refine ⟨h.1, fun k => ?_⟩
  rw [← h.2 k]
  cases h1 : gk key a k with
  | none => cases h2 : gk key b k with
    | none => rfl
    | some y => rfl
  | some x => cases h2 : gk key b k with
    | none => rfl
    | some y =>
      show (mt y x).map some = (mt x y).map some
      rw [hc x y (((gk_some h1).2).trans ((gk_some h2).2).symm)]
theorem join_nil {mt : α → α → Option α} {a : List α} (h : Rk key a) : JoinIs key mt a [] a := ⟨h, fun k => by
  show mo mt (gk key a k) none = _
  cases gk key a k <;> rfl⟩
/-- Three of them, by two ways. -/
theorem join_assoc {mt : α → α → Option α} (ha : ∀ x y z p q, key x = key y → key y = key z → mt x y = some p → mt y z = some q → mt p z = mt x q) {a b c x z : List α}
    (hx : JoinIs key mt a b x) (hz : JoinIs key mt b c z) (k : κ) : mo mt (gk key x k) (gk key c k) = mo mt (gk key a k) (gk key z k) := by
  have h1 := hx.2 k
  have h2 := hz.2 k
  cases ea : gk key a k with
  | none =>
    rw [ea] at h1
    have e1 : gk key b k = gk key x k := Option.some.inj h1
    rw [← e1, h2]
    rfl
  | some u =>
    cases eb : gk key b k with
    | none =>
      rw [ea, eb] at h1
      rw [eb] at h2
      have e1 : some u = gk key x k := Option.some.inj h1
      have e2 : gk key c k = gk key z k := Option.some.inj h2
      rw [← e1, e2]
    | some v =>
      rw [ea, eb] at h1
      rw [eb] at h2
      cases ec : gk key c k with
      | none =>
        rw [ec] at h2
        have e2 : some v = gk key z k := Option.some.inj h2
        rw [← e2]
        show mo mt (gk key x k) none = mo mt (some u) (some v)
        rw [h1]
        cases gk key x k <;> rfl
      | some t =>
        rw [ec] at h2
        have hk1 : key u = key v := (gk_some ea).2.trans (gk_some eb).2.symm
        have hk2 : key v = key t := (gk_some eb).2.trans (gk_some ec).2.symm
        cases e1 : mt u v with
        | none => rw [show mo mt (some u) (some v) = (mt u v).map some from rfl, e1] at h1; cases h1
        | some p =>
          cases e2 : mt v t with
          | none => rw [show mo mt (some v) (some t) = (mt v t).map some from rfl, e2] at h2; cases h2
          | some q =>
            rw [show mo mt (some u) (some v) = (mt u v).map some from rfl, e1] at h1
            rw [show mo mt (some v) (some t) = (mt v t).map some from rfl, e2] at h2
            have g1 : some p = gk key x k := Option.some.inj h1
            have g2 : some q = gk key z k := Option.some.inj h2
            rw [← g1, ← g2]
            show (mt p t).map some = (mt u q).map some
            rw [ha u v t p q hk1 hk2 e1 e2]
end
end Go.Proofs.YtbmknmjcoeinkaaGreat.Mg

/- Rising lists as finite maps: joined one by one, and by putting in place and sorting. Plain. No program. (Layer 13.) -/
namespace Go.Proofs.YtbmknmjcoeinkaaGreat.Mg
set_option linter.unusedVariables false
open Set (El)
open Classical
section
variable {α κ : Type} {key : α → κ} {mt : α → α → Option α}
theorem gk_snoc {l : List α} {y : α} {k : κ} : gk key (l ++ [y]) k = (gk key l k).or (if key y = k then some y else none) := by
  unfold gk
  rw [List.find?_append, List.find?_singleton]
  by_cases h : key y = k <;> simp [h]
theorem gk_one {y : α} {k : κ} : gk key [y] k = if key y = k then some y else none := by
  unfold gk
  rw [List.find?_singleton]
  by_cases h : key y = k <;> simp [h]
theorem gk_snoc_new {l : List α} {y : α} (h : gk key l (key y) = none) : gk key (l ++ [y]) (key y) = some y := by
  rw [gk_snoc, h, if_pos rfl]; rfl
theorem gk_snoc_far {l : List α} {y : α} {k : κ} (h : key y ≠ k) : gk key (l ++ [y]) k = gk key l k := by
  rw [gk_snoc, if_neg h, Option.or_none]
theorem clash_more {a bs cs : List α} (h : Clash key mt a bs) (hs : ∀ k y, gk key bs k = some y → gk key cs k = some y) : Clash key mt a cs := by
  obtain ⟨k, x, y, h1, h2, h3⟩ := h
  exact ⟨k, x, y, h1, hs k y h2, h3⟩
theorem gk_take {l : List α} (h : Uk key l) (j : Nat) {k : κ} {y : α} (hy : gk key (l.take j) k = some y) : gk key l k = some y := by
  obtain ⟨h1, h2⟩ := gk_some hy
  exact (gk_iff h).2 ⟨List.mem_of_mem_take h1, h2⟩
theorem take_succ {l : List α} {k : Nat} (h : k < l.length) : l.take (k + 1) = l.take k ++ [l[k]] := List.take_succ_eq_append_getElem h
/-- Keys that stand at one place each. -/
def Ik (key : α → κ) (l : List α) : Prop := ∀ n p (hn : n < l.length) (hp : p < l.length), key l[n] = key l[p] → n = p
theorem ik_uk {l : List α} (h : Ik key l) : Uk key l := fun x hx y hy e => by
  obtain ⟨n, hn, rfl⟩ := List.getElem_of_mem hx
  obtain ⟨p, hp, rfl⟩ := List.getElem_of_mem hy
  have := h n p hn hp e
  subst this
  rfl
theorem gk_at {l : List α} {k : κ} {x : α} (h : gk key l k = some x) : ∃ i, ∃ hi : i < l.length, l[i] = x ∧ key x = k := by
  obtain ⟨h1, h2⟩ := gk_some h
  obtain ⟨i, hi, e⟩ := List.getElem_of_mem h1
  exact ⟨i, hi, e, h2⟩
end
section
variable {α κ : Type} [El κ] {key : α → κ} {mt : α → α → Option α}
/-- One more joined to what was joined. -/
theorem join_step {a bs o o' : List α} {y : α} (h : JoinIs key mt a bs o) (hn : gk key bs (key y) = none) (h' : JoinIs key mt o [y] o') : JoinIs key mt a (bs ++ [y]) o' := by
  refine ⟨h'.1, fun k => ?_⟩
  by_cases e : key y = k
  · subst e
    have h1 := h.2 (key y)
    have h2 := h'.2 (key y)
    rw [hn] at h1
    rw [gk_one, if_pos rfl] at h2
    rw [gk_snoc_new hn]
    have h3 : gk key o (key y) = gk key a (key y) := by
      cases ea : gk key a (key y) with
      | none => rw [ea] at h1; exact (Option.some.inj h1).symm
      | some x => rw [ea] at h1; exact (Option.some.inj h1).symm
    rw [← h2, h3]
  · have h1 := h.2 k
    have h2 := h'.2 k
    rw [gk_one, if_neg e] at h2
    rw [gk_snoc_far e, h1]
    cases eo : gk key o k with
    | none => rw [eo] at h2; exact h2
    | some x => rw [eo] at h2; exact h2
theorem clash_step {a bs o : List α} {y : α} (h : JoinIs key mt a bs o) (hn : gk key bs (key y) = none) (h' : Clash key mt o [y]) : Clash key mt a (bs ++ [y]) := by
  obtain ⟨k, x, z, h1, h2, h3⟩ := h'
  rw [gk_one] at h2
  by_cases e : key y = k
  · rw [if_pos e] at h2
    obtain rfl := Option.some.inj h2
    subst e
    have h4 := h.2 (key y)
    rw [hn] at h4
    refine ⟨key y, x, y, ?_, gk_snoc_new hn, h3⟩
    cases ea : gk key a (key y) with
    | none => rw [ea, h1] at h4; exact absurd (Option.some.inj h4) (by simp)
    | some u => rw [ea, h1] at h4; exact Option.some.inj h4
  · rw [if_neg e] at h2; cases h2
theorem gk_take_next {l : List α} (h : Rk key l) {j : Nat} (hj : j < l.length) : gk key (l.take j) (key l[j]) = none := by
  rw [gk_none]
  intro x hx e
  obtain ⟨i, hi, rfl⟩ := List.mem_take_iff_getElem.1 hx
  have := List.pairwise_iff_getElem.1 h i j (by omega) hj (by omega)
  rw [e] at this
  exact absurd this (El.irr _)
theorem rk_take {l : List α} (h : Rk key l) (j : Nat) : Rk key (l.take j) := List.Pairwise.sublist (List.take_sublist _ _) h
/-- Where the reference stands that puts y into a rising list, behind k of it. -/
structure PutAt (key : α → κ) (mt : α → α → Option α) (l : List α) (y : α) (k : Nat) (o : List α) (put : Bool) : Prop where
  no : put = false → o = l.take k ∧ ∀ x ∈ l.take k, El.lt (key x) (key y)
  yes : put = true → JoinIs key mt (l.take k) [y] o ∧ ∃ x ∈ l.take k, ¬ El.lt (key x) (key y)
theorem PutAt.start (key : α → κ) (mt : α → α → Option α) (l : List α) (y : α) : PutAt key mt l y 0 [] false :=
  ⟨fun _ => ⟨rfl, fun x hx => by simp at hx⟩, fun h => by cases h⟩
theorem lt_trans3 {a b c : κ} (h : ¬ El.lt a b) (k : El.lt a c) : El.lt b c := by
  rcases El.tri a b with h1 | h1 | h1
  · exact absurd h1 h
  · rw [← h1]; exact k
  · exact El.tr h1 k
theorem rk_snoc {l : List α} {x : α} (h : Rk key l) (hx : ∀ z ∈ l, El.lt (key z) (key x)) : Rk key (l ++ [x]) :=
  List.pairwise_append.2 ⟨h, List.pairwise_singleton _ _, fun a ha b hb => by rw [List.mem_singleton.1 hb]; exact hx a ha⟩
theorem rk_before {l : List α} (h : Rk key l) {k : Nat} (hk : k < l.length) {x : α} (hx : x ∈ l.take k) : El.lt (key x) (key l[k]) := by
  obtain ⟨i, hi, rfl⟩ := List.mem_take_iff_getElem.1 hx
  exact List.pairwise_iff_getElem.1 h i k (by omega) hk (by omega)
/-- What is in the joined list comes from the one or the other. -/
theorem join_keys {l o : List α} {y : α} (hk : ∀ x y z, mt x y = some z → key x = key y → key z = key x) (h : JoinIs key mt l [y] o) {z : α} (hz : z ∈ o) : key z = key y ∨ ∃ x ∈ l, key x = key z := by
  have h1 := h.2 (key z)
  rw [gk_mem (rk_uk h.1) hz, gk_one] at h1
  by_cases e : key y = key z
  · exact .inl e.symm
  · rw [if_neg e] at h1
    cases ea : gk key l (key z) with
    | none => rw [ea] at h1; exact absurd (Option.some.inj h1) (by simp)
    | some x => exact .inr ⟨x, (gk_some ea).1, (gk_some ea).2⟩
/-- At the same key: the two become one. -/
theorem PutAt.meet (hk : ∀ x y z, mt x y = some z → key x = key y → key z = key x) {l o : List α} {y z : α} {k : Nat} {put : Bool} (hl : Rk key l) (h : PutAt key mt l y k o put) (hlt : k < l.length) (he : key l[k] = key y) (hm : mt l[k] y = some z) : PutAt key mt l y (k + 1) (o ++ [z]) true := by
  cases put
  · obtain ⟨rfl, h2⟩ := h.no rfl
    refine ⟨(fun h => by cases h), fun _ => ⟨⟨rk_snoc (rk_take hl k) (fun x hx => by rw [hk _ _ _ hm he, he]; exact h2 x hx), fun j => ?_⟩, l[k], by rw [take_succ hlt]; exact List.mem_append.2 (.inr (List.mem_singleton.2 rfl)), by rw [he]; exact El.irr _⟩⟩
    rw [take_succ hlt, gk_one]
    by_cases e : key y = j
    · subst e
      have h3 : gk key (l.take k) (key y) = none := gk_none.2 fun x hx e => by have := h2 x hx; rw [e] at this; exact absurd this (El.irr _)
      rw [if_pos rfl, ← he, gk_snoc_new (by rw [he]; exact h3), show key l[k] = key z from (hk _ _ _ hm he).symm, gk_snoc_new (by rw [hk _ _ _ hm he, he]; exact h3)]
      show (mt l[k] y).map some = _
      rw [hm]; rfl
    · rw [if_neg e, gk_snoc_far (by rw [he]; exact e), gk_snoc_far (by rw [hk _ _ _ hm he, he]; exact e)]
      cases gk key (l.take k) j <;> rfl
  · obtain ⟨-, x, hx, hnx⟩ := h.yes rfl
    have := rk_before hl hlt hx
    rw [he] at this
    exact absurd this hnx
/-- Behind it: the new one, then the old one. -/
theorem PutAt.new {l o : List α} {y : α} {k : Nat} (hl : Rk key l) (h : PutAt key mt l y k o false) (hlt : k < l.length) (hy : El.lt (key y) (key l[k])) : PutAt key mt l y (k + 1) (o ++ [y] ++ [l[k]]) true := by
  obtain ⟨rfl, h2⟩ := h.no rfl
  have h3 : gk key (l.take k) (key y) = none := gk_none.2 fun x hx e => by have := h2 x hx; rw [e] at this; exact absurd this (El.irr _)
  have hne : key l[k] ≠ key y := fun e => by rw [e] at hy; exact El.irr _ hy
  refine ⟨(fun h => by cases h), fun _ => ⟨⟨rk_snoc (rk_snoc (rk_take hl k) h2) (fun x hx => ?_), fun j => ?_⟩, l[k], by rw [take_succ hlt]; exact List.mem_append.2 (.inr (List.mem_singleton.2 rfl)), fun h => El.irr _ (El.tr h hy)⟩⟩
  · rcases List.mem_append.1 hx with hx | hx
    · exact rk_before hl hlt hx
    · rw [List.mem_singleton.1 hx]; exact hy
  · rw [take_succ hlt, gk_one]
    by_cases e : key y = j
    · subst e
      rw [if_pos rfl, gk_snoc_far hne, gk_snoc_far hne, h3, gk_snoc_new h3]
      rfl
    · rw [if_neg e]
      by_cases e2 : key l[k] = j
      · subst e2
        have h4 := gk_take_next hl hlt
        rw [gk_snoc_new h4, gk_snoc_new (by rw [gk_snoc_far e]; exact h4)]
        rfl
      · rw [gk_snoc_far e2, gk_snoc_far e2, gk_snoc_far e]
        cases gk key (l.take k) j <;> rfl
/-- Still ahead of its place. -/
theorem PutAt.low {l o : List α} {y : α} {k : Nat} (h : PutAt key mt l y k o false) (hlt : k < l.length) (hne : key l[k] ≠ key y) (hy : ¬ El.lt (key y) (key l[k])) : PutAt key mt l y (k + 1) (o ++ [l[k]]) false := by
  obtain ⟨rfl, h2⟩ := h.no rfl
  refine ⟨fun _ => ⟨(take_succ hlt).symm, fun x hx => ?_⟩, (fun h => by cases h)⟩
  rw [take_succ hlt] at hx
  rcases List.mem_append.1 hx with hx | hx
  · exact h2 x hx
  · rw [List.mem_singleton.1 hx]
    rcases El.tri (key l[k]) (key y) with h | h | h
    · exact h
    · exact absurd h hne
    · exact absurd h hy
/-- Past its place. -/
theorem PutAt.on (hk : ∀ x y z, mt x y = some z → key x = key y → key z = key x) {l o : List α} {y : α} {k : Nat} (hl : Rk key l) (h : PutAt key mt l y k o true) (hlt : k < l.length) (hne : key l[k] ≠ key y) : PutAt key mt l y (k + 1) (o ++ [l[k]]) true := by
  obtain ⟨h1, x, hx, hnx⟩ := h.yes rfl
  have hyk : El.lt (key y) (key l[k]) := lt_trans3 hnx (rk_before hl hlt hx)
  refine ⟨(fun h => by cases h), fun _ => ⟨⟨rk_snoc h1.1 (fun z hz => ?_), fun j => ?_⟩, x, by rw [take_succ hlt]; exact List.mem_append.2 (.inl hx), hnx⟩⟩
  · rcases join_keys hk h1 hz with e | ⟨u, hu, e⟩
    · rw [e]; exact hyk
    · rw [← e]; exact rk_before hl hlt hu
  · have h2 := h1.2 j
    rw [take_succ hlt, gk_one] at *
    by_cases e2 : key l[k] = j
    · subst e2
      rw [if_neg (Ne.symm hne)] at h2 ⊢
      rw [gk_take_next hl hlt] at h2
      rw [gk_snoc_new (gk_take_next hl hlt), gk_snoc_new (Option.some.inj h2).symm]
      rfl
    · rw [gk_snoc_far e2, gk_snoc_far e2]
      exact h2
/-- At the end. -/
theorem PutAt.last {l o : List α} {y : α} (hl : Rk key l) (h : PutAt key mt l y l.length o false) : JoinIs key mt l [y] (o ++ [y]) := by
  obtain ⟨h1, h2⟩ := h.no rfl
  rw [List.take_length] at h1 h2
  subst h1
  have h3 : gk key o (key y) = none := gk_none.2 fun x hx e => by have := h2 x hx; rw [e] at this; exact absurd this (El.irr _)
  refine ⟨rk_snoc hl h2, fun j => ?_⟩
  rw [gk_one]
  by_cases e : key y = j
  · subst e
    rw [if_pos rfl, h3, gk_snoc_new h3]
    rfl
  · rw [if_neg e, gk_snoc_far e]
    cases gk key o j <;> rfl
theorem PutAt.done {l o : List α} {y : α} (h : PutAt key mt l y l.length o true) : JoinIs key mt l [y] o := by
  have := (h.yes rfl).1
  rwa [List.take_length] at this
/-- What stands at the key already and is the same: nothing changes. -/
theorem join_same {l : List α} {y : α} (hl : Rk key l) (hy : y ∈ l) (hm : mt y y = some y) : JoinIs key mt l [y] l := by
  refine ⟨hl, fun j => ?_⟩
  rw [gk_one]
  by_cases e : key y = j
  · subst e
    rw [if_pos rfl, gk_mem (rk_uk hl) hy]
    show (mt y y).map some = _
    rw [hm]; rfl
  · rw [if_neg e]
    cases gk key l j <;> rfl
theorem rk_ik {l : List α} (h : Rk key l) : Ik key l := fun n p hn hp e => by
  rcases Nat.lt_trichotomy n p with h1 | h1 | h1
  · have := List.pairwise_iff_getElem.1 h n p hn hp h1
    rw [e] at this; exact absurd this (El.irr _)
  · exact h1
  · have := List.pairwise_iff_getElem.1 h p n hp hn h1
    rw [e] at this; exact absurd this (El.irr _)
/-- Where the program stands that joins b to a, behind j of b. -/
structure JnAt (key : α → κ) (mt : α → α → Option α) (a b : List α) (j : Nat) (o : List α) : Prop where
  ik : Ik key o
  len : a.length ≤ o.length
  at_ : ∀ i (h : i < a.length) (h' : i < o.length), key o[i] = key a[i]
  is : ∀ k, mo mt (gk key a k) (gk key (b.take j) k) = some (gk key o k)
theorem JnAt.start {a b : List α} (ha : Rk key a) : JnAt key mt a b 0 a :=
  ⟨rk_ik ha, Nat.le_refl _, fun _ _ _ => rfl, fun k => by
    show mo mt (gk key a k) none = _
    cases gk key a k <;> rfl⟩
theorem JnAt.new {a b o : List α} {j : Nat} (hb : Rk key b) (h : JnAt key mt a b j o) (hj : j < b.length) (hn : gk key a (key b[j]) = none) : JnAt key mt a b (j + 1) (o ++ [b[j]]) := by
  have hno : gk key o (key b[j]) = none := by
    have := h.is (key b[j])
    rw [hn, gk_take_next hb hj] at this
    exact (Option.some.inj this).symm
  refine ⟨?_, by rw [List.length_append]; have := h.len; omega, fun i h1 h2 => ?_, fun k => ?_⟩
  · intro n p hn hp e
    rw [List.length_append, List.length_singleton] at hn hp
    rcases Nat.lt_or_ge n o.length with h1 | h1
    · rcases Nat.lt_or_ge p o.length with h2 | h2
      · rw [List.getElem_append_left h1, List.getElem_append_left h2] at e
        exact h.ik n p h1 h2 e
      · rw [List.getElem_append_left h1, List.getElem_append_right h2, List.getElem_singleton] at e
        exact absurd e (gk_none.1 hno _ (List.getElem_mem h1))
    · rcases Nat.lt_or_ge p o.length with h2 | h2
      · rw [List.getElem_append_right h1, List.getElem_append_left h2, List.getElem_singleton] at e
        exact absurd e.symm (gk_none.1 hno _ (List.getElem_mem h2))
      · omega
  · rw [List.getElem_append_left (by have := h.len; omega)]
    exact h.at_ i h1 (by have := h.len; omega)
  · rw [take_succ hj]
    by_cases e : key b[j] = k
    · subst e
      rw [gk_snoc_new (gk_take_next hb hj), gk_snoc_new hno, hn]
      rfl
    · rw [gk_snoc_far e, gk_snoc_far e]
      exact h.is k
theorem JnAt.old (hk : ∀ x y z, mt x y = some z → key x = key y → key z = key x) {a b o : List α} {i j : Nat} {z : α} (ha : Rk key a) (hb : Rk key b) (h : JnAt key mt a b j o) (hj : j < b.length) (hi : i < a.length) (he : key a[i] = key b[j]) (hio : i < o.length) (hm : mt o[i] b[j] = some z) : JnAt key mt a b (j + 1) (o.set i z) := by
  have hoe : key o[i] = key b[j] := (h.at_ i hi hio).trans he
  have hze : key z = key b[j] := (hk _ _ _ hm hoe).trans hoe
  have hkeys : ∀ n (h1 : n < (o.set i z).length) (h2 : n < o.length), key (o.set i z)[n] = key o[n] := fun n h1 h2 => by
    rw [List.getElem_set]
    split
    · next e => subst e; rw [hze, hoe]
    · rfl
  have hou : gk key o (key b[j]) = some o[i] := by rw [← hoe]; exact gk_mem (ik_uk h.ik) (List.getElem_mem hio)
  have hik : Ik key (o.set i z) := fun n p hn hp e => by
    have hn' := hn
    have hp' := hp
    rw [List.length_set] at hn' hp'
    rw [hkeys n hn hn', hkeys p hp hp'] at e
    exact h.ik n p hn' hp' e
  refine ⟨hik, by rw [List.length_set]; exact h.len, fun n h1 h2 => ?_, fun k => ?_⟩
  · have h3 := h2
    rw [List.length_set] at h3
    rw [hkeys n h2 h3]
    exact h.at_ n h1 h3
  · rw [take_succ hj]
    by_cases e : key b[j] = k
    · subst e
      have hz : gk key (o.set i z) (key b[j]) = some z := by
        rw [← hze]
        exact gk_mem (ik_uk hik) (List.mem_iff_getElem.2 ⟨i, by rw [List.length_set]; exact hio, by rw [List.getElem_set_self]⟩)
      have h5 := h.is (key b[j])
      rw [gk_take_next hb hj, hou, ← he, gk_mem (rk_uk ha) (List.getElem_mem hi)] at h5
      have h6 : a[i] = o[i] := Option.some.inj (Option.some.inj h5)
      rw [gk_snoc_new (gk_take_next hb hj), hz, ← he, gk_mem (rk_uk ha) (List.getElem_mem hi), h6]
      show (mt o[i] b[j]).map some = _
      rw [hm]; rfl
    · rw [gk_snoc_far e, h.is k]
      have : gk key (o.set i z) k = gk key o k := by
        cases hq : gk key o k with
        | none =>
          rw [gk_none] at hq ⊢
          intro x hx
          obtain ⟨n, hn, rfl⟩ := List.getElem_of_mem hx
          have hn' := hn
          rw [List.length_set] at hn'
          rw [hkeys n hn hn']
          exact hq _ (List.getElem_mem hn')
        | some x =>
          obtain ⟨h1, h2⟩ := gk_some hq
          obtain ⟨n, hn, rfl⟩ := List.getElem_of_mem h1
          have hni : n ≠ i := fun e2 => by subst e2; exact e (hoe.symm.trans h2)
          refine (gk_iff (ik_uk hik)).2 ⟨List.mem_iff_getElem.2 ⟨n, by rw [List.length_set]; exact hn, by rw [List.getElem_set_ne (Ne.symm hni)]⟩, h2⟩
      rw [this]
theorem JnAt.clash {a b o : List α} {i j : Nat} (ha : Rk key a) (hb : Rk key b) (h : JnAt key mt a b j o) (hj : j < b.length) (hi : i < a.length) (he : key a[i] = key b[j]) (hio : i < o.length) (hm : mt o[i] b[j] = none) : Clash key mt a b := by
  have hoe : key o[i] = key b[j] := (h.at_ i hi hio).trans he
  have hou : gk key o (key b[j]) = some o[i] := by rw [← hoe]; exact gk_mem (ik_uk h.ik) (List.getElem_mem hio)
  have h5 := h.is (key b[j])
  rw [gk_take_next hb hj, hou, ← he, gk_mem (rk_uk ha) (List.getElem_mem hi)] at h5
  have h6 : a[i] = o[i] := Option.some.inj (Option.some.inj h5)
  refine ⟨key b[j], a[i], b[j], by rw [← he]; exact gk_mem (rk_uk ha) (List.getElem_mem hi), gk_mem (rk_uk hb) (List.getElem_mem hj), by rw [h6]; exact hm⟩
/-- Sorted by its keys it is what the two become. -/
theorem JnAt.sorted {a b o o' : List α} (h : JnAt key mt a b b.length o) (hs : Rk key o') (hp : ∀ x, x ∈ o' ↔ x ∈ o) : JoinIs key mt a b o' := by
  refine ⟨hs, fun k => ?_⟩
  have h1 := h.is k
  rw [List.take_length] at h1
  rw [h1]
  cases hq : gk key o k with
  | none =>
    rw [show gk key o' k = none from gk_none.2 fun x hx => gk_none.1 hq x ((hp x).1 hx)]
  | some x =>
    obtain ⟨h2, h3⟩ := gk_some hq
    rw [(gk_iff (rk_uk hs)).2 ⟨(hp x).2 h2, h3⟩]
end
end Go.Proofs.YtbmknmjcoeinkaaGreat.Mg

/- What refs, tokens and tombs become of two; plain. No program. (Layer 13.) -/
namespace Go.Proofs.YtbmknmjcoeinkaaGreat.Mg
set_option linter.unusedVariables false
open Set (El IsOf ins mem_ins ins_rise isOf_unique)
open Mk (Rf Tok Tb Mks)
open Classical
abbrev K2 := Int × Int
instance : El K2 where
  lt a b := a.1 < b.1 ∨ a.1 = b.1 ∧ a.2 < b.2
  dec a b := inferInstance
  irr a := by omega
  tr h k := by omega
  tri a b := by
    rcases a with ⟨a1, a2⟩
    rcases b with ⟨b1, b2⟩
    dsimp only
    by_cases h : a1 = b1
    · by_cases k : a2 = b2
      · right; left; rw [h, k]
      · omega
    · omega
theorem lt2 {a b : K2} : El.lt a b ↔ a.1 < b.1 ∨ a.1 = b.1 ∧ a.2 < b.2 := Iff.rfl
def kRf (r : Rf) : ByteArray := r.name
def kTok (x : Tok) : K2 := (x.node, x.n)
def kTb (t : Tb) : K2 := (t.node, t.n)
/-- One ref stands above another one. -/
def Ab (a b : Rf) : Prop := b.h < a.h ∨ a.h = b.h ∧ El.lt b.id a.id
noncomputable def mRf (x y : Rf) : Option Rf := some (if Ab y x then y else x)
noncomputable def mTok (x y : Tok) : Option Tok := if x = y then some x else none
/-- Numbers, rising, each once. -/
noncomputable def sortU (l : List Int) : List Int := l.foldl (fun o x => ins x o) []
theorem foldl_ins (l : List Int) : ∀ (o : List Int) (ids : List Int), IsOf ids o → IsOf (ids ++ l) (l.foldl (fun o x => ins x o) o) := by
  induction l with
  | nil => intro o ids h; rw [List.append_nil]; exact h
  | cons a l ih =>
    intro o ids h
    have h1 : IsOf (ids ++ [a]) (ins a o) := ⟨ins_rise h.1, fun y => by
      rw [mem_ins, h.2, List.mem_append, List.mem_singleton]
      exact Or.comm⟩
    have := ih _ _ h1
    rwa [List.append_assoc] at this
theorem sortU_is (l : List Int) : IsOf l (sortU l) := by
  have := foldl_ins l [] [] ⟨List.Pairwise.nil, fun x => by simp⟩
  rwa [List.nil_append] at this
theorem sortU_eq {l m : List Int} (hm : m.Pairwise El.lt) (h : ∀ x, x ∈ m ↔ x ∈ l) : sortU l = m := isOf_unique (sortU_is l) ⟨hm, h⟩
theorem mem_sortU {l : List Int} {x : Int} : x ∈ sortU l ↔ x ∈ l := (sortU_is l).2 x
theorem sortU_rise (l : List Int) : (sortU l).Pairwise El.lt := (sortU_is l).1
theorem sortU_congr {l m : List Int} (h : ∀ x, x ∈ l ↔ x ∈ m) : sortU l = sortU m := sortU_eq (sortU_rise m) fun x => by rw [mem_sortU, h]
/-- A tomb with acks more. -/
noncomputable def plus (x : Tb) (l : List Int) : Tb := ⟨x.node, x.n, x.id, x.cov, sortU (x.acks ++ l)⟩
noncomputable def mTb (x y : Tb) : Option Tb := if x.id = y.id ∧ x.cov = y.cov then some (plus x y.acks) else none
-- keys stay
theorem mRf_key (x y z : Rf) (h : mRf x y = some z) (he : kRf x = kRf y) : kRf z = kRf x := by
  unfold mRf at h
  have h1 := Option.some.inj h
  split at h1
  · rw [← h1]; exact he.symm
  · rw [← h1]
theorem mTok_key (x y z : Tok) (h : mTok x y = some z) (he : kTok x = kTok y) : kTok z = kTok x := by
  unfold mTok at h
  split at h
  · rw [← Option.some.inj h]
  · cases h
theorem mTb_key (x y z : Tb) (h : mTb x y = some z) (he : kTb x = kTb y) : kTb z = kTb x := by
  unfold mTb at h
  split at h
  · rw [← Option.some.inj h]; rfl
  · cases h
-- turned round
theorem ab_not {x y : Rf} (h1 : ¬ Ab x y) (h2 : ¬ Ab y x) (hn : x.name = y.name) : x = y := by
  obtain ⟨xn, xi, xh⟩ := x
  obtain ⟨yn, yi, yh⟩ := y
  unfold Ab at h1 h2
  dsimp only at h1 h2 hn
  have e : xh = yh := by
    rcases Int.lt_trichotomy xh yh with h | h | h
    · exact absurd (.inl h) h2
    · exact h
    · exact absurd (.inl h) h1
  subst e
  rcases El.tri xi yi with h | h | h
  · exact absurd (.inr ⟨rfl, h⟩) h2
  · subst h; subst hn; rfl
  · exact absurd (.inr ⟨rfl, h⟩) h1
theorem ab_asym {x y : Rf} (h : Ab x y) : ¬ Ab y x := by
  unfold Ab at *
  rintro (k | ⟨k, k2⟩)
  · rcases h with h | ⟨h, h2⟩ <;> omega
  · rcases h with h | ⟨h, h2⟩
    · omega
    · exact El.irr _ (El.tr h2 k2)
theorem ab_trans {x y z : Rf} (h : Ab x y) (k : Ab y z) : Ab x z := by
  unfold Ab at *
  rcases h with h | ⟨h, h2⟩
  · rcases k with k | ⟨k, k2⟩
    · left; omega
    · left; omega
  · rcases k with k | ⟨k, k2⟩
    · left; omega
    · right; exact ⟨by omega, El.tr k2 h2⟩
theorem ab_le_trans {x y z : Rf} (h : ¬ Ab x y) (k : ¬ Ab y z) : ¬ Ab x z := by
  intro hz
  unfold Ab at *
  rcases hz with h1 | ⟨h1, h2⟩
  · rcases Int.lt_trichotomy x.h y.h with q | q | q
    · exact k (.inl (by omega))
    · exact k (.inl (by omega))
    · exact h (.inl q)
  · rcases Int.lt_trichotomy x.h y.h with q | q | q
    · exact k (.inl (by omega))
    · rcases El.tri x.id y.id with t | t | t
      · exact k (.inr ⟨by omega, El.tr h2 t⟩)
      · exact k (.inr ⟨by omega, by rw [← t]; exact h2⟩)
      · exact h (.inr ⟨q, t⟩)
    · exact h (.inl q)
theorem mRf_comm (x y : Rf) (he : kRf x = kRf y) : mRf x y = mRf y x := by
  unfold mRf
  congr 1
  by_cases h1 : Ab y x
  · rw [if_pos h1, if_neg (ab_asym h1)]
  · rw [if_neg h1]
    by_cases h2 : Ab x y
    · rw [if_pos h2]
    · rw [if_neg h2]; exact ab_not h2 h1 he
theorem mTok_comm (x y : Tok) (he : kTok x = kTok y) : mTok x y = mTok y x := by
  unfold mTok
  by_cases h : x = y
  · subst h; rfl
  · rw [if_neg h, if_neg (Ne.symm h)]
theorem mTb_comm (x y : Tb) (he : kTb x = kTb y) : mTb x y = mTb y x := by
  unfold mTb
  by_cases h : x.id = y.id ∧ x.cov = y.cov
  · rw [if_pos h, if_pos ⟨h.1.symm, h.2.symm⟩]
    obtain ⟨xa, xb, xc, xd, xe⟩ := x
    obtain ⟨ya, yb, yc, yd, ye⟩ := y
    have e := Prod.mk.inj he
    obtain ⟨e1, e2⟩ := e
    obtain ⟨e3, e4⟩ := h
    dsimp only at e1 e2 e3 e4
    subst e1 e2 e3 e4
    unfold plus
    rw [sortU_congr (l := xe ++ ye) (m := ye ++ xe) fun x => by rw [List.mem_append, List.mem_append]; exact Or.comm]
  · rw [if_neg h, if_neg fun k => h ⟨k.1.symm, k.2.symm⟩]
-- by two ways
theorem mRf_assoc (x y z p q : Rf) (h1 : kRf x = kRf y) (h2 : kRf y = kRf z) (hp : mRf x y = some p) (hq : mRf y z = some q) : mRf p z = mRf x q := by
  unfold mRf at *
  have hp := Option.some.inj hp
  have hq := Option.some.inj hq
  subst hp hq
  congr 1
  by_cases a : Ab y x
  · rw [if_pos a]
    by_cases b : Ab z y
    · rw [if_pos b, if_pos (ab_trans b a)]
    · rw [if_neg b, if_pos a]
  · rw [if_neg a]
    by_cases b : Ab z y
    · rw [if_pos b]
    · rw [if_neg b, if_neg a, if_neg (ab_le_trans b a)]
theorem mTok_assoc (x y z p q : Tok) (h1 : kTok x = kTok y) (h2 : kTok y = kTok z) (hp : mTok x y = some p) (hq : mTok y z = some q) : mTok p z = mTok x q := by
  unfold mTok at hp hq
  split at hp
  · next e1 =>
    split at hq
    · next e2 =>
      rw [← Option.some.inj hp, ← Option.some.inj hq, e1, e2]
    · cases hq
  · cases hp
theorem mTb_assoc (x y z p q : Tb) (h1 : kTb x = kTb y) (h2 : kTb y = kTb z) (hp : mTb x y = some p) (hq : mTb y z = some q) : mTb p z = mTb x q := by
  unfold mTb at hp hq
  split at hp
  · next e1 =>
    split at hq
    · next e2 =>
      rw [← Option.some.inj hp, ← Option.some.inj hq]
      unfold mTb
      rw [if_pos (show (plus x y.acks).id = z.id ∧ (plus x y.acks).cov = z.cov from ⟨e1.1.trans e2.1, e1.2.trans e2.2⟩), if_pos (show x.id = (plus y z.acks).id ∧ x.cov = (plus y z.acks).cov from e1)]
      unfold plus
      rw [sortU_congr (l := sortU (x.acks ++ y.acks) ++ z.acks) (m := x.acks ++ sortU (y.acks ++ z.acks)) fun v => by
        rw [List.mem_append, List.mem_append, mem_sortU, mem_sortU, List.mem_append, List.mem_append, or_assoc]]
    · cases hq
  · cases hp
-- below
def lRf (x y : Rf) : Prop := x.name = y.name ∧ ¬ Ab x y
def lTb (x y : Tb) : Prop := kTb x = kTb y ∧ x.id = y.id ∧ x.cov = y.cov ∧ ∀ n ∈ x.acks, n ∈ y.acks
theorem mRf_le {x y : Rf} (h : lRf x y) : mRf x y = some y := by
  unfold mRf
  congr 1
  by_cases a : Ab y x
  · rw [if_pos a]
  · rw [if_neg a]; exact ab_not h.2 a h.1
theorem mTb_le {x y : Tb} (hy : y.acks.Pairwise El.lt) (h : lTb x y) : mTb x y = some y := by
  unfold mTb
  rw [if_pos ⟨h.2.1, h.2.2.1⟩]
  congr 1
  unfold plus
  rw [sortU_eq hy fun v => by rw [List.mem_append]; exact ⟨.inr, fun k => k.elim (h.2.2.2 v) id⟩]
  obtain ⟨e1, e2⟩ := Prod.mk.inj h.1
  rw [e1, e2, h.2.1, h.2.2.1]
theorem le_mRf {x y z : Rf} (h : mRf x y = some z) (he : kRf x = kRf y) : lRf x z ∧ lRf y z := by
  unfold mRf at h
  have h := Option.some.inj h
  subst h
  by_cases a : Ab y x
  · rw [if_pos a]; exact ⟨⟨he, ab_asym a⟩, rfl, fun h => ab_asym h h⟩
  · rw [if_neg a]; exact ⟨⟨rfl, fun h => ab_asym h h⟩, he.symm, a⟩
theorem le_mTb {x y z : Tb} (h : mTb x y = some z) (he : kTb x = kTb y) : lTb x z ∧ lTb y z := by
  unfold mTb at h
  split at h
  · next e =>
    have h := Option.some.inj h
    subst h
    refine ⟨⟨rfl, rfl, rfl, fun n hn => mem_sortU.2 (List.mem_append.2 (.inl hn))⟩, he.symm, e.1.symm, e.2.symm, fun n hn => mem_sortU.2 (List.mem_append.2 (.inr hn))⟩
  · cases h
theorem mRf_least {x y z u : Rf} (h : mRf x y = some z) (h1 : lRf x u) (h2 : lRf y u) : lRf z u := by
  unfold mRf at h
  have h := Option.some.inj h
  subst h
  split
  · exact h2
  · exact h1
theorem mTb_least {x y z u : Tb} (h : mTb x y = some z) (h1 : lTb x u) (h2 : lTb y u) : lTb z u := by
  unfold mTb at h
  split at h
  · have h := Option.some.inj h
    subst h
    refine ⟨h1.1, h1.2.1, h1.2.2.1, fun n hn => ?_⟩
    rcases List.mem_append.1 (mem_sortU.1 hn) with hn | hn
    · exact h1.2.2.2 n hn
    · exact h2.2.2.2 n hn
  · cases h
end Go.Proofs.YtbmknmjcoeinkaaGreat.Mg

/- What marks become of two; plain. No program. (Layer 13.) -/
namespace Go.Proofs.YtbmknmjcoeinkaaGreat.Mg
set_option linter.unusedVariables false
open Set (El IsOf isOf_unique)
open Mk (Rf Tok Tb Mks goodB goodB_at tokensB tokensB_at tombB tombB_at refB thingB thingOf riseB riseB_pairwise aheadB aheadB_trans nameLt nameLt_trans tombLt tombLt_trans ltB ltB_trans isNodeB sameId)
open Classical
theorem name_lt {a b : Rf} : nameLt a b = true ↔ El.lt (kRf a) (kRf b) := by
  unfold nameLt kRf
  rw [decide_eq_true_iff]
  exact Iff.rfl
theorem tok_lt {a b : Tok} : aheadB a b = true ↔ El.lt (kTok a) (kTok b) := by
  unfold aheadB kTok
  rw [decide_eq_true_iff]
  exact Iff.rfl
theorem tomb_lt {a b : Tb} : tombLt a b = true ↔ El.lt (kTb a) (kTb b) := by
  unfold tombLt aheadB thingOf kTb
  rw [decide_eq_true_iff]
  exact Iff.rfl
theorem lt_int {a b : Int} : ltB a b = true ↔ El.lt a b := by
  unfold ltB
  rw [decide_eq_true_iff]
  exact Iff.rfl
theorem rise_rk {α κ : Type} [El κ] {key : α → κ} {p : α → α → Bool} (ht : ∀ a b c, p a b = true → p b c = true → p a c = true) (hp : ∀ a b, p a b = true ↔ El.lt (key a) (key b)) {l : List α} : riseB p l = true ↔ Rk key l := by
  rw [riseB_pairwise ht]
  constructor
  · intro h; exact List.Pairwise.imp (fun {a b} h => (hp a b).1 h) h
  · intro h; exact List.Pairwise.imp (fun {a b} h => (hp a b).2 h) h
theorem acks_rise {l : List Int} : riseB ltB l = true ↔ l.Pairwise El.lt := by
  rw [riseB_pairwise ltB_trans]
  constructor
  · intro h; exact List.Pairwise.imp (fun {a b} h => lt_int.1 h) h
  · intro h; exact List.Pairwise.imp (fun {a b} h => lt_int.2 h) h
theorem good_rk {m : Mks} (h : goodB m = true) : Rk kRf m.refs ∧ Rk kTok m.toks ∧ Rk kTb m.tombs := by
  obtain ⟨⟨-, -, h1⟩, ⟨-, -, h2⟩, h3⟩ := goodB_at h
  exact ⟨(rise_rk nameLt_trans (fun a b => name_lt)).1 h1, (rise_rk aheadB_trans (fun a b => tok_lt)).1 (tokensB_at h3).2.2, (rise_rk tombLt_trans (fun a b => tomb_lt)).1 h2⟩
theorem good_acks {m : Mks} (h : goodB m = true) {t : Tb} (ht : t ∈ m.tombs) : t.acks.Pairwise El.lt := acks_rise.1 (tombB_at ((goodB_at h).2.1.2.1 t ht)).2.2.2.2
/-- The marks that two become, if nothing clashes. -/
def JM (a b m : Mks) : Prop := JoinIs kRf mRf a.refs b.refs m.refs ∧ JoinIs kTok mTok a.toks b.toks m.toks ∧ JoinIs kTb mTb a.tombs b.tombs m.tombs
def ClashM (a b : Mks) : Prop := Clash kTok mTok a.toks b.toks ∨ Clash kTb mTb a.tombs b.tombs
def Big (m : Mks) : Prop := 64 < m.refs.length ∨ 256 < m.toks.length ∨ 64 < m.tombs.length
/-- What Join hands back. -/
def JOut (a b m : Mks) (e : Int) : Prop :=
  (¬ (goodB a = true ∧ goodB b = true) ∧ m = Mks.empty ∧ e = 1) ∨ ((goodB a = true ∧ goodB b = true) ∧ ClashM a b ∧ m = Mks.empty ∧ e = 32) ∨
  ((goodB a = true ∧ goodB b = true) ∧ (∃ m', JM a b m' ∧ Big m') ∧ m = Mks.empty ∧ e = 6) ∨ ((goodB a = true ∧ goodB b = true) ∧ JM a b m ∧ ¬ Big m ∧ e = 0)
theorem jm_unique {a b m m' : Mks} (h : JM a b m) (h' : JM a b m') : m = m' := by
  obtain ⟨r, t, s⟩ := m
  obtain ⟨r', t', s'⟩ := m'
  rw [show r = r' from join_unique h.1 h'.1, show t = t' from join_unique h.2.1 h'.2.1, show s = s' from join_unique h.2.2 h'.2.2]
theorem jm_no_clash {a b m : Mks} (h : JM a b m) : ¬ ClashM a b := fun c => c.elim (join_no_clash h.2.1) (join_no_clash h.2.2)
theorem jout_unique {a b m m' : Mks} {e e' : Int} (h : JOut a b m e) (h' : JOut a b m' e') : m = m' ∧ e = e' := by
  rcases h with ⟨h, rfl, rfl⟩ | ⟨h, hc, rfl, rfl⟩ | ⟨h, ⟨x, hx, hb⟩, rfl, rfl⟩ | ⟨h, hj, hb, rfl⟩ <;>
    rcases h' with ⟨h', rfl, rfl⟩ | ⟨h', hc', rfl, rfl⟩ | ⟨h', ⟨x', hx', hb'⟩, rfl, rfl⟩ | ⟨h', hj', hb', rfl⟩
  · exact ⟨rfl, rfl⟩
  · exact absurd h' h
  · exact absurd h' h
  · exact absurd h' h
  · exact absurd h h'
  · exact ⟨rfl, rfl⟩
  · exact absurd hc (jm_no_clash hx')
  · exact absurd hc (jm_no_clash hj')
  · exact absurd h h'
  · exact absurd hc' (jm_no_clash hx)
  · exact ⟨rfl, rfl⟩
  · rw [jm_unique hx hj'] at hb; exact absurd hb hb'
  · exact absurd h h'
  · exact absurd hc' (jm_no_clash hj)
  · rw [jm_unique hx' hj] at hb'; exact absurd hb' hb
  · exact ⟨jm_unique hj hj', rfl⟩
theorem jm_comm {a b m : Mks} (h : JM a b m) : JM b a m := ⟨join_comm mRf_comm h.1, join_comm mTok_comm h.2.1, join_comm mTb_comm h.2.2⟩
theorem clashM_comm {a b : Mks} (h : ClashM a b) : ClashM b a := h.imp (clash_comm mTok_comm) (clash_comm mTb_comm)
theorem jout_comm {a b m : Mks} {e : Int} (h : JOut a b m e) : JOut b a m e := by
  rcases h with ⟨h, h1⟩ | ⟨h, hc, h1⟩ | ⟨h, ⟨x, hx, hb⟩, h1⟩ | ⟨h, hj, hb, h1⟩
  · exact .inl ⟨fun k => h k.symm, h1⟩
  · exact .inr (.inl ⟨h.symm, clashM_comm hc, h1⟩)
  · exact .inr (.inr (.inl ⟨h.symm, ⟨x, jm_comm hx, hb⟩, h1⟩))
  · exact .inr (.inr (.inr ⟨h.symm, jm_comm hj, hb, h1⟩))
/-- Each thing of the joined comes from the one, or the other, or both. -/
theorem join_mem {α κ : Type} [El κ] {key : α → κ} {mt : α → α → Option α} {a b o : List α} (h : JoinIs key mt a b o) {z : α} (hz : z ∈ o) : z ∈ a ∨ z ∈ b ∨ ∃ x ∈ a, ∃ y ∈ b, key x = key y ∧ mt x y = some z := by
  have h1 := h.2 (key z)
  rw [gk_mem (rk_uk h.1) hz] at h1
  cases ea : gk key a (key z) with
  | none =>
    rw [ea] at h1
    have h2 : gk key b (key z) = some z := Option.some.inj h1
    exact .inr (.inl (gk_some h2).1)
  | some x =>
    rw [ea] at h1
    cases eb : gk key b (key z) with
    | none =>
      rw [eb] at h1
      have h2 : some x = some z := Option.some.inj h1
      rw [← Option.some.inj h2]
      exact .inl (gk_some ea).1
    | some y =>
      rw [eb] at h1
      refine .inr (.inr ⟨x, (gk_some ea).1, y, (gk_some eb).1, (gk_some ea).2.trans (gk_some eb).2.symm, ?_⟩)
      have h2 : (mt x y).map some = some (some z) := h1
      cases em : mt x y with
      | none => rw [em] at h2; cases h2
      | some u => rw [em] at h2; exact Option.some.inj h2
theorem tombB_plus {x : Tb} {l : List Int} (hx : tombB x = true) (hl : ∀ n ∈ l, isNodeB n = true) : tombB (plus x l) = true := by
  unfold tombB at hx ⊢
  simp only [Bool.and_eq_true, List.all_eq_true] at hx ⊢
  obtain ⟨⟨⟨⟨h1, h2⟩, h3⟩, h4⟩, h5⟩ := hx
  refine ⟨⟨⟨⟨h1, h2⟩, h3⟩, fun n hn => ?_⟩, acks_rise.2 (sortU_rise _)⟩
  rcases List.mem_append.1 (mem_sortU.1 hn) with hn | hn
  · exact h4 n hn
  · exact hl n hn
theorem isNode_of {t : Tb} (h : tombB t = true) : ∀ n ∈ t.acks, isNodeB n = true := by
  unfold tombB at h
  simp only [Bool.and_eq_true, List.all_eq_true] at h
  exact h.1.2
/-- What Join makes is right. -/
theorem jm_good {a b m : Mks} (ha : goodB a = true) (hb : goodB b = true) (h : JM a b m) (hn : ¬ Big m) : goodB m = true := by
  obtain ⟨⟨-, a1, -⟩, ⟨-, a2, -⟩, a3⟩ := goodB_at ha
  obtain ⟨⟨-, b1, -⟩, ⟨-, b2, -⟩, b3⟩ := goodB_at hb
  unfold Big at hn
  have g1 : Mk.refsB m.refs = true := by
    unfold Mk.refsB
    simp only [Bool.and_eq_true, decide_eq_true_eq, List.all_eq_true]
    refine ⟨⟨by omega, fun z hz => ?_⟩, (rise_rk nameLt_trans (fun a b => name_lt)).2 h.1.1⟩
    rcases join_mem h.1 hz with hz | hz | ⟨x, hx, y, hy, -, hm⟩
    · exact a1 z hz
    · exact b1 z hz
    · unfold mRf at hm
      have hm := Option.some.inj hm
      split at hm
      · rw [← hm]; exact b1 y hy
      · rw [← hm]; exact a1 x hx
  have g2 : tokensB m.toks = true := by
    unfold tokensB
    simp only [Bool.and_eq_true, decide_eq_true_eq, List.all_eq_true]
    refine ⟨⟨by omega, fun z hz => ?_⟩, (rise_rk aheadB_trans (fun a b => tok_lt)).2 h.2.1.1⟩
    rcases join_mem h.2.1 hz with hz | hz | ⟨x, hx, y, hy, -, hm⟩
    · exact (tokensB_at a3).2.1 z hz
    · exact (tokensB_at b3).2.1 z hz
    · unfold mTok at hm
      split at hm
      · rw [← Option.some.inj hm]; exact (tokensB_at a3).2.1 x hx
      · cases hm
  have g3 : Mk.tombsB m.tombs = true := by
    unfold Mk.tombsB
    simp only [Bool.and_eq_true, decide_eq_true_eq, List.all_eq_true]
    refine ⟨⟨by omega, fun z hz => ?_⟩, (rise_rk tombLt_trans (fun a b => tomb_lt)).2 h.2.2.1⟩
    rcases join_mem h.2.2 hz with hz | hz | ⟨x, hx, y, hy, -, hm⟩
    · exact a2 z hz
    · exact b2 z hz
    · unfold mTb at hm
      split at hm
      · rw [← Option.some.inj hm]; exact tombB_plus (a2 x hx) (isNode_of (b2 y hy))
      · cases hm
  unfold goodB
  simp only [Bool.and_eq_true]
  exact ⟨⟨g1, g3⟩, g2⟩
end Go.Proofs.YtbmknmjcoeinkaaGreat.Mg

