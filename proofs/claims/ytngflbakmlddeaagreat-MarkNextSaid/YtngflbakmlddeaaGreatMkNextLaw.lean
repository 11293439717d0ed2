/- Plain laws: a new thing's number is above all that a node laid down; tokens with it among them still rise. No program is walked. (Layer 12.) -/
import Derived.Test.YtngflbakmlddeaaGreatMk25
namespace Go.Proofs.YtngflbakmlddeaaGreat.Mk
set_option linter.unusedVariables false
open Go.RowKit
theorem foldl_max_le : ∀ (l : List Int) (a x : Int), x ≤ a ∨ x ∈ l → x ≤ l.foldl max a
  | [], a, x, h => by
    rcases h with h | h
    · exact h
    · cases h
  | b :: l, a, x, h => by
    rw [List.foldl_cons]
    refine foldl_max_le l _ x ?_
    rcases h with h | h
    · exact .inl (by omega)
    · rcases List.mem_cons.1 h with rfl | h
      · exact .inl (by omega)
      · exact .inr h
theorem maxOf_ge {l : List Int} {x : Int} (h : x ∈ l) : x ≤ Lib.maxOf l := foldl_max_le l _ x (.inr h)
theorem foldl_max_lt : ∀ (l : List Int) (a c : Int), a < c → (∀ x ∈ l, x < c) → l.foldl max a < c
  | [], a, c, h, _ => h
  | b :: l, a, c, h, hl => by
    rw [List.foldl_cons]
    have := hl b (by simp)
    exact foldl_max_lt l _ c (by omega) (fun x hx => hl x (by simp [hx]))
theorem maxOf_lt {l : List Int} {c : Int} (h0 : l ≠ []) (h : ∀ x ∈ l, x < c) : Lib.maxOf l < c := by
  cases l with
  | nil => exact absurd rfl h0
  | cons a l => exact foldl_max_lt (a :: l) a c (h a (by simp)) h
theorem mem_usedM {m : Mks} {node n : Int} : n ∈ usedM m node ↔ (∃ t ∈ m.toks, t.node = node ∧ t.n = n) ∨ ∃ t ∈ m.tombs, t.node = node ∧ t.n = n := by
  unfold usedM usedT usedB
  simp only [List.mem_append, List.mem_map, List.mem_filter, decide_eq_true_eq, and_assoc]
/-- Of marks that can be: the next number is above all numbers of that node. -/
theorem next_above {m : Mks} (hg : goodB m = true) (node : Int) : 1 ≤ nextL m node ∧ nextL m node ≤ 1073741825 ∧ (∀ t ∈ m.toks, t.node = node → t.n < nextL m node) ∧ ∀ t ∈ m.tombs, t.node = node → t.n < nextL m node := by
  obtain ⟨-, ⟨-, hb, -⟩, hk⟩ := goodB_at hg
  obtain ⟨-, ht, -⟩ := tokensB_at hk
  have hall : ∀ n ∈ usedM m node, 1 ≤ n ∧ n ≤ 1073741824 := by
    intro n hn
    rcases mem_usedM.1 hn with ⟨t, h1, -, rfl⟩ | ⟨t, h1, -, rfl⟩
    · have := ht t h1
      unfold thingB at this
      simp only [decide_eq_true_eq] at this
      omega
    · have := (tombB_at (hb t h1)).1
      unfold thingB thingOf at this
      simp only [decide_eq_true_eq] at this
      omega
  have hall2 : ∀ n ∈ usedM m node, n < nextL m node := by
    intro n hn
    have h1 := maxOf_ge hn
    have h2 : Lib.maxOf (usedM m node) < 1073741825 := maxOf_lt (List.ne_nil_of_mem hn) (fun x hx => by have := hall x hx; omega)
    have h3 := hall n hn
    unfold nextL
    rw [if_neg (List.ne_nil_of_mem hn)]
    unfold wrap64
    omega
  refine ⟨?_, ?_, fun t h1 h2 => hall2 _ (mem_usedM.2 (.inl ⟨t, h1, h2, rfl⟩)), fun t h1 h2 => hall2 _ (mem_usedM.2 (.inr ⟨t, h1, h2, rfl⟩))⟩
  · unfold nextL
    split
    · omega
    · next hne =>
      obtain ⟨n, hn⟩ := List.exists_mem_of_ne_nil _ hne
      have h1 := maxOf_ge hn
      have h2 : Lib.maxOf (usedM m node) < 1073741825 := maxOf_lt hne (fun x hx => by have := hall x hx; omega)
      have h3 := hall n hn
      unfold wrap64
      omega
  · unfold nextL
    split
    · omega
    · next hne =>
      obtain ⟨n, hn⟩ := List.exists_mem_of_ne_nil _ hne
      have h1 := maxOf_ge hn
      have h2 : Lib.maxOf (usedM m node) < 1073741825 := maxOf_lt hne (fun x hx => by have := hall x hx; omega)
      have h3 := hall n hn
      unfold wrap64
      omega
/-- One token more: what the law's loop makes of it. -/
def nxStep (x : Tok) (s : List Tok × Bool) (t : Tok) : List Tok × Bool := if s.2 = false ∧ x.node < t.node then (s.1 ++ [x] ++ [t], true) else (s.1 ++ [t], s.2)
def nxAt (x : Tok) (l : List Tok) (k : Nat) : List Tok × Bool := (l.take k).foldl (nxStep x) ([], false)
def nxEnd (x : Tok) (s : List Tok × Bool) : List Tok := if s.2 = true then s.1 else s.1 ++ [x]
def nxOut (x : Tok) (l : List Tok) : List Tok := nxEnd x (nxAt x l l.length)
theorem nxAt_zero (x : Tok) (l : List Tok) : nxAt x l 0 = ([], false) := rfl
theorem nxAt_succ (x : Tok) (l : List Tok) {k : Nat} (h : k < l.length) : nxAt x l (k + 1) = nxStep x (nxAt x l k) l[k] := by
  unfold nxAt
  rw [take_snoc' h, List.foldl_append]
  rfl
theorem nxAt_len (x : Tok) (l : List Tok) : ∀ k, k ≤ l.length → (nxAt x l k).1.length = k + (if (nxAt x l k).2 = true then 1 else 0)
  | 0, _ => by rw [nxAt_zero]; rfl
  | k + 1, h => by
    have := nxAt_len x l k (by omega)
    rw [nxAt_succ x l (by omega)]
    unfold nxStep
    cases hq : (nxAt x l k).2
    · rw [hq] at this
      by_cases hx : x.node < l[k].node
      · rw [if_pos ⟨rfl, hx⟩]
        simp at this ⊢
        omega
      · rw [if_neg (fun h => hx h.2)]
        simp at this ⊢
        omega
    · rw [hq] at this
      rw [if_neg (fun h => by cases h.1)]
      simp at this ⊢
      omega
theorem ahead_iff {a b : Tok} : aheadB a b = true ↔ a.node < b.node ∨ a.node = b.node ∧ a.n < b.n := by unfold aheadB; simp
def NxInv (x : Tok) (l : List Tok) (k : Nat) (s : List Tok × Bool) : Prop :=
  (s.2 = false → s.1 = l.take k ∧ ∀ t ∈ l.take k, t.node ≤ x.node) ∧
  (s.2 = true → s.1.Pairwise (fun a b => aheadB a b = true) ∧ (∀ y ∈ s.1, y = x ∨ y ∈ l.take k) ∧ ∃ t ∈ l.take k, x.node < t.node)
theorem nx_inv (x : Tok) (l : List Tok) (hl : l.Pairwise (fun a b => aheadB a b = true)) (hx : ∀ t ∈ l, t.node = x.node → t.n < x.n) : ∀ k, k ≤ l.length → NxInv x l k (nxAt x l k)
  | 0, _ => by
    rw [nxAt_zero]
    exact ⟨fun _ => ⟨rfl, fun t ht => by simp at ht⟩, fun h => by cases h⟩
  | k + 1, h => by
    obtain ⟨i1, i2⟩ := nx_inv x l hl hx k (by omega)
    rw [nxAt_succ x l (by omega)]
    have hpre : ∀ y ∈ l.take k, aheadB y l[k] = true := by
      intro y hy
      obtain ⟨i, hi, rfl⟩ := List.mem_take_iff_getElem.1 hy
      exact List.pairwise_iff_getElem.1 hl i k _ _ (by omega)
    have htk : (l.take k).Pairwise (fun a b => aheadB a b = true) := List.Pairwise.sublist (List.take_sublist _ _) hl
    unfold nxStep
    cases hq : (nxAt x l k).2
    · obtain ⟨j1, j2⟩ := i1 hq
      by_cases hlt : x.node < l[k].node
      · rw [if_pos ⟨rfl, hlt⟩]
        refine ⟨(fun h => by cases h), fun _ => ⟨?_, ?_, l[k], by rw [take_snoc' (by omega)]; exact List.mem_append.2 (.inr (List.mem_singleton.2 rfl)), hlt⟩⟩
        · rw [j1, List.append_assoc]
          refine List.pairwise_append.2 ⟨htk, ?_, ?_⟩
          · refine List.pairwise_cons.2 ⟨fun y hy => ?_, List.pairwise_singleton _ _⟩
            rw [List.mem_singleton.1 hy]
            exact ahead_iff.2 (.inl hlt)
          · intro a ha b hb
            rcases List.mem_cons.1 hb with rfl | hb
            · have h1 := j2 a ha
              have h2 := hx a (List.mem_of_mem_take ha)
              exact ahead_iff.2 (by omega)
            · rw [List.mem_singleton.1 hb]
              exact hpre a ha
        · intro y hy
          rw [take_snoc' (by omega)]
          rw [j1] at hy
          simp only [List.mem_append, List.mem_singleton] at hy ⊢
          rcases hy with (hy | hy) | hy
          · exact .inr (.inl hy)
          · exact .inl hy
          · exact .inr (.inr hy)
      · rw [if_neg (fun h => hlt h.2)]
        refine ⟨fun _ => ⟨by rw [take_snoc' (by omega), j1], fun t ht => ?_⟩, fun h => by cases h⟩
        rw [take_snoc' (by omega)] at ht
        rcases List.mem_append.1 ht with ht | ht
        · exact j2 t ht
        · rw [List.mem_singleton.1 ht]; omega
    · obtain ⟨j1, j2, t0, j3, j4⟩ := i2 hq
      rw [if_neg (fun h => by cases h.1)]
      refine ⟨(fun h => by cases h), fun _ => ⟨?_, ?_, t0, by rw [take_snoc' (by omega)]; exact List.mem_append.2 (.inl j3), j4⟩⟩
      · refine List.pairwise_append.2 ⟨j1, List.pairwise_singleton _ _, ?_⟩
        intro a ha b hb
        rw [List.mem_singleton.1 hb]
        rcases j2 a ha with rfl | ha
        · have := ahead_iff.1 (hpre t0 j3)
          exact ahead_iff.2 (by omega)
        · exact hpre a ha
      · intro y hy
        rw [take_snoc' (by omega)]
        simp only [List.mem_append, List.mem_singleton] at hy ⊢
        rcases hy with hy | hy
        · rcases j2 y hy with h | h
          · exact .inl h
          · exact .inr (.inl h)
        · exact .inr (.inr hy)
theorem nxOut_len (x : Tok) (l : List Tok) : (nxOut x l).length = l.length + 1 := by
  have := nxAt_len x l l.length (Nat.le_refl _)
  unfold nxOut nxEnd
  cases hq : (nxAt x l l.length).2
  · rw [hq] at this; simp at this ⊢; omega
  · rw [hq] at this; simp at this ⊢; omega
theorem nxOut_rise (x : Tok) (l : List Tok) (hl : l.Pairwise (fun a b => aheadB a b = true)) (hx : ∀ t ∈ l, t.node = x.node → t.n < x.n) : (nxOut x l).Pairwise (fun a b => aheadB a b = true) ∧ ∀ y ∈ nxOut x l, y = x ∨ y ∈ l := by
  obtain ⟨i1, i2⟩ := nx_inv x l hl hx l.length (Nat.le_refl _)
  rw [List.take_length] at i1 i2
  unfold nxOut nxEnd
  cases hq : (nxAt x l l.length).2
  · obtain ⟨j1, j2⟩ := i1 hq
    rw [if_neg (by simp), j1]
    refine ⟨List.pairwise_append.2 ⟨hl, List.pairwise_singleton _ _, fun a ha b hb => ?_⟩, fun y hy => ?_⟩
    · rw [List.mem_singleton.1 hb]
      have h1 := j2 a ha
      have h2 := hx a ha
      exact ahead_iff.2 (by omega)
    · rcases List.mem_append.1 hy with h | h
      · exact .inr h
      · exact .inl (List.mem_singleton.1 h)
  · obtain ⟨j1, j2, -⟩ := i2 hq
    rw [if_pos rfl]
    exact ⟨j1, j2⟩
/-- With a new thing among them right marks with room stay right. -/
theorem next_good {m : Mks} (hg : goodB m = true) (x : Tok) (h1 : 1 ≤ x.node ∧ x.node ≤ 7) (h2 : x.n = nextL m x.node) (h3 : x.id.size = 32) (hn : x.n ≤ 1073741824) (hl : (nxOut x m.toks).length ≤ 256) : goodB ⟨m.refs, nxOut x m.toks, m.tombs⟩ = true := by
  obtain ⟨n1, -, n3, -⟩ := next_above hg x.node
  have hk := (goodB_at hg).2.2
  obtain ⟨-, ht, hr⟩ := tokensB_at hk
  obtain ⟨p1, p2⟩ := nxOut_rise x m.toks ((riseB_pairwise aheadB_trans).1 hr) (fun t ht he => by rw [h2]; exact n3 t ht he)
  have hT : tokensB (nxOut x m.toks) = true := by
    unfold tokensB
    simp only [Bool.and_eq_true, decide_eq_true_eq, List.all_eq_true]
    refine ⟨⟨hl, fun y hy => ?_⟩, (riseB_pairwise aheadB_trans).2 p1⟩
    rcases p2 y hy with rfl | hy
    · unfold thingB
      simp only [decide_eq_true_eq]
      exact ⟨h1.1, h1.2, by omega, hn, h3⟩
    · exact ht y hy
  unfold goodB at hg ⊢
  simp only [Bool.and_eq_true] at hg ⊢
  exact ⟨hg.1, hT⟩
end Go.Proofs.YtngflbakmlddeaaGreat.Mk
