/- Plain law: the sorted list without repeats is the reference's list; it rises and has just what was given. -/
import Derived.Test.YtmdchfmcghiaeaaRefLinks
namespace Go.Proofs.Ytmdchfmcghiaeaa.Obj
set_option linter.unusedVariables false
open Go.RowKit Go.Sort Go.Lib
abbrev lt_ (x y : Lk) : Prop := ltOf cfL x y = true
theorem lss_lt (x y : Lk) : lssL x y = ltOf cfL x y := by
  have h : lssL x y = true ↔ ltOf cfL x y = true := by
    rw [ltL_iff]
    unfold lssL
    rw [Bool.or_eq_true, Bool.and_eq_true, Go.Proofs.bytesLess_eq, ByteArray.toList_eq, ByteArray.toList_eq, decide_eq_true_iff, decide_eq_true_iff, beq_iff_eq]
    constructor
    · rintro (h | ⟨h1, h2⟩)
      · exact Or.inl h
      · exact Or.inr ⟨data_inj h1, h2⟩
    · rintro (h | ⟨h1, h2⟩)
      · exact Or.inl h
      · exact Or.inr ⟨by rw [h1], h2⟩
  cases h1 : lssL x y <;> cases h2 : ltOf cfL x y <;> simp_all
theorem lt_of_not {x y : Lk} (h : ltOf cfL x y = false) (hne : x ≠ y) : lt_ y x := by
  cases h2 : ltOf cfL y x
  · exact absurd (totL x y h h2) hne
  · exact h2
theorem lt_ne {x y : Lk} (h : lt_ x y) : x ≠ y := fun e => by
  subst e
  have := swoL.irrefl x
  rw [h] at this
  cases this
/-- What with has laid, at a rising list without the new one. -/
theorem wOut_inv (x : Lk) (l : List Lk) (hl : l.Pairwise lt_) (hx : x ∉ l) : ∀ i, i ≤ l.length →
    (∀ y, y ∈ (wOut x (fun i => l[i]!) i).1 ↔ y ∈ l.take i ∨ ((wOut x (fun i => l[i]!) i).2 = true ∧ y = x)) ∧ (wOut x (fun i => l[i]!) i).1.Pairwise lt_ ∧
    ((wOut x (fun i => l[i]!) i).2 = false → ∀ y ∈ l.take i, lt_ y x) ∧ ((wOut x (fun i => l[i]!) i).2 = true → ∀ j, i ≤ j → (hj : j < l.length) → lt_ x l[j])
  | 0, _ => by simp [wOut]
  | i + 1, h => by
    obtain ⟨h1, h2, h3, h4⟩ := wOut_inv x l hl hx i (by omega)
    have hi : i < l.length := by omega
    have hli : l[i]! = l[i] := getElem!_pos l i hi
    have htk : l.take (i + 1) = l.take i ++ [l[i]] := List.take_succ_eq_append_getElem hi
    have hlt : ∀ y ∈ l.take i, lt_ y l[i] := by
      have h := hl
      rw [← List.take_append_drop i l, List.pairwise_append] at h
      intro y hy
      exact h.2.2 y hy _ (by rw [List.drop_eq_getElem_cons hi]; exact List.mem_cons_self)
    have hlater : ∀ j, i < j → (hj : j < l.length) → lt_ l[i] l[j] := fun j hij hj => List.pairwise_iff_getElem.1 hl i j hi hj hij
    generalize hw : wOut x (fun i => l[i]!) i = W at h1 h2 h3 h4
    obtain ⟨L, b⟩ := W
    simp only at h1 h2 h3 h4
    rw [wOut, hw]
    simp only [hli, lss_lt]
    by_cases hc : b = false ∧ ltOf cfL x l[i] = true
    · rw [if_pos hc]
      obtain ⟨rfl, hxl⟩ := hc
      have h1' : ∀ y, y ∈ L ↔ y ∈ l.take i := fun y => by rw [h1]; simp
      simp only
      refine ⟨fun y => ?_, ?_, fun hh => (by cases hh), fun _ j hij hj => swoL.trans _ _ _ hxl (hlater j (by omega) hj)⟩
      · rw [htk]
        simp only [List.mem_append, List.mem_singleton, h1', true_and]
        constructor
        · rintro ((h | h) | h)
          · exact Or.inl (Or.inl h)
          · exact Or.inr h
          · exact Or.inl (Or.inr h)
        · rintro ((h | h) | h)
          · exact Or.inl (Or.inl h)
          · exact Or.inr h
          · exact Or.inl (Or.inr h)
      · rw [List.append_assoc, List.pairwise_append]
        refine ⟨h2, by simpa using hxl, fun y hy z hz => ?_⟩
        have hy' := (h1' y).1 hy
        have hyx := h3 rfl y hy'
        simp only [List.mem_append, List.mem_singleton] at hz
        rcases hz with rfl | rfl
        · exact hyx
        · exact hlt y hy'
    · rw [if_neg hc]
      simp only
      refine ⟨fun y => ?_, ?_, fun hb y hy => ?_, fun hb j hij hj => h4 hb j (by omega) hj⟩
      · rw [htk]
        simp only [List.mem_append, List.mem_singleton, h1]
        constructor
        · rintro ((h | h) | h)
          · exact Or.inl (Or.inl h)
          · exact Or.inr h
          · exact Or.inl (Or.inr h)
        · rintro ((h | h) | h)
          · exact Or.inl (Or.inl h)
          · exact Or.inr h
          · exact Or.inl (Or.inr h)
      · rw [List.pairwise_append]
        refine ⟨h2, by simp, fun y hy z hz => ?_⟩
        rw [List.mem_singleton] at hz
        subst hz
        rcases (h1 y).1 hy with hy | ⟨hb, rfl⟩
        · exact hlt y hy
        · exact h4 hb i (Nat.le_refl _) hi
      · rw [htk, List.mem_append, List.mem_singleton] at hy
        rcases hy with hy | rfl
        · exact h3 hb y hy
        · have hf : ltOf cfL x l[i] = false := by
            cases hh : ltOf cfL x l[i]
            · rfl
            · exact absurd ⟨hb, hh⟩ hc
          exact lt_of_not hf (fun e => hx (by rw [e]; exact List.getElem_mem hi))
theorem withL_inv (x : Lk) (l : List Lk) (hl : l.Pairwise lt_) : (withL l x).Pairwise lt_ ∧ ∀ y, y ∈ withL l x ↔ y ∈ l ∨ y = x := by
  unfold withL
  by_cases hx : x ∈ l
  · rw [if_pos hx]
    refine ⟨hl, fun y => ⟨Or.inl, ?_⟩⟩
    rintro (h | rfl)
    · exact h
    · exact hx
  · rw [if_neg hx]
    obtain ⟨h1, h2, h3, h4⟩ := wOut_inv x l hl hx l.length (Nat.le_refl _)
    rw [List.take_length] at h1 h3
    unfold addL
    generalize wOut x (fun i => l[i]!) l.length = W at *
    obtain ⟨L, b⟩ := W
    simp only at *
    cases b
    · refine ⟨?_, fun y => ?_⟩
      · simp only [Bool.false_eq_true, if_false]
        rw [List.pairwise_append]
        refine ⟨h2, by simp, fun y hy z hz => ?_⟩
        rw [List.mem_singleton] at hz
        subst hz
        rcases (h1 y).1 hy with h | ⟨h, _⟩
        · exact h3 rfl y h
        · cases h
      · simp only [Bool.false_eq_true, if_false, List.mem_append, List.mem_singleton, h1]
        simp
    · refine ⟨by simpa using h2, fun y => ?_⟩
      simp only [if_true]
      rw [h1]
      simp
theorem foldW_inv (f : Nat → Lk) : ∀ n, (foldW f n).Pairwise lt_ ∧ ∀ y, y ∈ foldW f n ↔ ∃ i, i < n ∧ f i = y
  | 0 => ⟨List.Pairwise.nil, fun y => by simp [foldW]⟩
  | n + 1 => by
    obtain ⟨h1, h2⟩ := foldW_inv f n
    obtain ⟨g1, g2⟩ := withL_inv (f n) (foldW f n) h1
    rw [foldW]
    refine ⟨g1, fun y => ?_⟩
    rw [g2, h2]
    constructor
    · rintro (⟨i, hi, rfl⟩ | rfl)
      · exact ⟨i, by omega, rfl⟩
      · exact ⟨n, by omega, rfl⟩
    · rintro ⟨i, hi, rfl⟩
      rcases Nat.lt_or_ge i n with h | h
      · exact Or.inl ⟨i, h, rfl⟩
      · obtain rfl : i = n := by omega
        exact Or.inr rfl
theorem compact_inv (d : Array Lk) (hd : ∀ i j, i < j → j < d.size → ltOf cfL d[j]! d[i]! = false) : ∀ m, m ≤ d.size → (compactUpTo d m).Pairwise lt_ ∧ ∀ y, y ∈ compactUpTo d m ↔ ∃ i, i < m ∧ d[i]! = y
  | 0, _ => ⟨by simp [compactUpTo], fun y => by simp [compactUpTo]⟩
  | m + 1, h => by
    obtain ⟨h1, h2⟩ := compact_inv d hd m (by omega)
    rw [compactUpTo_succ]
    cases hk : keeps d m
    · simp only [Bool.false_eq_true, if_false, List.append_nil]
      refine ⟨h1, fun y => ?_⟩
      unfold keeps at hk
      have hk' := of_decide_eq_false hk
      have hm0 : m ≠ 0 := fun e => hk' (Or.inl e)
      have he : d[m]! = d[m - 1]! := Classical.byContradiction fun e => hk' (Or.inr e)
      rw [h2]
      constructor
      · rintro ⟨i, hi, rfl⟩
        exact ⟨i, by omega, rfl⟩
      · rintro ⟨i, hi, rfl⟩
        rcases Nat.lt_or_ge i m with h | h
        · exact ⟨i, h, rfl⟩
        · obtain rfl : i = m := by omega
          exact ⟨i - 1, by omega, he.symm⟩
    · simp only [if_true]
      unfold keeps at hk
      have hk' := of_decide_eq_true hk
      refine ⟨?_, fun y => ?_⟩
      · rw [List.pairwise_append]
        refine ⟨h1, by simp, fun y hy z hz => ?_⟩
        rw [List.mem_singleton] at hz
        subst hz
        obtain ⟨i, hi, rfl⟩ := (h2 y).1 hy
        have hji := hd i m hi (by omega)
        refine lt_of_not hji fun e => ?_
        rcases hk' with hk' | hk'
        · omega
        · apply hk'
          refine totL _ _ (hd (m - 1) m (by omega) (by omega)) ?_
          rw [e]
          rcases Nat.lt_or_ge i (m - 1) with hlt | hge
          · exact hd i (m - 1) hlt (by omega)
          · obtain rfl : i = m - 1 := by omega
            exact swoL.irrefl _
      · rw [List.mem_append, List.mem_singleton, h2]
        constructor
        · rintro (⟨i, hi, rfl⟩ | rfl)
          · exact ⟨i, by omega, rfl⟩
          · exact ⟨m, by omega, rfl⟩
        · rintro ⟨i, hi, rfl⟩
          rcases Nat.lt_or_ge i m with h | h
          · exact Or.inl ⟨i, h, rfl⟩
          · obtain rfl : i = m := by omega
            exact Or.inr rfl
theorem srtL_mem (f : Nat → Lk) (n : Nat) (y : Lk) : (∃ i, i < n ∧ (srtL f n)[i]! = y) ↔ ∃ i, i < n ∧ f i = y := by
  have hp : (srtL f n).toList.Perm ((List.range n).map f) := by
    unfold srtL rowL
    exact List.mergeSort_perm _ _
  have h1 : (∃ i, i < n ∧ (srtL f n)[i]! = y) ↔ y ∈ (srtL f n).toList := by
    have hs := srtL_size f n
    constructor
    · rintro ⟨i, hi, rfl⟩
      rw [getElem!_pos _ i (by omega)]
      exact Array.getElem_mem_toList (by omega)
    · intro h
      obtain ⟨i, hi, he⟩ := List.getElem_of_mem h
      refine ⟨i, by simpa [hs] using hi, ?_⟩
      rw [getElem!_pos _ i (by simpa using hi), ← he]
      simp
  rw [h1, hp.mem_iff]
  simp
theorem srtL_asc (f : Nat → Lk) (n : Nat) (i j : Nat) (hij : i < j) (hj : j < (srtL f n).size) : ltOf cfL (srtL f n)[j]! (srtL f n)[i]! = false := by
  have hs : (srtL f n).toList.Pairwise (fun x y => (!(ltOf cfL) y x) = true) := by
    unfold srtL
    exact List.pairwise_mergeSort (fun a b c h1 h2 => by
      simp only [Bool.not_eq_true'] at *
      exact swoL.ntrans _ _ _ h2 h1) (fun a b => by
      cases h : ltOf cfL b a
      · rfl
      · have : ltOf cfL a b = false := by
          cases h2 : ltOf cfL a b
          · rfl
          · have := swoL.trans _ _ _ h h2
            rw [swoL.irrefl] at this
            cases this
        rw [this]; rfl) _
  have h := List.pairwise_iff_getElem.1 hs i j (by simpa using Nat.lt_trans hij hj) (by simpa using hj) hij
  rw [getElem!_pos (srtL f n) j hj, getElem!_pos (srtL f n) i (Nat.lt_trans hij hj)]
  simpa using h
theorem outL_inv (f : Nat → Lk) (n : Nat) : (outL f n).Pairwise lt_ ∧ ∀ y, y ∈ outL f n ↔ ∃ i, i < n ∧ f i = y := by
  obtain ⟨h1, h2⟩ := compact_inv (srtL f n) (fun i j => srtL_asc f n i j) n (by rw [srtL_size]; exact Nat.le_refl _)
  unfold outL
  exact ⟨h1, fun y => by rw [h2, srtL_mem]⟩
theorem asc_unique {l m : List Lk} (hl : l.Pairwise lt_) (hm : m.Pairwise lt_) (h : ∀ y, y ∈ l ↔ y ∈ m) : l = m := by
  have hp : l.Perm m := (List.perm_ext_iff_of_nodup (hl.imp fun h => lt_ne h) (hm.imp fun h => lt_ne h)).2 h
  refine List.Perm.eq_of_pairwise (le := lt_) (fun a b _ _ h1 h2 => ?_) hl hm hp
  have := swoL.trans _ _ _ h1 h2
  rw [swoL.irrefl] at this
  cases this
theorem outL_eq (f : Nat → Lk) (n : Nat) : outL f n = foldW f n := by
  obtain ⟨h1, h2⟩ := outL_inv f n
  obtain ⟨g1, g2⟩ := foldW_inv f n
  exact asc_unique h1 g1 fun y => by rw [h2, g2]
theorem linksL_eq (o : Plain) : linksL o = rlinksL o := by
  unfold linksL rlinksL
  rw [outL_eq]
end Go.Proofs.Ytmdchfmcghiaeaa.Obj
