/- What the law of falling logs says in plain: a log's order, its parents, the two maps' content. No program is walked. (Layer 11.) -/
import Derived.Test.YthcgdpdijdmelaaGreatMkMapG
import Derived.Test.YthcgdpdijdmelaaGreatOrdBP
namespace Go.Proofs.YthcgdpdijdmelaaGreat.Ord
set_option linter.unusedVariables false
set_option linter.unusedSimpArgs false
open Go.RowKit Go.Sort Go.Lib
open Set (StrAt scells Rise El Own_ pos has ins)
section
variable {n a : Nat} {f : Nat → Fv} {M : List Fv}
theorem GLog.low (hg : Grown n f) (ha : a < n) (h : GLog n f a M) {y : Fv} (hy : y ∈ M) : y = f a ∨ lowF y (f a) := by
  obtain ⟨i, hi, hm, rfl⟩ := (h.mem y).1 hy
  obtain ⟨i', hi', he, hc⟩ := met_h hg ha hm
  have := hg.dist i i' (by omega) hi' he
  subst this
  rcases hc with rfl | hc
  · exact Or.inl rfl
  · exact Or.inr (Or.inl hc)
theorem GLog.head (hg : Grown n f) (ha : a < n) (h : GLog n f a M) : 0 < M.length ∧ M[0]! = f a := by
  have hs := h.self
  have hl : 0 < M.length := List.length_pos_of_mem hs
  refine ⟨hl, ?_⟩
  rw [getElem!_pos M 0 hl]
  obtain ⟨i, hi, he⟩ := List.getElem_of_mem hs
  rcases Nat.eq_zero_or_pos i with rfl | h0
  · exact he
  · have h1 := List.pairwise_iff_getElem.1 h.falls 0 i hl hi h0
    rw [he] at h1
    rcases h.low hg ha (List.getElem_mem hl) with h2 | h2
    · exact h2
    · exact absurd (low_trans h1 h2) (low_irrefl _)
theorem GLog.falls_at (h : GLog n f a M) {i j : Nat} (hij : i < j) (hj : j < M.length) : lowF M[j]! M[i]! := by
  rw [getElem!_pos M j hj, getElem!_pos M i (by omega)]
  exact List.pairwise_iff_getElem.1 h.falls i j (by omega) hj hij
theorem GLog.at_i (h : GLog n f a M) (ha : a < n) {i : Nat} (hi : i < M.length) : ∃ j, j < n ∧ M[i]! = f j := by
  rw [getElem!_pos M i hi]
  obtain ⟨j, hj, he⟩ := GLog.at_ h ha (List.getElem_mem hi)
  exact ⟨j, hj, he.symm⟩
theorem GLog.id_ne (hg : Grown n f) (ha : a < n) (h : GLog n f a M) {i j : Nat} (hij : i < j) (hj : j < M.length) : M[i]!.id ≠ M[j]!.id := fun he => by
  obtain ⟨p, hp, e1⟩ := h.at_i ha (i := i) (by omega)
  obtain ⟨q, hq, e2⟩ := h.at_i ha hj
  have hl := h.falls_at hij hj
  rw [e1, e2] at he hl
  rw [hg.dist p q hp hq he] at hl
  exact low_irrefl _ hl
theorem cmp_one {x y : Fv} (h : lowF y x) : cmpF x y = 1 := by
  have h1 := (cmp_neg y x).2 h
  rw [cmp_val] at h1 ⊢
  rcases h with h | ⟨h, h2⟩
  · rw [if_neg (by omega), if_pos h]
  · have hne : ¬ x.id = y.id := fun e => by rw [e] at h2; exact absurd h2 (List.lt_irrefl _)
    rw [if_neg (by omega), if_neg (by omega), if_neg hne, if_neg (fun h3 => absurd (List.lt_trans h2 h3) (List.lt_irrefl _))]
/-- A fact's parents stand behind it. -/
theorem GLog.parent (hg : Grown n f) (ha : a < n) (h : GLog n f a M) {i k : Nat} (hi : i < M.length) (hk : k < (M[i]!).np) : ∃ j, i < j ∧ j < M.length ∧ (M[j]!).id = (M[i]!).p k := by
  obtain ⟨q, hq, hm, he⟩ := (h.mem M[i]!).1 (by rw [getElem!_pos M i hi]; exact List.getElem_mem hi)
  have hqn : q < n := by omega
  rw [← he] at hk
  obtain ⟨r, hr, hp⟩ := hg.par q hqn k hk
  have hmet : Met n f (f a).id (f r).id := by
    have := Met.step hqn hm hk
    rwa [hp, ← hg.id r (by omega)] at this
  have hmem : f r ∈ M := (h.mem _).2 ⟨r, by omega, hmet, rfl⟩
  obtain ⟨j, hj, hje⟩ := List.getElem_of_mem hmem
  have hlow : lowF (f r) (f q) := Or.inl (by have := hg.top q hqn k hk r hr hp; omega)
  refine ⟨j, ?_, hj, by rw [getElem!_pos M j hj, hje, ← he, hp, hg.id r (by omega)]⟩
  rcases Nat.lt_trichotomy i j with h1 | h1 | h1
  · exact h1
  · subst h1
    rw [← getElem!_pos M i hi, ← he] at hje
    rw [hje] at hlow
    exact absurd hlow (low_irrefl _)
  · have h2 := h.falls_at h1 hi
    rw [getElem!_pos M j hj, hje, ← he] at h2
    exact absurd (low_trans hlow h2) (low_irrefl _)
end
/-- Where texts stand. -/
def Wh (L : Set.Row) (K : List ByteArray) (n : Nat) : Prop := ∀ z, z ∈ L ↔ ∃ i, i < n ∧ z = (K[i]!, (i : Int))
def Apt (K : List ByteArray) : Prop := ∀ i j, i < j → j < K.length → K[i]! ≠ K[j]!
theorem Apt.eq {K : List ByteArray} (h : Apt K) {i j : Nat} (hi : i < K.length) (hj : j < K.length) (he : K[i]! = K[j]!) : i = j := by
  rcases Nat.lt_trichotomy i j with h1 | h1 | h1
  · exact absurd he (h i j h1 hj)
  · exact h1
  · exact absurd he.symm (h j i h1 hi)
theorem Wh.new {L : Set.Row} {K : List ByteArray} {n : Nat} (h : Wh L K n) (hk : Apt K) (hn : n < K.length) : ¬ K[n]! ∈ Set.ks L := fun hx => by
  obtain ⟨z, hz, he⟩ := List.mem_map.1 hx
  obtain ⟨i, hi, rfl⟩ := (h z).1 hz
  exact hk i n hi hn he
theorem Wh.put {L : Set.Row} {K : List ByteArray} {n : Nat} (h : Wh L K n) (hk : Apt K) (hn : n < K.length) : Wh (Set.mput K[n]! (n : Int) L) K (n + 1) ∧ (Set.mput K[n]! (n : Int) L).length = L.length + 1 := by
  rw [Set.mput_out (h.new hk hn)]
  obtain ⟨p, hp⟩ : ∃ p, p = pos (Set.ks L) K[n]! := ⟨_, rfl⟩
  have hpl : p ≤ L.length := by rw [hp, ← Set.ks_len L]; exact Set.pos_le _ _
  rw [← hp]
  refine ⟨fun z => ?_, by rw [List.length_append, List.length_cons, List.length_take, List.length_drop]; omega⟩
  have e : z ∈ L ↔ z ∈ L.take p ∨ z ∈ L.drop p := by rw [← List.mem_append, List.take_append_drop]
  rw [List.mem_append, List.mem_cons]
  constructor
  · rintro (h1 | h1 | h1)
    · obtain ⟨i, hi, he⟩ := (h z).1 (e.2 (Or.inl h1))
      exact ⟨i, by omega, he⟩
    · exact ⟨n, by omega, h1⟩
    · obtain ⟨i, hi, he⟩ := (h z).1 (e.2 (Or.inr h1))
      exact ⟨i, by omega, he⟩
  · rintro ⟨i, hi, he⟩
    rcases Nat.lt_or_ge i n with h1 | h1
    · rcases e.1 ((h z).2 ⟨i, h1, he⟩) with h2 | h2
      · exact Or.inl h2
      · exact Or.inr (Or.inr h2)
    · obtain rfl : i = n := by omega
      exact Or.inr (Or.inl he)
theorem Wh.get {L : Set.Row} {K : List ByteArray} (h : Wh L K K.length) (hr : Rise (Set.ks L)) (hk : Apt K) {i : Nat} (hi : i < K.length) : has (Set.ks L) K[i]! = true ∧ Set.mget L K[i]! = (i : Int) := by
  have hm : K[i]! ∈ Set.ks L := List.mem_map.2 ⟨_, (h _).2 ⟨i, hi, rfl⟩, rfl⟩
  refine ⟨Set.has_true hm, ?_⟩
  obtain ⟨hp, h1, h2⟩ := Set.mget_in hr hm
  obtain ⟨j, hj, he⟩ := (h _).1 (List.getElem_mem hp)
  rw [h1, he]
  rw [he] at h2
  rw [hk.eq hj hi h2]
/-- Facts by their ids. -/
def Fw (L : RowF) (f : Nat → Fv) (n : Nat) : Prop := ∀ z, z ∈ L ↔ ∃ i, i < n ∧ z = ((f i).id, f i)
theorem Fw.new {L : RowF} {f : Nat → Fv} {n m : Nat} (h : Fw L f n) (hd : Dist m f) (hn : n < m) : ¬ (f n).id ∈ kf L := fun hx => by
  obtain ⟨z, hz, he⟩ := List.mem_map.1 hx
  obtain ⟨i, hi, rfl⟩ := (h z).1 hz
  have := hd i n (by omega) hn he
  omega
theorem Fw.put {L L' : RowF} {f : Nat → Fv} {n : Nat} (h : Fw L f n) (h' : ∀ z, z ∈ L' ↔ z = ((f n).id, f n) ∨ z ∈ L) : Fw L' f (n + 1) := fun z => by
  rw [h' z, h z]
  constructor
  · rintro (h1 | ⟨i, hi, he⟩)
    · exact ⟨n, by omega, h1⟩
    · exact ⟨i, by omega, he⟩
  · rintro ⟨i, hi, he⟩
    rcases Nat.lt_or_ge i n with h1 | h1
    · exact Or.inr ⟨i, h1, he⟩
    · obtain rfl : i = n := by omega
      exact Or.inl he
theorem Fw.has {L : RowF} {f : Nat → Fv} {m i : Nat} (h : Fw L f m) (hi : i < m) : (f i).id ∈ kf L := List.mem_map.2 ⟨_, (h _).2 ⟨i, hi, rfl⟩, rfl⟩
theorem Fw.get {L : RowF} {f : Nat → Fv} {m i : Nat} {y : Fv} (h : Fw L f m) (hd : Dist m f) (hi : i < m) (hy : ((f i).id, y) ∈ L) : y = f i := by
  obtain ⟨j, hj, he⟩ := (h _).1 hy
  have h1 : (f i).id = (f j).id := congrArg Prod.fst he
  have h2 : y = f j := congrArg Prod.snd he
  rw [h2, hd i j hi hj h1]
theorem ids_at {M : List Fv} {i : Nat} (hi : i < M.length) : (ids M)[i]! = (M[i]!).id := by
  rw [getElem!_pos (ids M) i (by rw [ids_length]; exact hi), getElem!_pos M i hi]
  simp [ids]
end Go.Proofs.YthcgdpdijdmelaaGreat.Ord
