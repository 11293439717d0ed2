/- Plain laws of a map's row of pairs: what is in it behind a Put, a Del, and behind a row of calls. No program is walked. (Layer 08.) -/
import Derived.Test.YtckhekkdidfefaaOpenCalls
import Derived.Test.YtckhekkdidfefaaSetR0
namespace Go.Proofs.Ytckhekkdidfefaa.Set
set_option linter.unusedVariables false
theorem key_at {L : Row} (hr : Rise (ks L)) {i j : Nat} (hi : i < L.length) (hj : j < L.length) (h : L[i].1 = L[j].1) : i = j := by
  have hi' : i < (ks L).length := by simpa using hi
  have hj' : j < (ks L).length := by simpa using hj
  have he : (ks L)[i] = (ks L)[j] := by simpa using h
  have hp := List.pairwise_iff_getElem.1 hr
  rcases Nat.lt_trichotomy i j with hij | hij | hij
  · exact (El.irr _ (he ▸ hp i j hi' hj' hij)).elim
  · exact hij
  · exact (El.irr _ (he ▸ hp j i hj' hi' hij)).elim
theorem mem_key {L : Row} {x : ByteArray} {y : Int} (h : (x, y) ∈ L) : x ∈ ks L := List.mem_map.2 ⟨_, h, rfl⟩
theorem mget_mem {L : Row} (hr : Rise (ks L)) {x : ByteArray} {y : Int} (h : (x, y) ∈ L) : mget L x = y := by
  obtain ⟨hp, hg, hx⟩ := mget_in hr (mem_key h)
  obtain ⟨i, hi, he⟩ := List.mem_iff_getElem.1 h
  have : pos (ks L) x = i := key_at hr hp hi (by rw [hx, he])
  subst this
  rw [hg, he]
theorem mput_mem {L : Row} (hr : Rise (ks L)) {x u : ByteArray} {y v : Int} : (u, v) ∈ mput x y L ↔ (u = x ∧ v = y) ∨ (u ≠ x ∧ (u, v) ∈ L) := by
  by_cases h : x ∈ ks L
  · obtain ⟨hp, hx⟩ := at_pos hr h
    rw [mput_in h]
    constructor
    · intro hm
      obtain ⟨i, hi, he⟩ := List.mem_iff_getElem.1 hm
      rw [List.length_set] at hi
      by_cases hip : i = pos (ks L) x
      · subst hip
        rw [List.getElem_set_self] at he
        exact Or.inl ⟨(congrArg Prod.fst he).symm, (congrArg Prod.snd he).symm⟩
      · rw [List.getElem_set_ne (fun e => hip e.symm)] at he
        refine Or.inr ⟨fun e => hip (key_at hr hi hp (by rw [hx, he, e])), List.mem_iff_getElem.2 ⟨i, hi, he⟩⟩
    · rintro (⟨rfl, rfl⟩ | ⟨hne, hm⟩)
      · exact List.mem_iff_getElem.2 ⟨pos (ks L) u, by rw [List.length_set]; exact hp, by rw [List.getElem_set_self]⟩
      · obtain ⟨i, hi, he⟩ := List.mem_iff_getElem.1 hm
        refine List.mem_iff_getElem.2 ⟨i, by rw [List.length_set]; exact hi, ?_⟩
        rw [List.getElem_set_ne (fun e => hne (by subst e; rw [he] at hx; exact hx))]
        exact he
  · rw [mput_out h, List.mem_append, List.mem_cons]
    have hsplit : (u, v) ∈ L ↔ (u, v) ∈ L.take (pos (ks L) x) ∨ (u, v) ∈ L.drop (pos (ks L) x) := by
      rw [← List.mem_append, List.take_append_drop]
    constructor
    · rintro (h1 | h1 | h1)
      · have hm := hsplit.2 (Or.inl h1)
        exact Or.inr ⟨fun e => h (e ▸ mem_key hm), hm⟩
      · injection h1 with e1 e2
        exact Or.inl ⟨e1, e2⟩
      · have hm := hsplit.2 (Or.inr h1)
        exact Or.inr ⟨fun e => h (e ▸ mem_key hm), hm⟩
    · rintro (⟨rfl, rfl⟩ | ⟨_, hm⟩)
      · exact Or.inr (Or.inl rfl)
      · exact (hsplit.1 hm).elim Or.inl fun h => Or.inr (Or.inr h)
theorem mdel_mem {L : Row} (hr : Rise (ks L)) {x u : ByteArray} {v : Int} : (u, v) ∈ mdel x L ↔ u ≠ x ∧ (u, v) ∈ L := by
  by_cases h : x ∈ ks L
  · obtain ⟨hp, hx⟩ := at_pos hr h
    rw [mdel_in h, List.mem_eraseIdx_iff_getElem]
    constructor
    · rintro ⟨i, hi, hne, he⟩
      exact ⟨fun e => hne (key_at hr hi hp (by rw [hx, he, e])), List.mem_iff_getElem.2 ⟨i, hi, he⟩⟩
    · rintro ⟨hne, hm⟩
      obtain ⟨i, hi, he⟩ := List.mem_iff_getElem.1 hm
      exact ⟨i, hi, fun e => hne (by subst e; rw [he] at hx; exact hx), he⟩
  · rw [mdel_out h]
    exact ⟨fun hm => ⟨fun e => h (e ▸ mem_key hm), hm⟩, fun hm => hm.2⟩
/-- What the calls leave. -/
noncomputable def play (f : Nat → Cl) : Nat → Row
  | 0 => []
  | k + 1 => if (f k).kind = 3 then mdel (f k).key (play f k) else mput (f k).key (f k).val (play f k)
theorem play_rise (f : Nat → Cl) : ∀ k, Rise (ks (play f k))
  | 0 => List.Pairwise.nil
  | k + 1 => by
    rw [play]
    split
    · exact ks_del_rise (play_rise f k)
    · rw [ks_put (play_rise f k)]; exact ins_rise (play_rise f k)
theorem play_len (f : Nat → Cl) : ∀ k, (play f k).length ≤ k
  | 0 => Nat.le_refl _
  | k + 1 => by
    have h := play_len f k
    rw [play]
    split
    · by_cases hx : (f k).key ∈ ks (play f k)
      · rw [mdel_in hx]
        have := List.length_eraseIdx_le (play f k) (pos (ks (play f k)) (f k).key)
        omega
      · rw [mdel_out hx]; omega
    · rw [← ks_len, ks_put (play_rise f k)]
      have := ins_le (f k).key (ks (play f k))
      rw [ks_len] at this
      omega
theorem play_mem (f : Nat → Cl) (u : ByteArray) (v : Int) : ∀ k, (u, v) ∈ play f k ↔ ∃ i, i < k ∧ (f i).key = u ∧ (f i).val = v ∧ (f i).kind ≠ 3 ∧ ∀ j, i < j → j < k → (f j).key ≠ u
  | 0 => by simp [play]
  | k + 1 => by
    have ih := play_mem f u v k
    have old : (∃ i, i < k ∧ (f i).key = u ∧ (f i).val = v ∧ (f i).kind ≠ 3 ∧ ∀ j, i < j → j < k + 1 → (f j).key ≠ u) ↔ u ≠ (f k).key ∧ (u, v) ∈ play f k := by
      rw [ih]
      constructor
      · rintro ⟨i, h1, h2, h3, h4, h5⟩
        exact ⟨fun e => h5 k h1 (Nat.lt_succ_self k) e.symm, i, h1, h2, h3, h4, fun j a b => h5 j a (by omega)⟩
      · rintro ⟨hne, i, h1, h2, h3, h4, h5⟩
        refine ⟨i, h1, h2, h3, h4, fun j a b => ?_⟩
        rcases Nat.lt_or_ge j k with hj | hj
        · exact h5 j a hj
        · obtain rfl : j = k := by omega
          exact fun e => hne e.symm
    have spl : (∃ i, i < k + 1 ∧ (f i).key = u ∧ (f i).val = v ∧ (f i).kind ≠ 3 ∧ ∀ j, i < j → j < k + 1 → (f j).key ≠ u) ↔ ((f k).key = u ∧ (f k).val = v ∧ (f k).kind ≠ 3) ∨ (∃ i, i < k ∧ (f i).key = u ∧ (f i).val = v ∧ (f i).kind ≠ 3 ∧ ∀ j, i < j → j < k + 1 → (f j).key ≠ u) := by
      constructor
      · rintro ⟨i, h1, h2, h3, h4, h5⟩
        rcases Nat.lt_or_ge i k with hi | hi
        · exact Or.inr ⟨i, hi, h2, h3, h4, h5⟩
        · obtain rfl : i = k := by omega
          exact Or.inl ⟨h2, h3, h4⟩
      · rintro (⟨h2, h3, h4⟩ | ⟨i, h1, h⟩)
        · exact ⟨k, Nat.lt_succ_self k, h2, h3, h4, fun j a b => by omega⟩
        · exact ⟨i, by omega, h⟩
    rw [spl, old, play]
    split
    · rename_i h3
      rw [mdel_mem (play_rise f k)]
      exact ⟨fun h => Or.inr h, fun h => h.elim (fun h => (h.2.2 h3).elim) fun h => h⟩
    · rename_i h3
      rw [mput_mem (play_rise f k)]
      exact ⟨fun h => h.elim (fun h => Or.inl ⟨h.1.symm, h.2.symm, h3⟩) Or.inr, fun h => h.elim (fun h => Or.inl ⟨h.1.symm, h.2.1.symm⟩) Or.inr⟩
end Go.Proofs.Ytckhekkdidfefaa.Set
