/- Plain laws and helpers for the law ObjectLinks: how the links of an object lie. No program's conditions. -/
import Derived.Test.YtmdchfmcghiaeaaLinkLaw
import Derived.Test.YtmdchfmcghiaeaaGreat
import Derived.Test.YtmdchfmcghiaeaaHeight
import Derived.Test.YtmdchfmcghiaeaaOne
import Derived.Test.YtmdchfmcghiaeaaBackLaw
namespace Go.Proofs.Ytmdchfmcghiaeaa.Obj
set_option linter.unusedVariables false
open Go.RowKit Go.Sort Go.Lib
theorem rises_lt {f : Nat → ByteArray} : ∀ {n i j : Nat}, rises f n = true → i < j → j < n → (f i).data.toList < (f j).data.toList
  | 0, _, _, _, _, hj => absurd hj (Nat.not_lt_zero _)
  | 1, i, j, _, hi, hj => by omega
  | n + 2, i, j, h, hi, hj => by
    rw [rises, Bool.and_eq_true, Go.Proofs.bytesLess_eq, ByteArray.toList_eq, ByteArray.toList_eq, decide_eq_true_iff] at h
    rcases Nat.lt_or_ge j (n + 1) with h1 | h1
    · exact rises_lt h.1 hi h1
    · obtain rfl : j = n + 1 := by omega
      rcases Nat.lt_or_ge i n with h2 | h2
      · exact List.lt_trans (rises_lt h.1 h2 (by omega)) h.2
      · obtain rfl : i = n := by omega
        exact h.2
theorem commit_rises {t : ByteArray} {np : Nat} {f : Nat → ByteArray} {h : Int} {nt : ByteArray} (hok : commitOk t np f h nt = true) : rises f np = true := by
  unfold commitOk at hok
  simp only [Bool.and_eq_true] at hok
  exact hok.1.1.1.1.2
/-- Where nothing repeats, none is dropped. -/
theorem outL_length (f : Nat → Lk) (n : Nat) (h : ∀ i j, i < j → j < n → f i ≠ f j) : (outL f n).length = n := by
  obtain ⟨h1, h2⟩ := outL_inv f n
  have hn : ((List.range n).map f).Nodup := by
    rw [List.Nodup, List.pairwise_iff_getElem]
    intro i j hi hj hij
    simp only [List.length_map, List.length_range] at hi hj
    simpa using h i j hij hj
  have hp : (outL f n).Perm ((List.range n).map f) := (List.perm_ext_iff_of_nodup (h1.imp fun h => lt_ne h) hn).2 fun y => by rw [h2]; simp
  rw [hp.length_eq]
  simp
theorem links_asc (f : Nat → Lk) (n i : Nat) (h : i + 1 < (outL f n).length) : lt_ ((outL f n)[i]!) ((outL f n)[i + 1]!) := by
  rw [getElem!_pos _ (i + 1) h, getElem!_pos _ i (by omega)]
  exact List.pairwise_iff_getElem.1 (outL_inv f n).1 i (i + 1) (by omega) h (by omega)
theorem links_from (f : Nat → Lk) (n i : Nat) (h : i < (outL f n).length) : ∃ k, k < n ∧ f k = (outL f n)[i]! := by
  refine ((outL_inv f n).2 _).1 ?_
  rw [getElem!_pos _ i h]
  exact List.getElem_mem h
theorem links_has (f : Nat → Lk) (n k : Nat) (h : k < n) : ∃ i, i < (outL f n).length ∧ (outL f n)[i]! = f k := by
  obtain ⟨i, hi, he⟩ := List.getElem_of_mem (((outL_inv f n).2 (f k)).2 ⟨k, h, rfl⟩)
  exact ⟨i, hi, by rw [getElem!_pos _ i hi, he]⟩
theorem lt_parts {x y : Lk} (h : lt_ x y) : (Op.bytesLess x.2.toList y.2.toList = true ∧ Op.bytesLess y.2.toList x.2.toList = false ∧ (x.2.toList == y.2.toList) = false) ∨ (x.2 = y.2 ∧ x.1 < y.1 ∧ Op.bytesLess y.2.toList x.2.toList = false) := by
  have h := (ltL_iff x y).1 h
  simp only [Go.Proofs.bytesLess_eq, ByteArray.toList_eq]
  rcases h with h | ⟨h1, h2⟩
  · refine Or.inl ⟨decide_eq_true h, decide_eq_false (fun h' => List.lt_irrefl _ (List.lt_trans h h')), ?_⟩
    cases hx : (x.2.data.toList == y.2.data.toList)
    · rfl
    · rw [beq_iff_eq] at hx
      rw [hx] at h
      exact absurd h (List.lt_irrefl _)
  · exact Or.inr ⟨h1, h2, decide_eq_false (by rw [h1]; exact List.lt_irrefl _)⟩
end Go.Proofs.Ytmdchfmcghiaeaa.Obj
