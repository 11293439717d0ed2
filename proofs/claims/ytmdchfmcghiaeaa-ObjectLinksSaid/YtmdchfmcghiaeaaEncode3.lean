/- object.Encode of commits: strings.Join without a separator. Conditions: ids of 32 bytes each, few. -/
import Derived.Test.YtmdchfmcghiaeaaEncode
namespace Go.Proofs.Ytmdchfmcghiaeaa.Obj
open Go.RowKit
/-- The bytes of the first n texts, one behind the other. -/
def catB (f : Nat → ByteArray) : Nat → List UInt8
  | 0 => []
  | k + 1 => catB f k ++ (f k).data.toList
/-- The first n texts. -/
def lst (f : Nat → ByteArray) : Nat → List ByteArray
  | 0 => []
  | k + 1 => lst f k ++ [f k]
theorem lst_length (f : Nat → ByteArray) : ∀ n, (lst f n).length = n
  | 0 => rfl
  | k + 1 => by rw [lst, List.length_append, lst_length f k]; rfl
theorem lst_get (f : Nat → ByteArray) : ∀ n i x, (lst f n)[i]? = some x → i < n ∧ x = f i
  | 0, i, x, h => by simp [lst] at h
  | k + 1, i, x, h => by
    rw [lst] at h
    have hl := lst_length f k
    rcases Nat.lt_or_ge i k with h' | h'
    · rw [List.getElem?_append_left (by omega)] at h
      have := lst_get f k i x h
      exact ⟨by omega, this.2⟩
    · rw [List.getElem?_append_right (by omega), hl] at h
      rcases Nat.eq_or_lt_of_le h' with h2 | h2
      · subst h2
        simp at h
        exact ⟨by omega, h.symm⟩
      · rw [List.getElem?_eq_none (by simp; omega)] at h
        cases h
theorem join_flat (l : List (List UInt8)) : Lib.join l [] = l.flatten := by
  cases l with
  | nil => rfl
  | cons x r => rw [Lib.join_cons, Lib.joinTail]; simp
theorem lst_flat (f : Nat → ByteArray) : ∀ n, ((lst f n).map (·.data.toList)).flatten = catB f n
  | 0 => rfl
  | k + 1 => by rw [lst, catB, ← lst_flat f k]; simp
theorem catB_length (f : Nat → ByteArray) : ∀ n, ids f n = true → (catB f n).length = 32 * n
  | 0, _ => rfl
  | k + 1, h => by
    rw [ids, Bool.and_eq_true, beq_iff_eq] at h
    rw [catB, List.length_append, catB_length f k h.1]
    have : (f k).data.toList.length = (f k).size := rfl
    omega
theorem join_any (ao : Option Addr) (n cap : Nat) (f : Nat → ByteArray) (w : World) (h : StrsAt w ao n f) (hid : ids f n = true) (hn : n ≤ 8) (hc : n ≤ cap) :
    Calls Try.prog 59 #[.slice ao n cap, .string ⟨#[]⟩] w fun e w' => e = .returned (.string ⟨(catB f n).toArray⟩) ∧ Below w.heap.size w w' := by
  rcases Nat.eq_zero_or_pos n with rfl | h0
  · refine (Try.strings_Join_none ao cap ⟨#[]⟩ w).mono ?_
    rintro e w' ⟨rfl, rfl⟩
    exact ⟨rfl, Below.refl _ _⟩
  · obtain ⟨b, off, rfl, hb, hcell⟩ := h.2 h0
    have hJ : Lib.join ((lst f n).map (·.data.toList)) (ByteArray.mk #[]).data.toList = catB f n := by
      show Lib.join ((lst f n).map (·.data.toList)) [] = catB f n
      rw [join_flat, lst_flat]
    have hl := catB_length f n hid
    have := Try.strings_Join b off cap (lst f n) ⟨#[]⟩ w (fun j x hx => by
      obtain ⟨hj, rfl⟩ := lst_get f n j x hx
      exact hcell j hj) hb (by rw [lst_length]; omega) (by rw [lst_length]; exact hc) (by rw [hJ]; omega)
    rw [lst_length, hJ] at this
    exact this
end Go.Proofs.Ytmdchfmcghiaeaa.Obj
