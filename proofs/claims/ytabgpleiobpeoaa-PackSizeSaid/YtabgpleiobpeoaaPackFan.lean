/- Plain laws of a pack's fan as it lies in the bytes. No program. -/
import Derived.Test.YtabgpleiobpeoaaPack5
namespace Go.Proofs.Ytabgpleiobpeoaa.Pak
set_option linter.unusedVariables false
open Oct (le32 val)
theorem le32_val (l : List UInt8) (h : l.length = 4) : le32 (val l) = l ∧ val l < 4294967296 := by
  match l, h with
  | [a, b, c, d], _ =>
    have ha := a.toNat_lt; have hb := b.toNat_lt; have hc := c.toNat_lt; have hd := d.toNat_lt
    unfold le32 val val val val val
    refine ⟨?_, by omega⟩
    simp only [List.cons.injEq, and_true]
    refine ⟨?_, ?_, ?_, ?_⟩ <;> (apply UInt8.toNat_inj.1; rw [UInt8.toNat_ofNat']; omega)
theorem fan_lies (l : List UInt8) (ids : List ByteArray) (hm : ids.length < 4294967296) : ∀ n, 12 + 4 * n ≤ l.length →
    ((l.drop 12).take (4 * n) = fanB ids n ↔ ∀ b, b < n → nAt l (12 + 4 * b) = fanN ids b)
  | 0, _ => ⟨fun _ b h => absurd h (Nat.not_lt_zero _), fun _ => rfl⟩
  | n + 1, h => by
    have ih := fan_lies l ids hm n (by omega)
    have e1 : (l.drop 12).take (4 * (n + 1)) = (l.drop 12).take (4 * n) ++ (l.drop (12 + 4 * n)).take 4 := by
      rw [show 4 * (n + 1) = 4 * n + 4 by omega, List.take_add, List.drop_drop]
    have z4 : ((l.drop (12 + 4 * n)).take 4).length = 4 := by rw [List.length_take, List.length_drop]; omega
    have hlt : fanN ids n < 4294967296 := Nat.lt_of_le_of_lt (fanN_le ids n) hm
    have e2 : (l.drop (12 + 4 * n)).take 4 = le32 (fanN ids n) ↔ nAt l (12 + 4 * n) = fanN ids n := by
      constructor
      · intro e
        unfold nAt
        rw [e, Oct.val_le32 _ hlt]
      · intro e
        rw [← e]
        exact (le32_val _ z4).1.symm
    rw [e1, fanB_snoc]
    constructor
    · intro e b hb
      obtain ⟨h1, h2⟩ := List.append_inj e (by rw [fanB_length, List.length_take, List.length_drop]; omega)
      rcases Nat.lt_or_ge b n with h3 | h3
      · exact ih.1 h1 b h3
      · obtain rfl : b = n := by omega
        exact e2.1 h2
    · intro hb
      rw [ih.2 fun b h3 => hb b (by omega), e2.2 (hb n (by omega))]
theorem firsts_of_steps {l : List UInt8} {n : Nat} (h : ∀ i, i + 1 < n → idAt l i < idAt l (i + 1)) (hs : 1036 + 44 * n ≤ l.length) : (idsOf l n).Pairwise fun x y => first x ≤ first y := by
  have hle : ∀ i, i + 1 < n → first ⟨(idAt l i).toArray⟩ ≤ first ⟨(idAt l (i + 1)).toArray⟩ := by
    intro i hi
    have h1 := h i hi
    unfold first
    show ((idAt l i).headD 0).toNat ≤ ((idAt l (i + 1)).headD 0).toNat
    cases ha : idAt l i with
    | nil => show (0 : UInt8).toNat ≤ _; exact Nat.zero_le _
    | cons x r =>
      cases hb : idAt l (i + 1) with
      | nil => rw [ha, hb] at h1; cases h1
      | cons y q =>
        rw [ha, hb] at h1
        rcases List.cons_lt_cons_iff.1 h1 with h2 | ⟨h2, _⟩
        · exact Nat.le_of_lt h2
        · rw [h2]; exact Nat.le_refl _
  have hall : ∀ d i, i + d < n → first ⟨(idAt l i).toArray⟩ ≤ first ⟨(idAt l (i + d)).toArray⟩ := by
    intro d
    induction d with
    | zero => intro i _; exact Nat.le_refl _
    | succ d ih => intro i hi; exact Nat.le_trans (ih i (by omega)) (hle (i + d) (by omega))
  rw [List.pairwise_iff_getElem]
  intro i j hi hj hij
  have hj' : j < n := by simpa [idsOf] using hj
  have := hall (j - i) i (by omega)
  rw [show i + (j - i) = j by omega] at this
  simpa [idsOf] using this
end Go.Proofs.Ytabgpleiobpeoaa.Pak
