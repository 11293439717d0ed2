/- Plain law: how long an object's bytes are at most. Condition: the object can be. -/
import Derived.Test.YtmdchfmcghiaeaaCutLaw
namespace Go.Proofs.Ytmdchfmcghiaeaa.Obj
open Oct
theorem txt_len (l : List UInt8) : (txt l).length = 4 + l.length := by unfold txt; rw [List.length_append, le32_length]
theorem entsB_len (nm : Nat → ByteArray) (kd : Nat → Int) (id : Nat → ByteArray) : ∀ n, entsOk nm kd id n = true → (entsB nm kd id n).length ≤ n * 292
  | 0, _ => Nat.le_refl _
  | n + 1, h => by
    have h1 := entsOk_at h (Nat.lt_succ_self n)
    have h2 : entsOk nm kd id n = true := by
      unfold entsOk at h
      simp only [Bool.and_eq_true] at h
      exact h.1
    have ih := entsB_len nm kd id n h2
    unfold entOk at h1
    simp only [Bool.and_eq_true, beq_iff_eq] at h1
    obtain ⟨⟨q1, _⟩, q3⟩ := h1
    have qn := nameOk_size q1
    have e1 : (nm n).data.toList.length = (nm n).size := rfl
    have e2 : (id n).data.toList.length = (id n).size := rfl
    rw [entsB, List.length_append]
    unfold entB
    rw [List.length_cons, List.length_append, txt_len, e1, e2]
    omega
theorem catB_len (f : Nat → ByteArray) : ∀ n, ids f n = true → (catB f n).length = n * 32
  | 0, _ => rfl
  | n + 1, h => by
    have h1 := ids_at h (Nat.lt_succ_self n)
    have h2 : ids f n = true := by
      rw [ids, Bool.and_eq_true] at h
      exact h.1
    have ih := catB_len f n h2
    have e1 : (f n).data.toList.length = (f n).size := rfl
    rw [catB, List.length_append, ih, e1, h1]
    omega
theorem enc_size (o : Plain) (hg : o.good = true) : (enc o).size ≤ 80000 := by
  rcases good_kinds hg with hk | hk | hk
  · have e : enc o = ⟨(1 :: o.d.data.toList).toArray⟩ := by unfold enc encB; rw [if_pos hg, if_pos hk]
    have h := hg
    unfold Plain.good at h
    rw [if_pos hk, decide_eq_true_eq] at h
    rw [e]
    show (1 :: o.d.data.toList).length ≤ 80000
    rw [List.length_cons]
    have e1 : o.d.data.toList.length = o.d.size := rfl
    omega
  · obtain ⟨e, h1, h2, _⟩ := enc_tree hg hk
    rw [e]
    show (treeB o.ne o.nm o.kd o.id).length ≤ 80000
    unfold treeB
    have := entsB_len o.nm o.kd o.id o.ne h1
    rw [List.length_cons, List.length_append, le32_length]
    omega
  · obtain ⟨e, h1⟩ := enc_commit hg hk
    obtain ⟨g1, g2, g3, g4, g5, g6⟩ := commit_fields h1
    rw [e]
    show (comB o.t o.np o.f o.h.toNat o.n).length ≤ 80000
    unfold comB
    have := catB_len o.f o.np g2
    have e1 : o.t.data.toList.length = o.t.size := rfl
    have e2 : o.n.data.toList.length = o.n.size := rfl
    simp only [List.length_cons, List.length_append, le32_length, txt_len]
    omega
end Go.Proofs.Ytmdchfmcghiaeaa.Obj
