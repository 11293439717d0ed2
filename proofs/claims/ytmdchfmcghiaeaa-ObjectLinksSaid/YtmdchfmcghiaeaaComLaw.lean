/- Plain law: a commit's bytes are read back. Condition: the fields can be a commit's. -/
import Derived.Test.YtmdchfmcghiaeaaEncodeC
import Derived.Test.YtmdchfmcghiaeaaEntLaw
namespace Go.Proofs.Ytmdchfmcghiaeaa.Obj
open Oct
/-- The bytes of d texts from the k-th on. -/
def catFrom (f : Nat → ByteArray) : Nat → Nat → List UInt8
  | _, 0 => []
  | k, d + 1 => (f k).data.toList ++ catFrom f (k + 1) d
theorem catB_split (f : Nat → ByteArray) : ∀ d k, catB f (k + d) = catB f k ++ catFrom f k d
  | 0, k => by rw [catFrom, List.append_nil]; rfl
  | d + 1, k => by
    have ih := catB_split f d (k + 1)
    rw [show k + 1 + d = k + (d + 1) by omega] at ih
    rw [ih, catB, catFrom, List.append_assoc]
theorem ids_at {f : Nat → ByteArray} : ∀ {n k : Nat}, ids f n = true → k < n → (f k).size = 32
  | n + 1, k, h, hk => by
    rw [ids, Bool.and_eq_true, beq_iff_eq] at h
    rcases Nat.lt_or_ge k n with h' | h'
    · exact ids_at h.1 h'
    · obtain rfl : k = n := by omega
      have := h.2
      omega
theorem parS_from (f : Nat → ByteArray) (n : Nat) (hok : ids f n = true) (r : ByteArray) :
    ∀ k, k ≤ n → parS (⟨(catB f n).toArray⟩ ++ r, false) k = (⟨(catFrom f k (n - k)).toArray⟩ ++ r, false)
  | 0, _ => by
    have := catB_split f n 0
    rw [Nat.zero_add] at this
    rw [this]; rfl
  | k + 1, h => by
    rw [parS, parS_from f n hok r k (by omega), show n - k = (n - (k + 1)) + 1 by omega, catFrom, bytes_app, bytes_of, ByteArray.append_assoc]
    rw [takeR_app (f k) _ 32 (by rw [ids_at hok (by omega)]; rfl)]
theorem pars_back (f : Nat → ByteArray) (n : Nat) (hok : ids f n = true) (r : ByteArray) (k : Nat) (hk : k < n) : parT (⟨(catB f n).toArray⟩ ++ r, false) k = f k := by
  unfold parT
  rw [parS_from f n hok r k (by omega), show n - k = (n - (k + 1)) + 1 by omega, catFrom, bytes_app, bytes_of, ByteArray.append_assoc]
  rw [takeR_app (f k) _ 32 (by rw [ids_at hok hk]; rfl)]
theorem com_back (t : ByteArray) (n : Nat) (f : Nat → ByteArray) (hh : Nat) (nt : ByteArray) (ht : t.size = 32) (hn : n ≤ 8) (hok : ids f n = true) (hh1 : hh < 4294967296) (hnt : (nt.size : Int) ≤ 1000) (r s : ByteArray)
    (hs : s = ⟨(comB t n f hh nt).toArray⟩ ++ r) : comT s = (t, ⟨(le32 n).toArray⟩ ++ (⟨(catB f n).toArray⟩ ++ (⟨(le32 hh).toArray⟩ ++ (⟨(txt nt.data.toList).toArray⟩ ++ r))), false) ∧ comN s = n ∧ comP s = (⟨(le32 hh).toArray⟩ ++ (⟨(txt nt.data.toList).toArray⟩ ++ r), false) ∧
      val (comH s).1.data.toList = hh ∧ comNote s = (nt, r, false) := by
  have hr : rest s = t ++ (⟨(le32 n).toArray⟩ ++ (⟨(catB f n).toArray⟩ ++ (⟨(le32 hh).toArray⟩ ++ (⟨(txt nt.data.toList).toArray⟩ ++ r)))) := by
    have hx : s = ⟨(3 :: (t.data.toList ++ le32 n ++ catB f n ++ (le32 hh ++ txt nt.data.toList) ++ r.data.toList)).toArray⟩ := by
      rw [hs]
      unfold comB
      conv => lhs; rw [← bytes_of r]
      rw [← bytes_app]
      rfl
    rw [hx, rest_cons]
    simp only [bytes_app, bytes_of, ByteArray.append_assoc]
  have hT : comT s = (t, ⟨(le32 n).toArray⟩ ++ (⟨(catB f n).toArray⟩ ++ (⟨(le32 hh).toArray⟩ ++ (⟨(txt nt.data.toList).toArray⟩ ++ r))), false) := by
    unfold comT
    rw [hr]
    exact takeR_app t _ 32 (by rw [ht]; rfl)
  have hQ : comQ s = (⟨(le32 n).toArray⟩, ⟨(catB f n).toArray⟩ ++ (⟨(le32 hh).toArray⟩ ++ (⟨(txt nt.data.toList).toArray⟩ ++ r)), false) := by
    unfold comQ
    rw [hT]
    exact num_app n _
  have hN : comN s = n := by unfold comN; rw [hQ]; exact val_le32 n (by omega)
  have hP : comP s = (⟨(le32 hh).toArray⟩ ++ (⟨(txt nt.data.toList).toArray⟩ ++ r), false) := by
    unfold comP parsEnd
    rw [hN, if_neg (by omega), hQ, parS_from f n hok _ n (Nat.le_refl _), Nat.sub_self, catFrom]
    refine Prod.ext ?_ rfl
    apply ByteArray.ext
    apply Array.ext'
    simp
  have hH : comH s = (⟨(le32 hh).toArray⟩, ⟨(txt nt.data.toList).toArray⟩ ++ r, false) := by
    unfold comH
    rw [hP]
    exact num_app hh _
  refine ⟨hT, hN, hP, ?_, ?_⟩
  · rw [hH]; exact val_le32 hh hh1
  · unfold comNote
    rw [hH]
    exact textR_app nt r 1000 hnt (by omega)
end Go.Proofs.Ytmdchfmcghiaeaa.Obj
