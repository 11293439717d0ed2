/- Plain law: an entry's bytes are read as that entry. Condition: the entry can be a tree's. -/
import Derived.Test.YtmdchfmcghiaeaaEncode
import Derived.Test.YtmdchfmcghiaeaaBytes
namespace Go.Proofs.Ytmdchfmcghiaeaa.Obj
open Oct
theorem ent_step (nm : ByteArray) (kd : Int) (id r : ByteArray) (hok : entOk nm kd id = true) :
    takeK (⟨(entB nm kd id).toArray⟩ ++ r, false) = (⟨#[UInt8.ofNat kd.toNat]⟩, ⟨(txt nm.data.toList).toArray⟩ ++ (id ++ r), false) ∧
    takeN (⟨(entB nm kd id).toArray⟩ ++ r, false) = (nm, id ++ r, false) ∧ takeI (⟨(entB nm kd id).toArray⟩ ++ r, false) = (id, r, false) ∧ kindOf ⟨#[UInt8.ofNat kd.toNat]⟩ = kd := by
  have h := hok
  unfold entOk at h
  simp only [Bool.and_eq_true, Bool.or_eq_true, beq_iff_eq] at h
  obtain ⟨⟨h1, h2⟩, h3⟩ := h
  have hn := nameOk_size h1
  have e : (⟨(entB nm kd id).toArray⟩ ++ r : ByteArray) = ⟨#[UInt8.ofNat kd.toNat]⟩ ++ (⟨(txt nm.data.toList).toArray⟩ ++ (id ++ r)) := by
    unfold entB
    rw [show UInt8.ofNat kd.toNat :: (txt nm.data.toList ++ id.data.toList) = [UInt8.ofNat kd.toNat] ++ (txt nm.data.toList ++ id.data.toList) from rfl, bytes_app, bytes_app, bytes_of, ByteArray.append_assoc, ByteArray.append_assoc]
  have k1 : takeK (⟨(entB nm kd id).toArray⟩ ++ r, false) = (⟨#[UInt8.ofNat kd.toNat]⟩, ⟨(txt nm.data.toList).toArray⟩ ++ (id ++ r), false) := by
    unfold takeK
    simp only
    rw [e]
    exact takeR_app _ _ 1 rfl
  have k2 : takeN (⟨(entB nm kd id).toArray⟩ ++ r, false) = (nm, id ++ r, false) := by
    unfold takeN
    rw [k1]
    exact textR_app nm _ 255 hn (by omega)
  have k3 : takeI (⟨(entB nm kd id).toArray⟩ ++ r, false) = (id, r, false) := by
    unfold takeI
    rw [k2]
    exact takeR_app id r 32 h3.symm
  refine ⟨k1, k2, k3, ?_⟩
  rcases h2 with rfl | rfl <;> rfl
/-- The bytes of d entries from the k-th on. -/
def entsFrom (nm : Nat → ByteArray) (kd : Nat → Int) (id : Nat → ByteArray) : Nat → Nat → List UInt8
  | _, 0 => []
  | k, d + 1 => entB (nm k) (kd k) (id k) ++ entsFrom nm kd id (k + 1) d
theorem entsB_split (nm : Nat → ByteArray) (kd : Nat → Int) (id : Nat → ByteArray) : ∀ d k, entsB nm kd id (k + d) = entsB nm kd id k ++ entsFrom nm kd id k d
  | 0, k => by rw [entsFrom, List.append_nil]; rfl
  | d + 1, k => by
    have ih := entsB_split nm kd id d (k + 1)
    rw [show k + 1 + d = k + (d + 1) by omega] at ih
    rw [ih, entsB, entsFrom, List.append_assoc]
theorem entS_from (nm : Nat → ByteArray) (kd : Nat → Int) (id : Nat → ByteArray) (n : Nat) (hok : entsOk nm kd id n = true) (r : ByteArray) :
    ∀ k, k ≤ n → entS (⟨(entsB nm kd id n).toArray⟩ ++ r, false) k = (⟨(entsFrom nm kd id k (n - k)).toArray⟩ ++ r, false)
  | 0, _ => by
    have := entsB_split nm kd id n 0
    rw [Nat.zero_add] at this
    rw [this]; rfl
  | k + 1, h => by
    rw [entS, entS_from nm kd id n hok r k (by omega), show n - k = (n - (k + 1)) + 1 by omega, entsFrom, bytes_app, ByteArray.append_assoc]
    rw [(ent_step (nm k) (kd k) (id k) _ (entsOk_at hok (by omega))).2.2.1]
theorem ents_back (nm : Nat → ByteArray) (kd : Nat → Int) (id : Nat → ByteArray) (n : Nat) (hok : entsOk nm kd id n = true) (r : ByteArray) (k : Nat) (hk : k < n) :
    entN (⟨(entsB nm kd id n).toArray⟩ ++ r, false) k = nm k ∧ entK (⟨(entsB nm kd id n).toArray⟩ ++ r, false) k = kd k ∧ entI (⟨(entsB nm kd id n).toArray⟩ ++ r, false) k = id k := by
  unfold entN entK entI
  rw [entS_from nm kd id n hok r k (by omega), show n - k = (n - (k + 1)) + 1 by omega, entsFrom, bytes_app, ByteArray.append_assoc]
  obtain ⟨e1, e2, e3, e4⟩ := ent_step (nm k) (kd k) (id k) (⟨(entsFrom nm kd id (k + 1) (n - (k + 1))).toArray⟩ ++ r) (entsOk_at hok hk)
  rw [e1, e2, e3]
  exact ⟨rfl, e4, rfl⟩
theorem rest_cons (c : UInt8) (l : List UInt8) : rest ⟨(c :: l).toArray⟩ = ⟨l.toArray⟩ := by
  unfold rest
  rw [show (⟨(c :: l).toArray⟩ : ByteArray) = ⟨#[c]⟩ ++ ⟨l.toArray⟩ from by rw [show c :: l = [c] ++ l from rfl, bytes_app]]
  exact ByteArray.extract_append_eq_right rfl ByteArray.size_append
/-- Where the Reader stands behind a tree's bytes and what is behind them. -/
theorem tree_back (nm : Nat → ByteArray) (kd : Nat → Int) (id : Nat → ByteArray) (n : Nat) (hok : entsOk nm kd id n = true) (hn : n ≤ 256) (r : ByteArray) (s : ByteArray)
    (hs : s = ⟨(treeB n nm kd id).toArray⟩ ++ r) : treeQ s = (⟨(le32 n).toArray⟩, ⟨(entsB nm kd id n).toArray⟩ ++ r, false) ∧ treeN s = n ∧ treeEnd s = (r, false) := by
  have hq : treeQ s = (⟨(le32 n).toArray⟩, ⟨(entsB nm kd id n).toArray⟩ ++ r, false) := by
    have hr : rest s = ⟨(le32 n).toArray⟩ ++ (⟨(entsB nm kd id n).toArray⟩ ++ r) := by
      have hb : (⟨(le32 n).toArray⟩ ++ (⟨(entsB nm kd id n).toArray⟩ ++ r) : ByteArray) = ⟨(le32 n ++ entsB nm kd id n ++ r.data.toList).toArray⟩ := by
        rw [bytes_app, bytes_app, bytes_of, ByteArray.append_assoc]
      have hx : s = ⟨(2 :: (le32 n ++ entsB nm kd id n ++ r.data.toList)).toArray⟩ := by
        rw [hs]
        unfold treeB
        conv => lhs; rw [← bytes_of r]
        rw [← bytes_app]
        rfl
      rw [hx, rest_cons, hb]
    unfold treeQ
    rw [hr]
    exact num_app n _
  have hN : treeN s = n := by unfold treeN; rw [hq]; exact val_le32 n (by omega)
  refine ⟨hq, hN, ?_⟩
  unfold treeEnd entsEnd
  rw [hN, if_neg (by omega), hq, entS_from nm kd id n hok r n (Nat.le_refl _), Nat.sub_self, entsFrom]
  refine Prod.ext ?_ rfl
  apply ByteArray.ext
  apply Array.ext'
  simp
end Go.Proofs.Ytmdchfmcghiaeaa.Obj
