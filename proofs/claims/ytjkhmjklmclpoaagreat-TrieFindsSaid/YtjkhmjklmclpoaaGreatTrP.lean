/- Plain laws of cells: below, sets, the cell that Look tells is right. No program is walked. (Layer 10.) -/
import Derived.Test.YtjkhmjklmclpoaaGreatTrI
namespace Go.Proofs.YtjkhmjklmclpoaaGreat.Tr
set_option linter.unusedVariables false
open Go.RowKit Go.Lib
open Set (StrAt scells El Rise)
theorem pfx_empty : pfxB ⟨#[]⟩ = true := by decide
theorem has_empty {x : ByteArray} (h : x.size = 32) : hasB x ⟨#[]⟩ = true := hasB_iff.2 ⟨h, by decide, fun i hi => absurd hi (by show ¬ i < 0; omega)⟩
theorem below_empty {l : List ByteArray} (h : ∀ x, x ∈ l → x.size = 32) : belowL l ⟨#[]⟩ = l := List.filter_eq_self.2 fun x hx => has_empty (h x hx)
theorem IsSet.below {l : List ByteArray} (h : IsSet l) (p : ByteArray) : IsSet (belowL l p) :=
  isSet_of (h.rise.filter _) fun x hx => h.size (List.mem_filter.1 hx).1
theorem below_self (l : List ByteArray) (p : ByteArray) : belowL (belowL l p) p = belowL l p := List.filter_eq_self.2 fun x hx => (List.mem_filter.1 hx).2
theorem look_ok {l : List ByteArray} {p : ByteArray} (h : IsSet l) (hp : pfxB p = true) : lookC l p = cellC (belowL l p) p ∧ lookE l p = 0 := by
  unfold lookC lookE
  rw [holds_true h, hp]
  exact ⟨rfl, rfl⟩
theorem sgn_inj : ∀ a b : Fin 16, sgn a.val = sgn b.val → a = b := by decide
theorem nib_inj {x y : ByteArray} {i : Nat} (h : sgn (nib x i) = sgn (nib y i)) : nib x i = nib y i := by
  have := sgn_inj ⟨nib x i, nib_lt x i⟩ ⟨nib y i, nib_lt y i⟩ h
  exact congrArg Fin.val this
theorem byte_nib (x : ByteArray) (k : Nat) : (x[k]!).toNat = 16 * nib x (2 * k) + nib x (2 * k + 1) := by
  unfold nib
  rw [if_pos (by omega), if_neg (by omega), show 2 * k / 2 = k by omega, show (2 * k + 1) / 2 = k by omega]
  omega
theorem nib_all {x y : ByteArray} (hx : x.size = 32) (hy : y.size = 32) (h : ∀ i, i < 64 → nib x i = nib y i) : x = y := by
  apply ByteArray.ext
  apply Array.ext (by simpa using hx.trans hy.symm)
  intro i h1 h2
  have h3 : i < x.size := h1
  have h4 : i < y.size := h2
  have e : (x[i]!).toNat = (y[i]!).toNat := by
    rw [byte_nib, byte_nib, h (2 * i) (by omega), h (2 * i + 1) (by omega)]
  rw [getElem!_pos x i h3, getElem!_pos y i h4] at e
  exact UInt8.toNat_inj.1 e
theorem has_full {x y p : ByteArray} (hx : hasB x p = true) (hy : hasB y p = true) (hp : p.size = 64) : x = y := by
  obtain ⟨h1, _, h2⟩ := hasB_iff.1 hx
  obtain ⟨h3, _, h4⟩ := hasB_iff.1 hy
  refine nib_all h1 h3 fun i hi => nib_inj ?_
  rw [← h2 i (by omega), h4 i (by omega)]
theorem pfx_size {p : ByteArray} (h : pfxB p = true) : p.size ≤ 64 := by
  unfold pfxB at h
  simp at h
  exact h.1
theorem set_one {l : List ByteArray} (h : IsSet l) (he : ∀ x y, x ∈ l → y ∈ l → x = y) : l.length ≤ 1 := by
  rcases Nat.lt_or_ge 1 l.length with h1 | h1
  · have := (h 1 h1).2 (by omega)
    have e := he l[0]! l[1]! (by rw [getElem!_pos l 0 (by omega)]; exact List.getElem_mem _) (by rw [getElem!_pos l 1 h1]; exact List.getElem_mem _)
    rw [show 1 - 1 = 0 from rfl, e] at this
    exact absurd this (El.irr _)
  · exact h1
theorem many_short {l : List ByteArray} {p : ByteArray} (h : IsSet l) (hp : pfxB p = true) (h8 : ¬ (belowL l p).length ≤ 8) : p.size < 64 := by
  have h1 := pfx_size hp
  rcases Nat.lt_or_ge p.size 64 with h2 | h2
  · exact h2
  · have := set_one (h.below p) fun x y hx hy => has_full (List.mem_filter.1 hx).2 (List.mem_filter.1 hy).2 (by omega)
    omega
/-- The cell that Look tells is right. -/
theorem chk_cell {l : List ByteArray} {p : ByteArray} (h : IsSet l) (hp : pfxB p = true) (hn : l.length ≤ 1000000) : chk (cellC (belowL l p) p) = 0 := by
  have hS := h.below p
  have hs := below_self l p
  have hln : (belowL l p).length ≤ 1000000 := Nat.le_trans (List.length_filter_le _ _) hn
  generalize hL : belowL l p = L at *
  unfold cellC
  by_cases h8 : L.length ≤ 8
  · rw [if_pos h8]
    rw [chk_leaf (by
      dsimp only
      rw [hp]
      rintro (h | h | h)
      · cases h
      · omega
      · omega) (by dsimp only; omega)]
    unfold leafChk
    rw [if_neg (by
      dsimp only
      rw [hs]
      rintro (h | h | h | h)
      · exact h rfl
      · simp at h
      · exact h hS
      · exact h rfl), if_neg (by simp)]
  · rw [if_neg h8]
    have hlt : p.size < 64 := many_short h hp (by rw [hL]; exact h8)
    have hk : (cellS 65 p.size L).2.length = 16 ∧ (∀ x, x ∈ (cellS 65 p.size L).2 → x.size = 32) ∧ (cellS 65 p.size L).1 = innerS (cellS 65 p.size L).2 := by
      unfold cellS
      rw [if_neg h8]
      exact ⟨kidsG_length _ _ _ _ _, kidsG_size (fun l => cellS_size _ _ _) _ _ _ _, rfl⟩
    rw [chk_sum (by
      dsimp only
      rw [hp]
      rintro (h | h | h)
      · cases h
      · omega
      · omega) (by dsimp only; omega) (by
      dsimp only
      rintro (h | h | h | h)
      · simp at h
      · exact h hk.1
      · rw [all32_iff.2 hk.2.1] at h; cases h
      · omega)]
    dsimp only
    rw [if_pos hk.2.2]
theorem cellC_pre (l : List ByteArray) (p : ByteArray) : (cellC l p).pre = p := by unfold cellC; split <;> rfl
theorem cellC_cnt (l : List ByteArray) (p : ByteArray) : (cellC l p).cnt = l.length := by unfold cellC; split <;> rfl
theorem cellC_sum (l : List ByteArray) (p : ByteArray) : (cellC l p).sum = (cellS 65 p.size l).1 := by
  unfold cellC
  split
  · next h => rw [cellS_few h]
  · rfl
theorem cellC_kids (l : List ByteArray) (p : ByteArray) : (cellC l p).kids = (cellS 65 p.size l).2 := by
  unfold cellC
  split
  · next h => rw [cellS_few h]
  · rfl
theorem cellC_ids (l : List ByteArray) (p : ByteArray) : (cellC l p).ids = if l.length ≤ 8 then l else [] := by unfold cellC; split <;> rfl
end Go.Proofs.YtjkhmjklmclpoaaGreat.Tr
