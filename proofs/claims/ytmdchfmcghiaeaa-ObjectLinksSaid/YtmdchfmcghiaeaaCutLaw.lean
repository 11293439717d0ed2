/- Plain law: an object's bytes but a blob's, cut off or with more behind them, are none's. Condition: the object can be. -/
import Derived.Test.YtmdchfmcghiaeaaComLaw
import Derived.Test.YtmdchfmcghiaeaaEncodeAll
namespace Go.Proofs.Ytmdchfmcghiaeaa.Obj
open Oct
theorem takeR_good {r : ByteArray} {b : Bool} {n : Int} (h : (takeR r b n).2.2 = false) : b = false := by
  cases b
  · rfl
  · rw [takeR_bad] at h; cases h
theorem takeR_back {r : ByteArray} {b : Bool} {n : Int} (h : (takeR r b n).2.2 = false) : r = (takeR r b n).1 ++ (takeR r b n).2.1 ∧ ((takeR r b n).1.size : Int) = n := by
  unfold takeR at h ⊢
  split at h
  · next hc =>
    obtain ⟨hb, h0, hn⟩ := hc
    rw [if_pos ⟨hb, h0, hn⟩]
    simp only
    refine ⟨?_, ?_⟩
    · apply ByteArray.ext
      apply Array.ext'
      simp
    · rw [ByteArray.size_extract]
      omega
  · cases h
/-- Reading from p, where it stays good, is reading from p with q behind it. -/
theorem takeR_ext (p q : ByteArray) (b : Bool) (n : Int) (h : (takeR p b n).2.2 = false) : takeR (p ++ q) b n = ((takeR p b n).1, (takeR p b n).2.1 ++ q, false) := by
  obtain ⟨h1, h2⟩ := takeR_back h
  have hb := takeR_good h
  generalize takeR p b n = X at *
  rw [h1, hb, ByteArray.append_assoc]
  exact takeR_app X.1 (X.2.1 ++ q) n h2.symm
theorem textR_good {r : ByteArray} {b : Bool} {n : Int} (h : (textR r b n).2.2 = false) : (takeR r b 4).2.2 = false := by
  unfold textR at h
  split at h
  · cases h
  · exact takeR_good h
theorem textR_ext (p q : ByteArray) (b : Bool) (n : Int) (h : (textR p b n).2.2 = false) : textR (p ++ q) b n = ((textR p b n).1, (textR p b n).2.1 ++ q, false) := by
  have h4 := textR_good h
  unfold textR at h ⊢
  rw [takeR_ext p q b 4 h4]
  simp only
  split at h
  · cases h
  · next hc =>
    rw [if_neg hc, if_neg hc]
    rw [h4] at h ⊢
    exact takeR_ext _ q _ _ h
/-- A state with q behind it. -/
def ahead (s : ByteArray × Bool) (q : ByteArray) : ByteArray × Bool := (s.1 ++ q, s.2)
theorem takeK_good {s : ByteArray × Bool} (h : (takeK s).2.2 = false) : s.2 = false := by
  unfold takeK at h
  exact takeR_good h
theorem takeK_ext (s : ByteArray × Bool) (q : ByteArray) (h : (takeK s).2.2 = false) : takeK (ahead s q) = ((takeK s).1, ahead (takeK s).2 q) := by
  unfold takeK ahead at *
  rw [takeR_ext _ q _ _ h, h]
theorem takeN_good {s : ByteArray × Bool} (h : (takeN s).2.2 = false) : (takeK s).2.2 = false := by
  unfold takeN at h
  exact takeR_good (textR_good h)
theorem takeN_ext (s : ByteArray × Bool) (q : ByteArray) (h : (takeN s).2.2 = false) : takeN (ahead s q) = ((takeN s).1, ahead (takeN s).2 q) := by
  have hk := takeN_good h
  have e := takeK_ext s q hk
  unfold takeN at *
  rw [e]
  unfold ahead
  simp only
  rw [textR_ext _ q _ _ h, h]
theorem takeI_good {s : ByteArray × Bool} (h : (takeI s).2.2 = false) : (takeN s).2.2 = false := by
  unfold takeI at h
  exact takeR_good h
theorem entS_succ (s : ByteArray × Bool) (n : Nat) : entS s (n + 1) = (takeI (entS s n)).2 := rfl
theorem parS_succ (s : ByteArray × Bool) (n : Nat) : parS s (n + 1) = (takeR (parS s n).1 (parS s n).2 32).2 := rfl
theorem takeI_ext (s : ByteArray × Bool) (q : ByteArray) (h : (takeI s).2.2 = false) : takeI (ahead s q) = ((takeI s).1, ahead (takeI s).2 q) := by
  have e := takeN_ext s q (takeI_good h)
  unfold takeI at *
  rw [e]
  unfold ahead
  simp only
  rw [takeR_ext _ q _ _ h, h]
theorem entS_good (s : ByteArray × Bool) : ∀ {n k : Nat}, k ≤ n → (entS s n).2 = false → (entS s k).2 = false
  | 0, k, hk, h => by obtain rfl : k = 0 := by omega
                      exact h
  | n + 1, k, hk, h => by
    rcases Nat.lt_or_ge n k with h' | h'
    · obtain rfl : k = n + 1 := by omega
      exact h
    · rw [entS_succ] at h
      exact entS_good s h' (takeK_good (takeN_good (takeI_good h)))
theorem entS_ext (s : ByteArray × Bool) (q : ByteArray) : ∀ n, (entS s n).2 = false → entS (ahead s q) n = ahead (entS s n) q
  | 0, _ => rfl
  | n + 1, h => by
    have hk : (entS s n).2 = false := entS_good s (Nat.le_succ n) h
    rw [entS_succ] at h
    rw [entS_succ, entS_succ, entS_ext s q n hk, takeI_ext _ q h]
theorem parS_good (s : ByteArray × Bool) : ∀ {n k : Nat}, k ≤ n → (parS s n).2 = false → (parS s k).2 = false
  | 0, k, hk, h => by obtain rfl : k = 0 := by omega
                      exact h
  | n + 1, k, hk, h => by
    rcases Nat.lt_or_ge n k with h' | h'
    · obtain rfl : k = n + 1 := by omega
      exact h
    · rw [parS_succ] at h
      exact parS_good s h' (takeR_good h)
theorem parS_ext (s : ByteArray × Bool) (q : ByteArray) : ∀ n, (parS s n).2 = false → parS (ahead s q) n = ahead (parS s n) q
  | 0, _ => rfl
  | n + 1, h => by
    have hk : (parS s n).2 = false := parS_good s (Nat.le_succ n) h
    rw [parS_succ] at h
    rw [parS_succ, parS_succ, parS_ext s q n hk]
    unfold ahead
    simp only
    rw [takeR_ext _ q _ _ h]
    exact Prod.ext rfl h.symm
theorem rest_take (p : ByteArray) (hp : 0 < p.size) : (takeR p false 1).2 = (rest p, false) := by
  unfold takeR rest
  rw [if_pos ⟨rfl, by omega, by omega⟩]
  rfl
theorem rest_app (p q : ByteArray) (hp : 0 < p.size) : rest (p ++ q) = rest p ++ q := by
  have hs : (p ++ q).size = p.size + q.size := ByteArray.size_append
  have h1 := rest_take p hp
  have h2 := rest_take (p ++ q) (by omega)
  rw [takeR_ext p q false 1 (by rw [h1])] at h2
  rw [h1] at h2
  exact (congrArg Prod.fst h2).symm
theorem first_app (p q : ByteArray) (hp : 0 < p.size) : first (p ++ q) = first p := by
  unfold first kindOf
  have hs : (p ++ q).size = p.size + q.size := ByteArray.size_append
  rw [dif_pos hp, dif_pos (by omega)]
  rw [ByteArray.getElem_append_left hp]
/-- A tree that is read whole from p is read from p with q behind it, and q is left. -/
theorem treeEnd_ext (p q : ByteArray) (hp : 0 < p.size) (h : (treeEnd p).2 = false) : treeEnd (p ++ q) = ahead (treeEnd p) q ∧ treeN (p ++ q) = treeN p := by
  have hn : ¬ 256 < treeN p := by
    intro hc
    unfold treeEnd entsEnd at h
    rw [if_pos hc] at h
    cases h
  have h2 : (entS (treeQ p).2 (treeN p)).2 = false := by
    unfold treeEnd entsEnd at h
    rwa [if_neg hn] at h
  have h3 : (treeQ p).2.2 = false := entS_good _ (Nat.zero_le _) h2
  have hq : treeQ (p ++ q) = ((treeQ p).1, ahead (treeQ p).2 q) := by
    unfold treeQ at *
    rw [rest_app p q hp, takeR_ext _ q _ _ h3]
    unfold ahead
    rw [h3]
  have hN : treeN (p ++ q) = treeN p := by
    unfold treeN
    rw [hq]
  refine ⟨?_, hN⟩
  unfold treeEnd entsEnd
  rw [hN, if_neg hn, if_neg hn, hq]
  exact entS_ext _ q _ h2
theorem comEnd_ext (p q : ByteArray) (hp : 0 < p.size) (h : (comEnd p).2 = false) : comEnd (p ++ q) = ahead (comEnd p) q := by
  have h1 : (textR (comH p).2.1 (comH p).2.2 1000).2.2 = false := by unfold comEnd comNote at h; exact h
  have h2 : (comH p).2.2 = false := takeR_good (textR_good h1)
  have h3 : (comP p).2 = false := by unfold comH at h2; exact takeR_good h2
  have hn : ¬ 8 < comN p := by
    intro hc
    unfold comP parsEnd at h3
    rw [if_pos hc] at h3
    cases h3
  have h4 : (parS (comQ p).2 (comN p)).2 = false := by
    unfold comP parsEnd at h3
    rwa [if_neg hn] at h3
  have h5 : (comQ p).2.2 = false := parS_good _ (Nat.zero_le _) h4
  have h6 : (comT p).2.2 = false := by unfold comQ at h5; exact takeR_good h5
  have hT : comT (p ++ q) = ((comT p).1, ahead (comT p).2 q) := by
    unfold comT at *
    rw [rest_app p q hp, takeR_ext _ q _ _ h6]
    unfold ahead
    rw [h6]
  have hQ : comQ (p ++ q) = ((comQ p).1, ahead (comQ p).2 q) := by
    unfold comQ at *
    rw [hT]
    unfold ahead
    simp only
    rw [takeR_ext _ q _ _ h5, h5]
  have hN : comN (p ++ q) = comN p := by
    unfold comN
    rw [hQ]
  have hP : comP (p ++ q) = ahead (comP p) q := by
    unfold comP parsEnd
    rw [hN, if_neg hn, if_neg hn, hQ]
    exact parS_ext _ q _ h4
  have hH : comH (p ++ q) = ((comH p).1, ahead (comH p).2 q) := by
    unfold comH at *
    rw [hP]
    unfold ahead
    simp only
    rw [takeR_ext _ q _ _ h2, h2]
  unfold comEnd comNote at *
  rw [hH]
  unfold ahead
  simp only
  rw [textR_ext _ q _ _ h1, h1]
theorem enc_tree {o : Plain} (hg : o.good = true) (hk : o.k = 2) : enc o = ⟨(treeB o.ne o.nm o.kd o.id).toArray⟩ ∧ entsOk o.nm o.kd o.id o.ne = true ∧ o.ne ≤ 256 ∧ rises o.nm o.ne = true := by
  have h := hg
  unfold Plain.good at h
  rw [if_neg (by omega), if_pos hk] at h
  unfold treeOk at h
  simp only [Bool.and_eq_true, decide_eq_true_eq] at h
  obtain ⟨⟨h1, h2⟩, h3⟩ := h
  refine ⟨?_, h1, by omega, h3⟩
  unfold enc encB
  rw [if_pos hg, if_neg (by omega), if_pos hk]
theorem enc_commit {o : Plain} (hg : o.good = true) (hk : o.k = 3) : enc o = ⟨(comB o.t o.np o.f o.h.toNat o.n).toArray⟩ ∧ commitOk o.t o.np o.f o.h o.n = true := by
  have h := hg
  unfold Plain.good at h
  rw [if_neg (by omega), if_neg (by omega), if_pos hk] at h
  refine ⟨?_, h⟩
  unfold enc encB
  rw [if_pos hg, if_neg (by omega), if_neg (by omega)]
theorem good_kinds {o : Plain} (hg : o.good = true) : o.k = 1 ∨ o.k = 2 ∨ o.k = 3 := by
  unfold Plain.good at hg
  by_cases h1 : o.k = 1
  · exact Or.inl h1
  by_cases h2 : o.k = 2
  · exact Or.inr (Or.inl h2)
  by_cases h3 : o.k = 3
  · exact Or.inr (Or.inr h3)
  rw [if_neg h1, if_neg h2, if_neg h3] at hg
  cases hg
/-- How the bytes of an object that can be begin and end. -/
theorem enc_first (o : Plain) (hg : o.good = true) (r : ByteArray) : 0 < (enc o ++ r).size ∧ first (enc o ++ r) = o.k ∧ 0 < (enc o).size := by
  have key : ∀ (c : UInt8) (l : List UInt8), 0 < ((⟨(c :: l).toArray⟩ : ByteArray) ++ r).size ∧ first (⟨(c :: l).toArray⟩ ++ r) = (c.toNat : Int) ∧ 0 < (⟨(c :: l).toArray⟩ : ByteArray).size := fun c l => by
    have hz : 0 < (⟨(c :: l).toArray⟩ : ByteArray).size := by
      show 0 < (c :: l).toArray.size
      simp
    have hs : ((⟨(c :: l).toArray⟩ : ByteArray) ++ r).size = (⟨(c :: l).toArray⟩ : ByteArray).size + r.size := ByteArray.size_append
    refine ⟨by omega, ?_, hz⟩
    rw [first_app _ r hz]
    unfold first kindOf
    rw [dif_pos hz]
    rfl
  rcases good_kinds hg with hk | hk | hk
  · have e : enc o = ⟨(1 :: o.d.data.toList).toArray⟩ := by unfold enc encB; rw [if_pos hg, if_pos hk]
    rw [e, hk]
    exact key 1 _
  · rw [(enc_tree hg hk).1, hk]
    exact key 2 _
  · rw [(enc_commit hg hk).1, hk]
    exact key 3 _
theorem enc_tree_end (o : Plain) (hg : o.good = true) (hk : o.k = 2) (r : ByteArray) : treeEnd (enc o ++ r) = (r, false) := by
  obtain ⟨e, h1, h2, _⟩ := enc_tree hg hk
  exact (tree_back o.nm o.kd o.id o.ne h1 h2 r _ (by rw [e])).2.2
theorem enc_com_end (o : Plain) (hg : o.good = true) (hk : o.k = 3) (r : ByteArray) : comEnd (enc o ++ r) = (r, false) := by
  obtain ⟨e, h1⟩ := enc_commit hg hk
  obtain ⟨g1, g2, g3, g4, g5, g6⟩ := commit_fields h1
  unfold comEnd
  rw [(com_back o.t o.np o.f o.h.toNat o.n g5 g1 g2 (by omega) g6 r _ (by rw [e])).2.2.2.2]
theorem whole_size (e : ByteArray × Bool) (h : whole e = true) : e.2 = false ∧ e.1.size = 0 := by
  unfold whole at h
  simp only [Bool.and_eq_true, Bool.not_eq_true', decide_eq_true_eq] at h
  exact h
/-- With more behind them. -/
theorem dec_more (o : Plain) (hg : o.good = true) (hk : o.k ≠ 1) (r : ByteArray) (hr : 0 < r.size) : dec (enc o ++ r) = none := by
  obtain ⟨hz, hf, _⟩ := enc_first o hg r
  unfold dec
  rw [if_neg (by omega), hf, if_neg hk]
  rcases good_kinds hg with h | h | h
  · exact absurd h hk
  · rw [if_pos h, enc_tree_end o hg h r]
    have : whole (r, false) = false := by
      cases hw : whole (r, false)
      · rfl
      · have := (whole_size _ hw).2; simp only at this; omega
    rw [this]
    rfl
  · rw [if_neg (by omega), if_pos h, enc_com_end o hg h r]
    have : whole (r, false) = false := by
      cases hw : whole (r, false)
      · rfl
      · have := (whole_size _ hw).2; simp only at this; omega
    rw [this]
    rfl
/-- Cut off. -/
theorem dec_cut (o : Plain) (hg : o.good = true) (hk : o.k ≠ 1) (p q : ByteArray) (he : enc o = p ++ q) (hq : 0 < q.size) : dec p = none := by
  rcases Nat.eq_zero_or_pos p.size with h0 | h0
  · unfold dec; rw [if_pos h0]
  obtain ⟨_, hf, _⟩ := enc_first o hg ⟨#[]⟩
  have hemp : enc o ++ (⟨#[]⟩ : ByteArray) = enc o := by
    apply ByteArray.ext
    simp
  rw [hemp, he, first_app p q h0] at hf
  unfold dec
  rw [if_neg (by omega), hf, if_neg hk]
  rcases good_kinds hg with h | h | h
  · exact absurd h hk
  · rw [if_pos h]
    have hE := enc_tree_end o hg h ⟨#[]⟩
    rw [hemp, he] at hE
    have : whole (treeEnd p) = false := by
      cases hw : whole (treeEnd p)
      · rfl
      · obtain ⟨w1, w2⟩ := whole_size _ hw
        rw [(treeEnd_ext p q h0 w1).1] at hE
        have := congrArg (fun e => e.1.size) hE
        unfold ahead at this
        simp only [ByteArray.size_append] at this
        have e0 : (⟨#[]⟩ : ByteArray).size = 0 := rfl
        omega
    rw [this]
    rfl
  · rw [if_neg (by omega), if_pos h]
    have hE := enc_com_end o hg h ⟨#[]⟩
    rw [hemp, he] at hE
    have : whole (comEnd p) = false := by
      cases hw : whole (comEnd p)
      · rfl
      · obtain ⟨w1, w2⟩ := whole_size _ hw
        rw [comEnd_ext p q h0 w1] at hE
        have := congrArg (fun e => e.1.size) hE
        unfold ahead at this
        simp only [ByteArray.size_append] at this
        have e0 : (⟨#[]⟩ : ByteArray).size = 0 := rfl
        omega
    rw [this]
    rfl
end Go.Proofs.Ytmdchfmcghiaeaa.Obj
