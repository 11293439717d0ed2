/- Plain law: the pack of objects is read back as those objects. No program. (Layer 07.) -/
import Derived.Test.YtabgpleiobpeoaaPackFan
namespace Go.Proofs.Ytabgpleiobpeoaa.Pak
set_option linter.unusedVariables false
open Oct (le32 val)
/-- Objects as a pack may hold them: at most 1024, not none, rising by their ids, each the digest of its bytes, none too long. -/
structure Fine (L : List It) : Prop where
  ne : L ≠ []
  most : L.length ≤ 1024
  rise : L.Pairwise lowI
  ids : ∀ x ∈ L, x.1 = sumS x.2
  sizes : ∀ x ∈ L, x.2.size ≤ 131072
theorem Fine.id32 {L : List It} (h : Fine L) : ∀ x ∈ L, x.1.size = 32 := fun x hx => by rw [h.ids x hx]; exact sumS_size _
theorem sum_len (l : List UInt8) : (Sha.sum l).length = 32 := by
  have h := Sha.sum_size l
  change (Sha.sum l).toArray.size = 32 at h
  rwa [List.size_toArray] at h
theorem data_len (s : ByteArray) : s.data.toList.length = s.size := by rw [Array.length_toList]; rfl
theorem mid (A M B : List UInt8) (a m : Nat) (ha : A.length = a) (hm : M.length = m) : ((A ++ M ++ B).drop a).take m = M := by
  rw [List.append_assoc, List.drop_left' ha, List.take_left' hm]
theorem nAt_mid (A B : List UInt8) (n k : Nat) (ha : A.length = k) (hn : n < 4294967296) : nAt (A ++ le32 n ++ B) k = n := by
  unfold nAt
  rw [mid A (le32 n) B k 4 ha rfl, Oct.val_le32 n hn]
theorem indexB_app : ∀ (l m : List It) (a : Nat), indexB a (l ++ m) = indexB a l ++ indexB (a + (dataB l).length) m
  | [], m, a => by simp [indexB, dataB]
  | x :: r, m, a => by
    have e : (dataB (x :: r)).length = x.2.size + (dataB r).length := by
      simp only [dataB, List.flatMap_cons, List.length_append, data_len]
    rw [List.cons_append, indexB, indexB, indexB_app r m, e, List.append_assoc, Nat.add_assoc]
theorem dataB_app (l m : List It) : dataB (l ++ m) = dataB l ++ dataB m := by simp [dataB]
theorem split_at {L : List It} {i : Nat} (h : i < L.length) : L = L.take i ++ ([L[i]] ++ L.drop (i + 1)) := by
  have := List.drop_eq_getElem_cons h
  rw [List.singleton_append, ← this, List.take_append_drop]
def headB (L : List It) : List UInt8 := magic ++ le32 L.length ++ fanB (L.map (·.1)) 256
theorem headB_length (L : List It) : (headB L).length = 1036 := by
  unfold headB
  simp only [List.length_append, Oct.le32_length, fanB_length]
  rfl
theorem packB_eq (L : List It) : packB L = headB L ++ indexB 0 L ++ dataB L ++ Sha.sum (bodyB L) := rfl
theorem dataB_le {L : List It} (h : ∀ x ∈ L, x.2.size ≤ 131072) : (dataB L).length ≤ 131072 * L.length := by
  induction L with
  | nil => simp [dataB]
  | cons x r ih =>
    have := ih fun y hy => h y (by simp [hy])
    have h1 := h x (by simp)
    simp only [dataB, List.flatMap_cons, List.length_append, data_len] at *
    rw [List.length_cons]
    omega
theorem made_many {L : List It} (h : Fine L) : many (packB L) = L.length := by
  have : packB L = magic ++ le32 L.length ++ (fanB (L.map (·.1)) 256 ++ indexB 0 L ++ dataB L ++ Sha.sum (bodyB L)) := by
    rw [packB_eq]
    unfold headB
    simp only [List.append_assoc]
  unfold many
  rw [this]
  exact nAt_mid _ _ _ _ rfl (by have := h.most; omega)
theorem made_row {L : List It} (h : Fine L) {i : Nat} (hi : i < L.length) :
    idAt (packB L) i = L[i].1.data.toList ∧ atAt (packB L) i = (dataB (L.take i)).length ∧ szAt (packB L) i = L[i].2.size ∧ ckAt (packB L) i = crc L[i].2.data.toList := by
  obtain ⟨x, hx⟩ : ∃ x, x = L[i] := ⟨_, rfl⟩
  have hm : x ∈ L := by rw [hx]; exact List.getElem_mem hi
  have hid := h.id32 x hm
  have hsz := h.sizes x hm
  have hs := split_at hi
  rw [← hx] at hs ⊢
  obtain ⟨T, hT⟩ : ∃ T, T = L.take i := ⟨_, rfl⟩
  obtain ⟨R, hR⟩ : ∃ R, R = L.drop (i + 1) := ⟨_, rfl⟩
  rw [← hT, ← hR] at hs
  rw [← hT]
  have hTl : T.length = i := by rw [hT, List.length_take]; omega
  have hTi : (indexB 0 T).length = 44 * i := by rw [indexB_length T 0 fun y hy => h.id32 y (by rw [hs]; simp [hy]), hTl]
  have hTd : (dataB T).length < 4294967296 := by
    have := dataB_le (L := T) fun y hy => h.sizes y (by rw [hs]; simp [hy])
    have := h.most
    omega
  obtain ⟨B, hB⟩ : ∃ B, packB L = (headB L ++ indexB 0 T) ++ rowB (dataB T).length x ++ B := by
    refine ⟨indexB ((dataB T).length + (dataB [x]).length) R ++ dataB L ++ Sha.sum (bodyB L), ?_⟩
    rw [packB_eq]
    have e : indexB 0 L = indexB 0 T ++ (rowB (dataB T).length x ++ indexB ((dataB T).length + (dataB [x]).length) R) := by
      conv => lhs; rw [hs, indexB_app, Nat.zero_add, indexB_app]
      congr 2
      simp [indexB]
    rw [e]
    simp only [List.append_assoc]
  have hA : (headB L ++ indexB 0 T).length = 1036 + 44 * i := by rw [List.length_append, headB_length, hTi]
  obtain ⟨A, hAA⟩ : ∃ A, A = headB L ++ indexB 0 T := ⟨_, rfl⟩
  rw [← hAA] at hB hA
  have hidl : x.1.data.toList.length = 32 := by rw [data_len, hid]
  unfold rowB at hB
  refine ⟨?_, ?_, ?_, ?_⟩
  · unfold idAt
    rw [hB]
    simp only [List.append_assoc]
    rw [← List.append_assoc]
    exact mid A x.1.data.toList _ _ _ hA hidl
  · unfold atAt
    rw [hB]
    have e : A ++ (x.1.data.toList ++ le32 (dataB T).length ++ le32 x.2.size ++ le32 (crc x.2.data.toList)) ++ B = (A ++ x.1.data.toList) ++ le32 (dataB T).length ++ (le32 x.2.size ++ le32 (crc x.2.data.toList) ++ B) := by simp only [List.append_assoc]
    rw [e]
    exact nAt_mid _ _ _ _ (by rw [List.length_append, hA, hidl]) hTd
  · unfold szAt
    rw [hB]
    have e : A ++ (x.1.data.toList ++ le32 (dataB T).length ++ le32 x.2.size ++ le32 (crc x.2.data.toList)) ++ B = (A ++ x.1.data.toList ++ le32 (dataB T).length) ++ le32 x.2.size ++ (le32 (crc x.2.data.toList) ++ B) := by simp only [List.append_assoc]
    rw [e]
    exact nAt_mid _ _ _ _ (by rw [List.length_append, List.length_append, hA, hidl, Oct.le32_length]) (by omega)
  · unfold ckAt
    rw [hB]
    have e : A ++ (x.1.data.toList ++ le32 (dataB T).length ++ le32 x.2.size ++ le32 (crc x.2.data.toList)) ++ B = (A ++ x.1.data.toList ++ le32 (dataB T).length ++ le32 x.2.size) ++ le32 (crc x.2.data.toList) ++ B := by simp only [List.append_assoc]
    rw [e]
    exact nAt_mid _ _ _ _ (by rw [List.length_append, List.length_append, List.length_append, hA, hidl, Oct.le32_length, Oct.le32_length]) (crc_lt _)
theorem made_sumTo {L : List It} (h : Fine L) : ∀ i, i ≤ L.length → sumTo (packB L) i = (dataB (L.take i)).length
  | 0, _ => by simp [sumTo, dataB]
  | i + 1, hi => by
    have hi' : i < L.length := by omega
    rw [sumTo, made_sumTo h i (by omega), (made_row h hi').2.2.1, List.take_succ_eq_append_getElem hi', dataB_app, List.length_append]
    simp [dataB]
theorem made_data {L : List It} (h : Fine L) {i : Nat} (hi : i < L.length) : dataAt (packB L) i = L[i].2.data.toList := by
  unfold dataAt
  rw [made_many h, made_sumTo h i (by omega), (made_row h hi).2.2.1]
  have e : packB L = (headB L ++ indexB 0 L ++ dataB (L.take i)) ++ L[i].2.data.toList ++ (dataB (L.drop (i + 1)) ++ Sha.sum (bodyB L)) := by
    have e1 : dataB L = dataB (L.take i) ++ (L[i].2.data.toList ++ dataB (L.drop (i + 1))) := by
      conv => lhs; rw [split_at hi, dataB_app, dataB_app]
      simp [dataB]
    rw [packB_eq, e1]
    simp only [List.append_assoc]
  rw [e]
  exact mid _ _ _ _ _ (by rw [List.length_append, List.length_append, headB_length, indexB_length L 0 h.id32]) (data_len _)
theorem packB_length {L : List It} (h : Fine L) : (packB L).length = 1068 + 44 * L.length + (dataB L).length := by
  have : (Sha.sum (bodyB L)).length = 32 := sum_len _
  unfold packB
  rw [List.length_append, bodyB_length L h.id32, this]
  omega
theorem body_take {L : List It} (h : Fine L) : (packB L).take ((packB L).length - 32) = bodyB L ∧ (packB L).drop ((packB L).length - 32) = Sha.sum (bodyB L) := by
  have hs : (Sha.sum (bodyB L)).length = 32 := sum_len _
  have e : (packB L).length - 32 = (bodyB L).length := by unfold packB; rw [List.length_append, hs]; omega
  rw [e]
  exact ⟨List.take_left' rfl, List.drop_left' rfl⟩
theorem made_ids {L : List It} (h : Fine L) : idsOf (packB L) L.length = L.map (·.1) := by
  apply List.ext_getElem
  · simp [idsOf]
  · intro i h1 h2
    have hi : i < L.length := by simpa [idsOf] using h1
    rw [List.getElem_map]
    have e := (made_row h hi).1
    simp only [idsOf, List.getElem_map, List.getElem_range]
    rw [e]
theorem made_shaped {L : List It} (h : Fine L) : Shaped (packB L) := by
  have hm := made_many h
  have hl := packB_length h
  refine ⟨⟨?_, ?_, ?_, ?_⟩, ?_, ?_, ?_, ?_, ?_⟩
  · rw [packB_eq]
    unfold headB
    simp only [List.append_assoc]
    exact List.take_left' rfl
  · rw [hm]
    have : L.length ≠ 0 := fun e => h.ne (List.eq_nil_of_length_eq_zero e)
    omega
  · rw [hm]; exact h.most
  · rw [hm, hl]; omega
  · intro i hi
    rw [hm] at hi
    rw [(made_row h hi).2.1, made_sumTo h i (by omega)]
  · intro i hi
    rw [hm] at hi
    rw [(made_row h hi).2.2.1]
    exact h.sizes _ (List.getElem_mem hi)
  · intro i hi
    rw [hm] at hi
    rw [(made_row h hi).1, (made_row h (show i < L.length by omega)).1]
    exact List.pairwise_iff_getElem.1 h.rise i (i + 1) (by omega) hi (by omega)
  · rw [hm, made_sumTo h _ (Nat.le_refl _), List.take_length, hl]; omega
  · rw [hm, made_ids h]
    have := (fan_lies (packB L) (L.map (·.1)) (by rw [List.length_map]; have := h.most; omega) 256 (by rw [hl]; omega)).1 (by
      have e : packB L = (magic ++ le32 L.length) ++ fanB (L.map (·.1)) 256 ++ (indexB 0 L ++ dataB L ++ Sha.sum (bodyB L)) := by
        rw [packB_eq]
        unfold headB
        simp only [List.append_assoc]
      rw [e]
      exact mid _ _ _ _ _ rfl (fanB_length _ _))
    exact this
theorem made_right {L : List It} (h : Fine L) : Right (packB L) := by
  intro i hi
  rw [made_many h] at hi
  rw [made_data h hi, (made_row h hi).2.2.2, (made_row h hi).1, h.ids _ (List.getElem_mem hi)]
  exact ⟨rfl, rfl⟩
theorem made_readL {L : List It} (h : Fine L) : readL (packB L) = L := by
  unfold readL
  rw [made_many h]
  apply List.ext_getElem
  · simp
  · intro i h1 h2
    simp only [List.getElem_map, List.getElem_range]
    rw [(made_row h h2).1, made_data h h2]
/-- A MADE PACK READS BACK. -/
theorem made_read {L : List It} (h : Fine L) : ReadIs (packB L) 0 L := by
  have hl := packB_length h
  have h0 : L.length ≠ 0 := fun e => h.ne (List.eq_nil_of_length_eq_zero e)
  obtain ⟨e1, e2⟩ := body_take h
  have := ReadIs.ok (s := packB L) (by omega) (by rw [e1, e2]) (made_shaped h) (made_right h)
  rwa [made_readL h] at this
theorem fine_of {l : List ByteArray} {L : List It} (hl : l ≠ []) (hn : l.length ≤ 1024) (h1 : ∀ s ∈ l, s.size ≤ 131072) (hp : L.Perm (itemsOf l)) (hs : L.Pairwise lowI) : Fine L where
  ne := fun e => by subst e; exact hl (List.map_eq_nil_iff.1 (List.nil_perm.1 hp))
  most := by rw [hp.length_eq]; simpa [itemsOf] using hn
  rise := hs
  ids := fun x hx => (id_sum hp hx).1
  sizes := fun x hx => h1 _ (id_sum hp hx).2
/-- Just one made pack's form: what Make answers, read. -/
theorem make_read {l : List ByteArray} (hn : l.length ≤ 1024) {b : List UInt8} (h : MakeIs l 0 b) : ∃ L, Fine L ∧ b = packB L ∧ L.Perm (itemsOf l) := by
  cases h with
  | ok L h0 h1 hp hs => exact ⟨L, fine_of h0 hn h1 hp hs, rfl, hp⟩
theorem make_zero {l : List ByteArray} {c : Int} {b : List UInt8} (h : MakeIs l c b) (hc : c ≠ 0) : b = [] := by
  cases h <;> first | rfl | exact absurd rfl hc
theorem total_take (l : List ByteArray) (k : Nat) (h : k < l.length) : total (l.take (k + 1)) = total (l.take k) + l[k].size := by
  unfold total
  rw [List.take_succ_eq_append_getElem h, List.map_append, List.sum_append]
  simp
end Go.Proofs.Ytabgpleiobpeoaa.Pak
