/- FrameTells, plain: a burst of turned bits in a message's body or check is told. No program is named here. (Layer 19.) -/
import Derived.Test.YtljenganlknhbaaGreatPkL
import Derived.Test.YtljenganlknhbaaGreatPkI
namespace Go.Proofs.YtljenganlknhbaaGreat.Fr
set_option linter.unusedVariables false
set_option linter.unusedSimpArgs false
open Oct
open Crc (fc five fc_burst)
/-- What goes over byte j when i of a burst's five bytes are laid from p on. -/
def over (p b i j : Nat) : UInt8 := if p ≤ j ∧ j < p + i then UInt8.ofNat (b / 2 ^ (8 * (j - p))) else 0
def turned (l : List UInt8) (p b i : Nat) : List UInt8 := l.mapIdx fun j x => x ^^^ over p b i j
theorem turned_length (l : List UInt8) (p b i : Nat) : (turned l p b i).length = l.length := by unfold turned; simp
theorem turned_get (l : List UInt8) (p b i j : Nat) (h : j < l.length) : (turned l p b i)[j]'(by rw [turned_length]; exact h) = l[j] ^^^ over p b i j := by
  unfold turned
  simp
theorem turned_zero (l : List UInt8) (p b : Nat) : turned l p b 0 = l := by
  refine List.ext_getElem (turned_length _ _ _ _) fun j h1 h2 => ?_
  rw [turned_get l p b 0 j h2]
  unfold over
  rw [if_neg (by omega), UInt8.xor_zero]
theorem turned_none (l : List UInt8) (p i : Nat) : turned l p 0 i = l := by
  refine List.ext_getElem (turned_length _ _ _ _) fun j h1 h2 => ?_
  rw [turned_get l p 0 i j h2]
  unfold over
  rw [Nat.zero_div]
  have e : UInt8.ofNat 0 = 0 := rfl
  rw [e]
  split <;> rw [UInt8.xor_zero]
theorem turned_at (l : List UInt8) (p b i : Nat) (h : p + i < l.length) : (turned l p b i)[p + i]? = some l[p + i] := by
  rw [List.getElem?_eq_getElem (by rw [turned_length]; exact h), turned_get l p b i _ h]
  unfold over
  rw [if_neg (by omega), UInt8.xor_zero]
theorem turned_succ (l : List UInt8) (p b i : Nat) (h : p + i < l.length) : turned l p b (i + 1) = (turned l p b i).set (p + i) (l[p + i] ^^^ UInt8.ofNat (b / 2 ^ (8 * i))) := by
  refine List.ext_getElem (by rw [List.length_set, turned_length, turned_length]) fun j h1 h2 => ?_
  have hj : j < l.length := by rw [turned_length] at h1; exact h1
  rw [turned_get l p b (i + 1) j hj, List.getElem_set]
  by_cases e : p + i = j
  · subst e
    rw [if_pos rfl]
    unfold over
    rw [if_pos (by omega), show p + i - p = i by omega]
  · rw [if_neg e, turned_get l p b i j hj]
    unfold over
    by_cases c : p ≤ j ∧ j < p + i
    · rw [if_pos (by omega), if_pos c]
    · rw [if_neg (by omega), if_neg c]
theorem five_get (b : Nat) : ∀ i, i < 5 → (five b)[i]? = some (UInt8.ofNat (b / 2 ^ (8 * i)))
  | 0, _ => by simp [five]
  | 1, _ => rfl
  | 2, _ => rfl
  | 3, _ => rfl
  | 4, _ => rfl
  | i + 5, h => by omega
theorem over_get (p q b j : Nat) (h : j < p + 5 + q) : (List.replicate p (0 : UInt8) ++ (five b ++ List.replicate q 0))[j]? = some (over p b 5 j) := by
  unfold over
  rcases Nat.lt_or_ge j p with h1 | h1
  · rw [List.getElem?_append_left (by simpa using h1), List.getElem?_replicate, if_pos h1, if_neg (by omega)]
  · rw [List.getElem?_append_right (by simpa using h1), List.length_replicate]
    rcases Nat.lt_or_ge (j - p) 5 with h2 | h2
    · rw [List.getElem?_append_left (by simpa [five] using h2), five_get b _ h2, if_pos (by omega)]
    · rw [List.getElem?_append_right (by simpa [five] using h2), List.getElem?_replicate, if_pos (by simp [five]; omega), if_neg (by omega)]
theorem turned_five (l : List UInt8) (p q b : Nat) (hl : l.length = p + 5 + q) : turned l p b 5 = List.zipWith (· ^^^ ·) l (List.replicate p 0 ++ (five b ++ List.replicate q 0)) := by
  have hml : (List.replicate p (0 : UInt8) ++ (five b ++ List.replicate q 0)).length = l.length := by simp [five]; omega
  refine List.ext_getElem (by rw [turned_length, List.length_zipWith, hml, Nat.min_self]) fun j h1 h2 => ?_
  have hj : j < l.length := by rw [turned_length] at h1; exact h1
  have hm := over_get p q b j (by omega)
  rw [List.getElem?_eq_getElem (by rw [hml]; exact hj)] at hm
  injection hm with hm
  rw [turned_get l p b 5 j hj, List.getElem_zipWith, hm]
theorem zip_zero : ∀ l : List UInt8, List.zipWith (· ^^^ ·) l (List.replicate l.length 0) = l
  | [] => rfl
  | x :: l => by
    show List.zipWith (· ^^^ ·) (x :: l) (0 :: List.replicate l.length 0) = _
    rw [List.zipWith_cons_cons, zip_zero l, UInt8.xor_zero]
theorem of_xor (a b k : Nat) : UInt8.ofNat (a / 2 ^ k) ^^^ UInt8.ofNat (b / 2 ^ k) = UInt8.ofNat ((a ^^^ b) / 2 ^ k) := by
  apply UInt8.toNat.inj
  rw [UInt8.toNat_xor, UInt8.toNat_ofNat', UInt8.toNat_ofNat', UInt8.toNat_ofNat', ← Nat.shiftRight_eq_div_pow, ← Nat.shiftRight_eq_div_pow, ← Nat.shiftRight_eq_div_pow, Nat.shiftRight_xor_distrib, Nat.xor_mod_two_pow]
theorem le32_xor (a b : Nat) : List.zipWith (· ^^^ ·) (le32 a) (le32 b) = le32 (a ^^^ b) := by
  have h0 := of_xor a b 0
  simp only [Nat.pow_zero, Nat.div_one] at h0
  unfold le32
  simp only [List.zipWith_cons_cons, List.zipWith_nil_left, h0, of_xor]
theorem five_low {b : Nat} (h : b < 4294967296) : five b = le32 b ++ [0] := by
  unfold five le32
  rw [Nat.div_eq_of_lt h]
  rfl
theorem bytes_list (a b : ByteArray) : (a ++ b).data.toList = a.data.toList ++ b.data.toList := by rw [ByteArray.data_append, Array.toList_append]
theorem bytes_mk (l m : List UInt8) : (⟨(l ++ m).toArray⟩ : ByteArray) = ⟨l.toArray⟩ ++ ⟨m.toArray⟩ := by
  apply ByteArray.ext
  apply Array.ext'
  rw [bytes_list]
theorem bytes_of_list (s : ByteArray) : (⟨s.data.toList.toArray⟩ : ByteArray) = s := rfl
theorem enNum_list (n : Nat) : (enNum (n : Int)).data.toList = le32 n := rfl
theorem fc_lt : ∀ (l : List UInt8) (c : Nat), c < 4294967296 → fc c l < 4294967296
  | [], c, h => h
  | b :: l, c, h => by
    rw [Crc.fc_cons]
    exact fc_lt l _ (Crc.stepN_lt 8 (by
      have := b.toNat_lt
      exact Nat.xor_lt_two_pow (n := 32) h (by omega)))
theorem crc_eq {l m : List UInt8} (h : Pak.crc l = Pak.crc m) : fc 4294967295 l = fc 4294967295 m := by
  have e1 : Pak.crc l = 4294967295 - fc 4294967295 l := rfl
  have e2 : Pak.crc m = 4294967295 - fc 4294967295 m := rfl
  have h1 := fc_lt l 4294967295 (by decide)
  have h2 := fc_lt m 4294967295 (by decide)
  omega
theorem xor_self_eq {c b : Nat} (h : c ^^^ b = c) : b = 0 := by
  have : c ^^^ (c ^^^ b) = c ^^^ c := by rw [h]
  rw [← Nat.xor_assoc, Nat.xor_self, Nat.zero_xor] at this
  exact this
/-- A burst in the check, or in the body, is told; cut off or longer it is refused. -/
theorem tells_plain {m : Msg} (h : goodM m = true) {p r bits : Nat} (hb : bits < 4294967296) (hr : r < 8) (hp : (p = 4 ∧ r = 0) ∨ (8 ≤ p ∧ p + 5 ≤ (encM m).size)) :
    (decM ⟨(turned (encM m).data.toList p (bits * 2 ^ r) 5).toArray⟩).1 = (if bits = 0 then 0 else 20) ∧ (decM ((encM m).extract 0 p)).1 = 3 ∧ (decM (encM m ++ ⟨#[120]⟩)).1 = 3 := by
  obtain ⟨hz1, hz2⟩ := enBody_size h
  have hdm := decM_enc h
  obtain ⟨B, hB⟩ : ∃ B, B = enBody m := ⟨_, rfl⟩
  have hM : encM m = enNum (B.size : Int) ++ (enNum (crcB B : Int) ++ B) := by rw [hB]; rfl
  rw [← hB] at hz1 hz2
  have hcl := crcB_lt B
  have hsz : (encM m).size = B.size + 8 := by rw [hM]; simp only [ByteArray.size_append, Mk.enNum_size]; omega
  refine ⟨?_, ?_, ?_⟩
  · by_cases h0 : bits = 0
    · subst h0
      rw [if_pos rfl, Nat.zero_mul, turned_none, bytes_of_list, hdm]
    · rw [if_neg h0]
      have hlist : (encM m).data.toList = le32 B.size ++ (le32 (crcB B) ++ B.data.toList) := by rw [hM, bytes_list, bytes_list, enNum_list, enNum_list]
      have hBl : B.data.toList.length = B.size := by rw [Array.length_toList]; rfl
      have hll : (encM m).data.toList.length = B.size + 8 := by rw [hlist]; simp only [List.length_append, le32_length, hBl]; omega
      rcases hp with ⟨rfl, rfl⟩ | ⟨hp1, hp2⟩
      · rw [Nat.pow_zero, Nat.mul_one, turned_five _ 4 (B.size - 1) bits (by omega), hlist, five_low hb]
        have e1 : List.zipWith (· ^^^ ·) (le32 B.size ++ (le32 (crcB B) ++ B.data.toList)) (List.replicate 4 0 ++ ((le32 bits ++ [0]) ++ List.replicate (B.size - 1) 0)) = le32 B.size ++ (le32 (crcB B ^^^ bits) ++ B.data.toList) := by
          rw [List.zipWith_append (by rfl), List.append_assoc, List.zipWith_append (by rfl), le32_xor]
          congr 1
          · exact zip_zero (le32 B.size)
          · congr 1
            have : [(0 : UInt8)] ++ List.replicate (B.size - 1) 0 = List.replicate B.data.toList.length 0 := by
              rw [hBl, show B.size = (B.size - 1) + 1 by omega, List.replicate_succ]
              rfl
            rw [this, zip_zero]
        rw [e1, bytes_mk, bytes_mk, bytes_of_list]
        have hx : crcB B ^^^ bits < 4294967296 := Nat.xor_lt_two_pow (n := 32) hcl hb
        have := decM_parts (a := B.size) (b := crcB B ^^^ bits) (by omega) hx B
        rw [if_neg (by simp), if_pos (fun e => h0 (xor_self_eq e.symm))] at this
        exact congrArg Prod.fst this
      · obtain ⟨q, hq⟩ : ∃ q, B.size + 8 = p + 5 + q := ⟨B.size + 8 - (p + 5), by omega⟩
        obtain ⟨p', rfl⟩ : ∃ p', p = 8 + p' := ⟨p - 8, by omega⟩
        rw [turned_five _ (8 + p') q _ (by omega), hlist, show List.replicate (8 + p') (0 : UInt8) = List.replicate 8 0 ++ List.replicate p' 0 from (List.replicate_append_replicate).symm, ← List.append_assoc, List.append_assoc (List.replicate 8 0)]
        rw [List.zipWith_append (by simp [le32_length])]
        obtain ⟨C, hC⟩ : ∃ C, C = List.zipWith (· ^^^ ·) B.data.toList (List.replicate p' 0 ++ (five (bits * 2 ^ r) ++ List.replicate q 0)) := ⟨_, rfl⟩
        rw [← hC]
        have hCl : C.length = B.size := by rw [hC]; simp [five, hBl]; omega
        have e1 : List.zipWith (· ^^^ ·) (le32 B.size ++ le32 (crcB B)) (List.replicate 8 0) = le32 B.size ++ le32 (crcB B) := zip_zero (le32 B.size ++ le32 (crcB B))
        rw [e1, List.append_assoc, bytes_mk, bytes_mk]
        have hne : crcB ⟨C.toArray⟩ ≠ crcB B := by
          intro e
          have e2 := crc_eq (show Pak.crc C = Pak.crc B.data.toList from e)
          rw [hC] at e2
          exact h0 (fc_burst hb hr (by omega) e2)
        have := decM_parts (a := B.size) (b := crcB B) (by omega) hcl ⟨C.toArray⟩
        rw [if_neg (by
          have : (⟨C.toArray⟩ : ByteArray).size = B.size := by rw [← hCl]; show C.toArray.size = _; simp
          rw [this]; simp), if_pos hne] at this
        exact congrArg Prod.fst this
  · have hp' : 4 ≤ p ∧ p < B.size + 8 := by omega
    have e : (encM m).extract 0 p = enNum (B.size : Int) ++ (enNum (crcB B : Int) ++ B).extract 0 (p - 4) := by
      rw [hM]
      apply ByteArray.ext
      apply Array.ext'
      rw [bytes_list, ByteArray.data_extract, Array.toList_extract, ByteArray.data_extract, Array.toList_extract, bytes_list, List.extract_eq_take_drop, List.extract_eq_take_drop, List.drop_zero, List.drop_zero, enNum_list, Nat.sub_zero, Nat.sub_zero, List.take_append, List.take_of_length_le (by rw [le32_length]; omega), le32_length]
    rw [e, decM_short (by omega)]
    rw [ByteArray.size_extract, ByteArray.size_append, Mk.enNum_size]
    omega
  · rw [hM, ByteArray.append_assoc, decM_short (by omega)]
    simp only [ByteArray.size_append, Mk.enNum_size]
    show 4 + B.size + 1 ≠ _
    omega
end Go.Proofs.YtljenganlknhbaaGreat.Fr
