/- path.Good, ident.Good and the reference's Good of names. No conditions; the reference's asks for at most 2^62 bytes. -/
import Derived.Test.YtljenganlknhbaaGreatProg
import Derived.Test.YtljenganlknhbaaGreatShelf
import Derived.Lib.IndexLaws
import Derived.Lib.Hide
import Derived.WalkKit
import Derived.Below
namespace Go.Proofs.YtljenganlknhbaaGreat.Path
open Go.RowKit
/-- Whether a text is a name: the parts in the program's order. -/
def odd3 (s : ByteArray) : Bool := (s.toList == []) || (s.toList == [46]) || (s.toList == [46, 46])
def hasByte (s : ByteArray) (c : UInt8) : Bool := decide (0 ≤ Lib.indexByte s.data.toList c)
def nameOk (s : ByteArray) : Bool := !odd3 s && decide ((s.size : Int) ≤ 255) && !hasByte s 47 && !hasByte s 0
theorem hasByte_iff (s : ByteArray) (c : UInt8) : hasByte s c = true ↔ ∃ k : Nat, s.data.toList[k]? = some c := by
  unfold hasByte
  rw [decide_eq_true_iff]
  constructor
  · intro h
    obtain ⟨o, ho⟩ : ∃ o : Nat, Lib.indexByte s.data.toList c = o := ⟨(Lib.indexByte s.data.toList c).toNat, by omega⟩
    exact ⟨o, (Lib.indexByte_some ho).1⟩
  · rintro ⟨k, hk⟩
    have h1 := Lib.indexByte_ge s.data.toList c
    by_cases h : Lib.indexByte s.data.toList c = -1
    · exact absurd hk (Lib.indexByte_none h k)
    · omega
theorem ident_good (s : ByteArray) (w : World) : Calls Tryz.prog 79 #[.string s] w fun e w' => e = .returned (.bool ((s.size : Int) == 32)) ∧ w = w' := by
  go_enter Tryz.func79, Tryz.ntmps79
  go_wp2_with fail
  go_ret
  exact ⟨rfl, rfl⟩
theorem path_good (s : ByteArray) (w : World) : Calls Tryz.prog 130 #[.string s] w fun e w' => e = .returned (.bool (nameOk s)) ∧ w = w' := by
  have C1 : ∀ w, Calls Tryz.prog 162 #[.string s, .string ⟨#[47]⟩] w fun e w' => e = .returned (.bool (hasByte s 47)) ∧ w' = w := fun w => Tryz.strings_Contains_one s 47 w
  have C2 : ∀ w, Calls Tryz.prog 162 #[.string s, .string ⟨#[0]⟩] w fun e w' => e = .returned (.bool (hasByte s 0)) ∧ w' = w := fun w => Tryz.strings_Contains_one s 0 w
  unfold nameOk odd3
  generalize hasByte s 47 = x1 at *
  generalize hasByte s 0 = x2 at *
  have C1 := Lib.hid C1; have C2 := Lib.hid C2
  go_enter Tryz.func130, Tryz.ntmps130
  cases h0 : (s.toList == [])
  case true =>
    go_wp2_with fail
    go_ret
    exact ⟨rfl, rfl⟩
  cases h1 : (s.toList == [46])
  case true =>
    go_wp2_with fail
    go_ret
    exact ⟨rfl, rfl⟩
  cases h2 : (s.toList == [46, 46])
  case true =>
    go_wp2_with fail
    go_ret
    exact ⟨rfl, rfl⟩
  by_cases hl : (s.size : Int) ≤ 255
  · go_wp2_with fail
    refine (C1.out w).mono ?_
    rintro e w1 ⟨rfl, rfl⟩
    cases x1
    · go_wp2_with fail
      refine (C2.out _).mono ?_
      rintro e w2 ⟨rfl, rfl⟩
      go_wp2_with fail
      go_ret
      exact ⟨by simp [hl], rfl⟩
    · go_wp2_with fail
      go_ret
      exact ⟨by simp, rfl⟩
  · have hd : decide ((s.size : Int) ≤ 255) = false := decide_eq_false hl
    rw [hd]
    clear hl
    go_wp2_with fail
    go_ret
    exact ⟨by simp, rfl⟩
theorem odd_byte (s : ByteArray) (k : Nat) (hk : k < s.size) (c : UInt8) (h : (s[k]'hk).toNat = c.toNat) : hasByte s c = true := by
  rw [hasByte_iff]
  refine ⟨k, ?_⟩
  have hk' : k < s.data.toList.length := hk
  rw [List.getElem?_eq_getElem hk']
  have : s.data.toList[k] = s[k]'hk := by simp [ByteArray.getElem_eq_getElem_data]
  rw [this]
  exact congrArg some (UInt8.toNat_inj.1 h)
theorem no_byte (s : ByteArray) (c : UInt8) (h : ∀ k (hk : k < s.size), (s[k]'hk).toNat ≠ c.toNat) : hasByte s c = false := by
  cases hb : hasByte s c
  · rfl
  · obtain ⟨k, hk⟩ := (hasByte_iff s c).1 hb
    have hlt : k < s.data.toList.length := (List.getElem?_eq_some_iff.1 hk).1
    have hlt' : k < s.size := hlt
    rw [List.getElem?_eq_getElem hlt] at hk
    have : s.data.toList[k] = s[k]'hlt' := by simp [ByteArray.getElem_eq_getElem_data]
    rw [this] at hk
    exact absurd (congrArg UInt8.toNat (Option.some.inj hk)) (h k hlt')
theorem empty_iff (s : ByteArray) : (s.toList == []) = decide ((s.size : Int) < 1) := by
  cases h : (s.toList == [])
  · have : s.toList ≠ [] := by simpa using h
    symm
    rw [decide_eq_false_iff_not]
    intro hlt
    apply this
    have : s.toList.length = 0 := by rw [ByteArray.toList_eq]; show s.size = 0; omega
    exact List.length_eq_zero_iff.1 this
  · have h0 : s.toList = [] := by simpa using h
    have : s.toList.length = 0 := by rw [h0]; rfl
    rw [ByteArray.toList_eq] at this
    have : s.size = 0 := this
    symm; rw [decide_eq_true_iff]; omega
theorem ref_good (s : ByteArray) (w : World) : Calls Tryz.prog 102 #[.string s] w fun e w' => e = .returned (.bool (nameOk s)) ∧ w = w' := by
  unfold nameOk odd3
  rw [empty_iff]
  go_enter Tryz.func102, Tryz.ntmps102
  by_cases h0 : (s.size : Int) < 1
  · rw [decide_eq_true h0]
    go_wp2_with fail
    go_ret
    exact ⟨rfl, rfl⟩
  have h0' : (1 : Int) ≤ (s.size : Int) := by omega
  rw [decide_eq_false h0]
  clear h0
  by_cases hl : (s.size : Int) ≤ 255
  case neg =>
    have hl' : (255 : Int) < (s.size : Int) := by omega
    rw [decide_eq_false hl]
    clear hl
    go_wp2_with fail
    go_ret
    exact ⟨by simp, rfl⟩
  cases h1 : (s.toList == [46])
  case true =>
    go_wp2_with fail
    go_ret
    exact ⟨rfl, rfl⟩
  cases h2 : (s.toList == [46, 46])
  case true =>
    go_wp2_with fail
    go_ret
    exact ⟨rfl, rfl⟩
  go_wp2_with fail
  clear h1 h2 h0'
  go_loopw [3] (fun i wr => ∃ k : Nat, i = .int .i64 (k : Int) ∧ k ≤ s.size ∧ (∀ j (hj : j < s.size), j < k → (s[j]'hj).toNat ≠ 47 ∧ (s[j]'hj).toNat ≠ 0) ∧ wr = w) (fun i _ => ((s.size : Int) - intOf i).toNat)
  case atStart => exact ⟨0, rfl, by omega, fun j hj h => by omega, rfl⟩
  case round =>
    obtain ⟨k, rfl, hk, hall, rfl⟩ := hrel
    have Hall := Lib.hid hall
    clear hall
    rcases Nat.lt_or_ge k s.size with hk1 | hk1
    · have ki : (k : Int) < s.size := by omega
      by_cases h47 : (s[k]'hk1).toNat = 47
      · have ho := odd_byte s k hk1 47 h47
        go_wp2_with fail
        go_ret
        exact ⟨by simp [ho], rfl⟩
      · by_cases hz : (s[k]'hk1).toNat = 0
        · have ho := odd_byte s k hk1 0 hz
          go_wp2_with fail
          go_ret
          exact ⟨by simp [ho], rfl⟩
        · have hn : ∀ j (hj : j < s.size), j < k + 1 → (s[j]'hj).toNat ≠ 47 ∧ (s[j]'hj).toNat ≠ 0 := fun j hj h => by
            rcases Nat.lt_or_ge j k with h' | h'
            · exact Hall.out j hj h'
            · obtain rfl : j = k := by omega
              exact ⟨h47, hz⟩
          have Hn := Lib.hid hn
          have q1 : (((s[k]'hk1).toNat : Int) == 47) = false := by simpa using (by omega : ¬ ((s[k]'hk1).toNat : Int) = 47)
          have q2 : (((s[k]'hk1).toNat : Int) == 0) = false := by simpa using (by omega : ¬ ((s[k]'hk1).toNat : Int) = 0)
          clear hn h47 hz
          go_wp2_with fail
          refine ⟨⟨k + 1, rfl, hk1, Hn.out, trivial⟩, ?_⟩
          simp [intOf]
          omega
    · have ki : (s.size : Int) ≤ (k : Int) := by omega
      have n1 := no_byte s 47 fun j hj => (Hall.out j hj (by omega)).1
      have n2 := no_byte s 0 fun j hj => (Hall.out j hj (by omega)).2
      go_wp2_with fail
      go_ret
      exact ⟨by simp [n1, n2, hl], rfl⟩
end Go.Proofs.YtljenganlknhbaaGreat.Path
