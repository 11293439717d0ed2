/- path.Good, ident.Good and the reference's Good of names. No conditions; the reference's asks for at most 2^62 bytes. -/
import Derived.Test.YtjkhmjklmclpoaaGreatProg
import Derived.Test.YtjkhmjklmclpoaaGreatShelf
import Derived.Lib.IndexLaws
import Derived.Lib.Hide
import Derived.WalkKit
import Derived.Below
namespace Go.Proofs.YtjkhmjklmclpoaaGreat.Path
open Go.RowKit
/-- Whether a text is a name: the parts in the program's order. -/
def odd3 (s : ByteArray) : Bool := (s.toList == []) || (s.toList == [46]) || (s.toList == [46, 46])
def hasByte (s : ByteArray) (c : UInt8) : Bool := decide (0 ≤ Lib.indexByte s.data.toList c)
def nameOk (s : ByteArray) : Bool := !odd3 s && decide ((s.size : Int) ≤ 255) && !hasByte s 47 && !hasByte s 0
theorem hasByte_iff (s : ByteArray) (c : UInt8) : hasByte s c = true ↔ ∃ k : Nat, s.data.toList[k]? = some c := by
  unfold hasByte
  rw [decide_eq_true_iff]
  constructor
  · intro h
    obtain ⟨o, ho⟩ : ∃ o : Nat, Lib.indexByte s.data.toList c = o := ⟨(Lib.indexByte s.data.toList c).toNat, by omega⟩
    exact ⟨o, (Lib.indexByte_some ho).1⟩
  · rintro ⟨k, hk⟩
    have h1 := Lib.indexByte_ge s.data.toList c
    by_cases h : Lib.indexByte s.data.toList c = -1
    · exact absurd hk (Lib.indexByte_none h k)
    · omega
theorem ident_good (s : ByteArray) (w : World) : Calls Tryz.prog 38 #[.string s] w fun e w' => e = .returned (.bool ((s.size : Int) == 32)) ∧ w = w' := by
  go_enter Tryz.func38, Tryz.ntmps38
  go_wp2_with fail
  go_ret
  exact ⟨rfl, rfl⟩
theorem odd_byte (s : ByteArray) (k : Nat) (hk : k < s.size) (c : UInt8) (h : (s[k]'hk).toNat = c.toNat) : hasByte s c = true := by
  rw [hasByte_iff]
  refine ⟨k, ?_⟩
  have hk' : k < s.data.toList.length := hk
  rw [List.getElem?_eq_getElem hk']
  have : s.data.toList[k] = s[k]'hk := by simp [ByteArray.getElem_eq_getElem_data]
  rw [this]
  exact congrArg some (UInt8.toNat_inj.1 h)
theorem no_byte (s : ByteArray) (c : UInt8) (h : ∀ k (hk : k < s.size), (s[k]'hk).toNat ≠ c.toNat) : hasByte s c = false := by
  cases hb : hasByte s c
  · rfl
  · obtain ⟨k, hk⟩ := (hasByte_iff s c).1 hb
    have hlt : k < s.data.toList.length := (List.getElem?_eq_some_iff.1 hk).1
    have hlt' : k < s.size := hlt
    rw [List.getElem?_eq_getElem hlt] at hk
    have : s.data.toList[k] = s[k]'hlt' := by simp [ByteArray.getElem_eq_getElem_data]
    rw [this] at hk
    exact absurd (congrArg UInt8.toNat (Option.some.inj hk)) (h k hlt')
theorem empty_iff (s : ByteArray) : (s.toList == []) = decide ((s.size : Int) < 1) := by
  cases h : (s.toList == [])
  · have : s.toList ≠ [] := by simpa using h
    symm
    rw [decide_eq_false_iff_not]
    intro hlt
    apply this
    have : s.toList.length = 0 := by rw [ByteArray.toList_eq]; show s.size = 0; omega
    exact List.length_eq_zero_iff.1 this
  · have h0 : s.toList = [] := by simpa using h
    have : s.toList.length = 0 := by rw [h0]; rfl
    rw [ByteArray.toList_eq] at this
    have : s.size = 0 := this
    symm; rw [decide_eq_true_iff]; omega
end Go.Proofs.YtjkhmjklmclpoaaGreat.Path
