/- An argument that is an array of bytes, opened. No program is named here. -/
import Derived.Test.YtjkhmjklmclpoaaGreatSlice
import Derived.OpenShut
import Derived.WideShapes
import Derived.ChangeArms
namespace Go.Proofs.YtjkhmjklmclpoaaGreat
open Go.RowKit Go.ChangeShapes Go.WideShapes
section
variable {H : Type} {enc_ : TypeId × Value → H} {P : Program} {w : World} {base : Nat} {spare : Nat → Bool} {held : Bool}
theorem open_bytes {r : Reach} {b0 n : Nat} {t e : TypeId} {v : Value} {d : DataW H} {p : List MemPlace} (ht : P.underlying t = some (.array n e)) (he : P.underlying e = some (.int .u8)) (hC : P.cellsOf t = n) (hc : P.cellsOf e = 1)
    (hv : Value.okWide P w r b0 t v) (h : DataW.Trod enc_ P w base spare held t v d p) : ∃ ob : List UInt8, v = .agg (bcells ob).toArray ∧ ob.length = n := by
  simp only [Value.okWide, ht] at hv
  obtain ⟨cs, rfl, hsz, _⟩ := hv
  obtain ⟨fuel, hf⟩ := h
  obtain ⟨xs, m, _, _, hl, hxl, hat⟩ := DataW.trod_array ht hf
  have hcs : (Value.agg cs).cells.toList = cs.toList := rfl
  have hl' : cs.toList.length = n := by rw [← hcs, hl, hC]
  have key : ∀ i : Nat, ∃ b : UInt8, i < n → cs.toList[i]? = some (.int .u8 b.toNat) := by
    intro i
    by_cases hi : i < n
    · have hx := hat i hi
      rw [hc, Nat.mul_one] at hx
      have hd : (cs.toList.drop i).take 1 = [cs.toList[i]] := by
        rw [List.drop_eq_getElem_cons (by omega)]
        rfl
      rw [hcs, hd, List.getElem?_eq_getElem (by omega)] at hx
      obtain ⟨z, hz, _, hw⟩ := DataW.trod_int he hx
      have hz' : cs.toList[i] = .int .u8 z := by simpa using hz
      have hb : 0 ≤ z ∧ z < 256 := by
        simp [Lit.wf, IntKind.min, IntKind.max, IntKind.signed, IntKind.bits] at hw
        omega
      refine ⟨UInt8.ofNat z.toNat, fun _ => ?_⟩
      rw [List.getElem?_eq_getElem (by omega), hz']
      congr 2
      rw [UInt8.toNat_ofNat']
      omega
    · exact ⟨0, fun h => absurd h hi⟩
  obtain ⟨g, hg⟩ := Classical.axiomOfChoice key
  refine ⟨(List.range n).map g, ?_, by simp⟩
  congr 1
  apply Array.ext'
  apply List.ext_getElem?
  intro i
  rw [List.toList_toArray, bcells, List.map_map, List.getElem?_map]
  by_cases hi : i < n
  · rw [hg i hi, List.getElem?_range hi]
    rfl
  · rw [List.getElem?_eq_none (by omega), List.getElem?_eq_none (by simp; omega)]
    rfl
end
end Go.Proofs.YtjkhmjklmclpoaaGreat
