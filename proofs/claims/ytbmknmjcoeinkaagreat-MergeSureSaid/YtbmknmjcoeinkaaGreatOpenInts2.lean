/- An argument that is an array of two ints, opened. No program is named here. -/
import Derived.Test.YtbmknmjcoeinkaaGreatSlice
import Derived.OpenShut
import Derived.WideShapes
import Derived.ChangeArms
namespace Go.Proofs.YtbmknmjcoeinkaaGreat
open Go.RowKit Go.ChangeShapes Go.WideShapes
section
variable {H : Type} {enc_ : TypeId × Value → H} {P : Program} {w : World} {base : Nat} {spare : Nat → Bool} {held : Bool}
theorem open_ints2 {r : Reach} {b0 : Nat} {t e : TypeId} {v : Value} {d : DataW H} {p : List MemPlace} (ht : P.underlying t = some (.array 2 e)) (he : P.underlying e = some (.int .i64)) (hC : P.cellsOf t = 2) (hc : P.cellsOf e = 1)
    (hv : Value.okWide P w r b0 t v) (h : DataW.Trod enc_ P w base spare held t v d p) : ∃ x y : Int, v = .agg #[.int .i64 x, .int .i64 y] := by
  simp only [Value.okWide, ht] at hv
  obtain ⟨cs, rfl, hsz, _⟩ := hv
  obtain ⟨fuel, hf⟩ := h
  obtain ⟨xs, m, _, _, hl, hxl, hat⟩ := DataW.trod_array ht hf
  have hcs : (Value.agg cs).cells.toList = cs.toList := rfl
  have hl' : cs.toList.length = 2 := by rw [← hcs, hl, hC]
  have key : ∀ i : Nat, ∃ b : Int, i < 2 → cs.toList[i]? = some (.int .i64 b) := by
    intro i
    by_cases hi : i < 2
    · have hx := hat i hi
      rw [hc, Nat.mul_one] at hx
      have hd : (cs.toList.drop i).take 1 = [cs.toList[i]] := by
        rw [List.drop_eq_getElem_cons (by omega)]
        rfl
      rw [hcs, hd, List.getElem?_eq_getElem (by omega)] at hx
      obtain ⟨z, hz, _, hw⟩ := DataW.trod_int he hx
      have hz' : cs.toList[i] = .int .i64 z := by simpa using hz
      refine ⟨z, fun _ => ?_⟩
      rw [List.getElem?_eq_getElem (by omega), hz']
    · exact ⟨0, fun h => absurd h hi⟩
  obtain ⟨x, hx⟩ := key 0
  obtain ⟨y, hy⟩ := key 1
  refine ⟨x, y, ?_⟩
  congr 1
  apply Array.ext'
  show cs.toList = [_, _]
  match hm : cs.toList, hl' with
  | [a, b], _ =>
    have h0 := hx (by omega)
    have h1 := hy (by omega)
    rw [hm] at h0 h1
    rw [show a = .int .i64 x from Option.some.inj h0, show b = .int .i64 y from Option.some.inj h1]
end
end Go.Proofs.YtbmknmjcoeinkaaGreat
