/- Arrays of 32 bytes that came in, opened. No conditions. (Layer 10.) -/
import Derived.Test.YtjkhmjklmclpoaaGreatTrJ
import Derived.Lib.SmallJoins
import Derived.Deep.Slices
import Derived.Deep.Fields
import Derived.ChangeSame
import Derived.OpenShut
import Derived.WideShapes
import Derived.ChangeArms
namespace Go.Proofs.YtjkhmjklmclpoaaGreat.Tr
open Go.Joins Go.ChangeShapes Go.WideShapes Go.RowKit Go.Deep
set_option linter.unusedVariables false
section
variable {H : Type} {enc_ : TypeId × Value → H} {P : Program} {w : World} {base : Nat} {spare : Nat → Bool} {held : Bool}
theorem lt_of_cell {a : Addr} {v : Value} (h : w.cell? a = some v) : a.block < w.heap.size := by
  by_cases hb : a.block < w.heap.size
  · exact hb
  · unfold World.cell? at h
    rw [Array.getElem?_eq_none (Nat.le_of_not_lt hb)] at h
    simp at h
theorem addr_add (b off : Nat) (j : Nat) : (⟨b, off, none⟩ : Addr).add j = ⟨b, off + j, none⟩ := by
  unfold Addr.add
  split
  · next h0 => rw [h0]; rfl
  · rfl
theorem open_arr {n : Nat} {t e : TypeId} {fuel : Nat} {cs : List Value} {x : DataW H × List MemPlace} (ht : P.underlying t = some (.array n e)) (he : P.underlying e = some (.int .u8)) (hC : P.cellsOf t = n) (hc : P.cellsOf e = 1)
    (hf : DataW.trod enc_ P w base spare held fuel t cs = some x) (hcl : cs.length = n) : ∃ ob : List UInt8, cs = bcells ob ∧ ob.length = n := by
  obtain ⟨xs, m, _, _, hl, hxl, hat⟩ := DataW.trod_array ht hf
  have key : ∀ i : Nat, ∃ b : UInt8, i < n → cs[i]? = some (.int .u8 b.toNat) := by
    intro i
    by_cases hi : i < n
    · have hx := hat i hi
      rw [hc, Nat.mul_one] at hx
      have hd : (cs.drop i).take 1 = [cs[i]] := by
        rw [List.drop_eq_getElem_cons (by omega)]
        rfl
      rw [hd, List.getElem?_eq_getElem (by omega)] at hx
      obtain ⟨z, hz, _, hw⟩ := DataW.trod_int he hx
      have hz' : cs[i] = .int .u8 z := by simpa using hz
      have hb : 0 ≤ z ∧ z < 256 := by
        simp [Lit.wf, IntKind.min, IntKind.max, IntKind.signed, IntKind.bits] at hw
        omega
      refine ⟨UInt8.ofNat z.toNat, fun _ => ?_⟩
      rw [List.getElem?_eq_getElem (by omega), hz']
      congr 2
      rw [UInt8.toNat_ofNat']
      omega
    · exact ⟨0, fun h => absurd h hi⟩
  obtain ⟨g, hg⟩ := Classical.axiomOfChoice key
  refine ⟨(List.range n).map g, ?_, by simp⟩
  apply List.ext_getElem?
  intro i
  rw [bcells, List.map_map, List.getElem?_map]
  by_cases hi : i < n
  · rw [hg i hi, List.getElem?_range hi]
    rfl
  · rw [List.getElem?_eq_none (by omega), List.getElem?_eq_none (by simp; omega)]
    rfl
/-- A slice of arrays of 32 bytes. -/
theorem open_slice_arr {t e u : TypeId} {fuel : Nat} {v : Value} {x : DataW H × List MemPlace} (ht : P.underlying t = some (.slice e)) (he : P.underlying e = some (.array 32 u)) (hu : P.underlying u = some (.int .u8)) (hC : P.cellsOf e = 32) (hc : P.cellsOf u = 1) (h : DataW.trod enc_ P w base spare held fuel t [v] = some x) :
    ∃ (ao : Option Addr) (n cap : Nat) (f : Nat → List UInt8), v = .slice ao n cap ∧ B32At w ao n f := by
  rcases open_slice ht h with ⟨hcs, _⟩ | ⟨a, len, cap, m, n, D, Pl, hcs, hb, hl, hm, hmm, hx, hi⟩
  · obtain rfl : v = .slice none 0 0 := by simpa using hcs
    exact ⟨none, 0, 0, fun _ => [], rfl, by decide, fun hn => by omega, fun i hi => by omega⟩
  · obtain rfl : v = .slice (some a) len cap := by simpa using hcs
    have hlm : len ≤ m := by rw [hmm]; split <;> omega
    have key : ∀ i, ∃ ob : List UInt8, i < len → ob.length = 32 ∧ ∀ j, j < 32 → w.cell? ((a.add (i * 32)).add j) = some (.int .u8 (ob[j]!).toNat) := fun i => by
      by_cases hil : i < len
      · obtain ⟨cs', hcc, ht'⟩ := hi i (by omega)
        rw [hC] at hcc
        obtain ⟨_, hcl, hat⟩ := World.cells?_some hcc
        obtain ⟨ob, rfl, hol⟩ := open_arr he hu hC hc ht' hcl
        refine ⟨ob, fun _ => ⟨hol, fun j hj => ?_⟩⟩
        have := hat j hj
        rw [this]
        simp [bcells, hol, hj]
      · exact ⟨[], fun h => absurd h hil⟩
    obtain ⟨f, hf⟩ := Classical.axiomOfChoice key
    refine ⟨some a, len, cap, f, rfl, by unfold maxLen at hm; omega, fun hn => ?_, fun i hi => (hf i hi).1⟩
    have h0 := (hf 0 hn).2 0 (by omega)
    obtain ⟨b, off, spot⟩ := a
    have hspot : spot = none := by simpa [Addr.add] using World.cell?_spot h0
    subst hspot
    have hlt := lt_of_cell h0
    rw [addr_add, addr_add] at hlt
    refine ⟨b, off, rfl, hlt, fun i hi j hj => ?_⟩
    have := (hf i hi).2 j hj
    rwa [addr_add, addr_add] at this
end
set_option maxRecDepth 100000 in
/-- Arrays that came in. -/
theorem open_b32s {H : Type} {enc_ : TypeId × Value → H} {W : World} {base : Nat} {spare : Nat → Bool} {held : Bool} {r : Reach} {b0 : Nat} {v : Value} {d : DataW H} {p : List MemPlace}
    (hv : Value.okWide Tryz.prog W r b0 36 v) (h : DataW.Trod enc_ Tryz.prog W base spare held 36 v d p) : ∃ (ao : Option Addr) (n cap : Nat) (f : Nat → List UInt8), v = .slice ao n cap ∧ B32At W ao n f := by
  obtain ⟨fuel, h⟩ := h
  obtain ⟨a0, l0, c0, rfl⟩ := okWide_slice Tryz.underlying36 hv
  exact open_slice_arr Tryz.underlying36 Tryz.underlying54 Tryz.underlying5 (by kernel_rfl) (by kernel_rfl) (by simpa [Value.cells] using h)
end Go.Proofs.YtjkhmjklmclpoaaGreat.Tr
