/- The law ShaSums answers true: for every string within the form's reach the program's digest is the reference's. -/
import Derived.Test.YtmdchfmcghiaeaaShaRef4
namespace Go.Proofs.Ytmdchfmcghiaeaa.Sha
open Go.RowKit
theorem sums_any (s : ByteArray) (w : World) (hs : s.size ≤ 140737488351232) : Calls Try.prog 3 #[.string s] w fun e w' => e = .returned (.bool true) ∧ Below w.heap.size w w' := by
  obtain ⟨S, hS⟩ : ∃ S : ByteArray, S = ⟨(sum s.data.toList).toArray⟩ := ⟨_, rfl⟩
  have hsum : ∀ w : World, Calls Try.prog 14 #[.string s] w fun e w' => e = .returned (.string S) ∧ Below w.heap.size w w' := fun w => by
    rw [hS]; exact sum_any s w (by omega)
  have href : ∀ w : World, Calls Try.prog 15 #[.string s] w fun e w' => e = .returned (.string S) ∧ Below w.heap.size w w' := fun w => by
    rw [hS]; exact refsum_any s w (by omega)
  have Hsum := Lib.hid hsum
  have Href := Lib.hid href
  have hself : (S.toList == S.toList) = true := by simp
  clear hsum href hS
  go_enter Try.func3, Try.ntmps3
  go_wp2_with fail
  refine (awake_any _).mono ?_
  rintro e w1 ⟨rfl, hb1⟩
  go_wp2_with fail
  refine (Hsum.out _).mono ?_
  rintro e w2 ⟨rfl, hb2⟩
  go_wp2_with fail
  refine (Href.out _).mono ?_
  rintro e w3 ⟨rfl, hb3⟩
  have hbe := (hb1.trans (hb2.mono hb1.size)).trans (hb3.mono (Nat.le_trans hb1.size hb2.size))
  clear hb1 hb2 hb3
  go_wp2_with fail
  go_ret
  exact ⟨rfl, hbe⟩
end Go.Proofs.Ytmdchfmcghiaeaa.Sha
