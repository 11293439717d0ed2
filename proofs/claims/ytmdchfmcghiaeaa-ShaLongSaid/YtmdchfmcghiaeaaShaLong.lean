/- The law ShaLong answers true: for every string, whatever its size within the form's reach. -/
import Derived.Test.YtmdchfmcghiaeaaSha5
namespace Go.Proofs.Ytmdchfmcghiaeaa.Sha
open Go.RowKit
theorem long_any (s : ByteArray) (w : World) (hs : s.size ≤ 140737488351232) : Calls Try.prog 5 #[.string s] w fun e w' => e = .returned (.bool true) ∧ Below w.heap.size w w' := by
  obtain ⟨S, hS⟩ : ∃ S : ByteArray, S = ⟨(sum s.data.toList).toArray⟩ := ⟨_, rfl⟩
  have hsz : S.size = 32 := by rw [hS, sum_size]
  have hsum : ∀ w : World, Calls Try.prog 14 #[.string s] w fun e w' => e = .returned (.string S) ∧ Below w.heap.size w w' := fun w => by
    rw [hS]; exact sum_any s w (by omega)
  have Hsum := Lib.hid hsum
  have Hs := Lib.hid hS
  have h32 : ((S.size : Int) == 32) = true := by rw [hsz]; rfl
  have hself : (S.toList == S.toList) = true := by simp
  clear hsum hS hsz
  go_enter Try.func5, Try.ntmps5
  go_wp2_with fail
  refine (awake_any _).mono ?_
  rintro e w1 ⟨rfl, hb1⟩
  go_wp2_with fail
  refine (Hsum.out _).mono ?_
  rintro e w2 ⟨rfl, hb2⟩
  obtain ⟨ao, cap, w3, hrun, hsl, hg⟩ := run_bytes_sl (P := Try.prog) w2 9 31 5 s Try.underlying9 Try.underlying31 Try.underlying5 (by unfold maxLen; omega)
  have hb3 : Below w2.heap.size w2 w3 := (Below.refl _ _).grown (row := none) hg (Nat.le_refl _) (fun k hk => by cases hk)
  have hconv := hsl.text (P := Try.prog) (dst := 9) Try.underlying31 Try.underlying5 Try.underlying9
  have es : (ByteArray.mk s.data.toList.toArray) = s := by simp
  rw [es] at hconv
  have hbe := (hb1.trans (hb2.mono hb1.size)).trans (hb3.mono (Nat.le_trans hb1.size hb2.size))
  clear hb1 hb2 hb3 hsl hg es
  go_wp2_with fail
  refine (Hsum.out _).mono ?_
  rintro e w4 ⟨rfl, hb4⟩
  have hbe2 := hbe.trans (hb4.mono hbe.size)
  clear hbe hb4
  go_wp2_with fail
  go_ret
  exact ⟨rfl, hbe2⟩
end Go.Proofs.Ytmdchfmcghiaeaa.Sha
