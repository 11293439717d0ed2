/- pack.span, walked. (Layer 07.) -/
import Derived.Test.YtabgpleiobpeoaaPack5
namespace Go.Proofs.Ytabgpleiobpeoaa.Pak
set_option linter.unusedVariables false
open Go.RowKit Go.Sort Go.Lib
def loAt (l : List UInt8) (c : Nat) : Nat := if c = 0 then 0 else nAt l (12 + 4 * (c - 1))
set_option maxRecDepth 100000 in
theorem span_any (s : ByteArray) (c : Nat) (hc : c < 256) (w : World) (h : 1112 ≤ s.size) (hs : s.size ≤ 140737488355328) :
    Calls Try.prog 39 #[.string s, .int .u8 (c : Int)] w fun e w' => e = .returned (.tuple #[.int .i64 ((loAt s.data.toList c : Nat) : Int), .int .i64 ((nAt s.data.toList (12 + 4 * c) : Nat) : Int)]) ∧ Below w.heap.size w w' := by
  have hw : wrap64 (c : Int) = c := by unfold wrap64; omega
  have hw' : IntKind.i64.wrap (c : Int) = c := by rw [IntKind.wrap_i64]; omega
  have e2 : (12 : Int) + (c : Int) * 4 = ((12 + 4 * c : Nat) : Int) := by omega
  have N2 := Lib.hid (fun w => number_any s (12 + 4 * c) w (by omega) hs)
  rw [← e2] at N2
  rcases Nat.eq_zero_or_pos c with h0 | h0
  · have d0 : decide (0 < c) = false := decide_eq_false (by omega)
    have HL := Lib.hid (show loAt s.data.toList c = 0 from by unfold loAt; rw [if_pos h0])
    clear h0 e2
    go_enter Try.func39, Try.ntmps39
    go_wp2_with fail
    refine (N2.out _).mono ?_
    rintro e w1 ⟨rfl, hb1⟩
    have H1 := Lib.hid hb1
    clear hb1 N2
    go_wp2_with fail
    go_ret2
    exact ⟨by rw [HL.out]; rfl, H1.out⟩
  · have d0 : decide (0 < c) = true := decide_eq_true (by omega)
    have e1 : (12 : Int) + ((c : Int) - 1) * 4 = ((12 + 4 * (c - 1) : Nat) : Int) := by omega
    have N1 := Lib.hid (fun w => number_any s (12 + 4 * (c - 1)) w (by omega) hs)
    rw [← e1] at N1
    have HL := Lib.hid (show loAt s.data.toList c = nAt s.data.toList (12 + 4 * (c - 1)) from by unfold loAt; rw [if_neg (by omega)])
    clear e1 e2
    go_enter Try.func39, Try.ntmps39
    go_wp2_with fail
    refine (N1.out _).mono ?_
    rintro e w1 ⟨rfl, hb1⟩
    have H1 := Lib.hid hb1
    clear hb1 N1
    go_wp2_with fail
    refine (N2.out _).mono ?_
    rintro e w2 ⟨rfl, hb2⟩
    have H2 := Lib.hid (H1.out.trans (hb2.mono H1.out.size))
    clear hb2 N2
    go_wp2_with fail
    go_ret2
    exact ⟨by rw [HL.out]; rfl, H2.out⟩
end Go.Proofs.Ytabgpleiobpeoaa.Pak
