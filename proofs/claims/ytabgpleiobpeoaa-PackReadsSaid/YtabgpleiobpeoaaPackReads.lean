/- The law PackReads answers true. Conditions: none but the memory's reach. (Layer 07.) -/
import Derived.Test.YtabgpleiobpeoaaPackAwake
import Derived.Test.YtabgpleiobpeoaaPack10
namespace Go.Proofs.Ytabgpleiobpeoaa.Pak
set_option linter.unusedVariables false
open Go.RowKit Go.Sort Go.Lib
set_option maxRecDepth 100000 in
set_option maxHeartbeats 1000000 in
theorem reads_any (s : ByteArray) (w : World) (hs : s.size ≤ 140737488351232) :
    Calls Try.prog 4 #[.string s] w fun e w' => e = .returned (.bool true) ∧ Below w.heap.size w w' := by
  have A := Lib.hid (awake_any w)
  by_cases hg : 262144 < s.size
  · have d1 : decide ((262144 : Int) < s.size) = true := decide_eq_true (by omega)
    clear hg
    go_enter Try.func4, Try.ntmps4
    go_wp2_with fail
    refine A.out.mono ?_
    rintro e w1 ⟨rfl, hb1⟩
    have H1 := Lib.hid hb1
    clear hb1 A
    go_wp2_with fail
    go_ret
    exact ⟨rfl, H1.out⟩
  have d1 : decide ((262144 : Int) < s.size) = false := decide_eq_false (by omega)
  have R := Lib.hid (fun w => read_any s w (by omega))
  have R2 := Lib.hid (fun w => rread_any s w (by omega))
  clear hg
  go_enter Try.func4, Try.ntmps4
  go_wp2_with fail
  refine A.out.mono ?_
  rintro e w1 ⟨rfl, hb1⟩
  have H1 := Lib.hid hb1
  clear hb1 A
  go_wp2_with fail
  refine (R.out _).mono ?_
  rintro e w2 ⟨c, L, ao, cap, hr, rfl, hi, hb2⟩
  have H2 := Lib.hid (And.intro hr (And.intro hi (H1.out.trans (hb2.mono H1.out.size))))
  clear hr hi hb2 R H1
  go_wp2_with fail
  refine (R2.out _).mono ?_
  rintro e w3 ⟨c', L', ao', cap', hr, rfl, hi, hb3⟩
  obtain ⟨rfl, rfl⟩ := read_unique H2.out.1 hr
  have SA := Lib.hid (rsame_any ao ao' cap cap' L w3 (H2.out.2.1.later hb3) hi)
  have H3 := Lib.hid (H2.out.2.2.trans (hb3.mono H2.out.2.2.size))
  have hcc : ((c : Int) == (c : Int)) = true := by simp
  clear hr hi hb3 R2 H2
  go_wp2_with fail
  refine SA.out.mono ?_
  rintro e w4 ⟨rfl, hb4⟩
  have H4 := Lib.hid (H3.out.trans (hb4.mono H3.out.size))
  clear hb4 SA
  go_wp2_with fail
  go_ret
  exact ⟨rfl, H4.out⟩
end Go.Proofs.Ytabgpleiobpeoaa.Pak
