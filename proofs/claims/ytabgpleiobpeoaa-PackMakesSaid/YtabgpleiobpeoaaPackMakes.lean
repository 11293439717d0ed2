/- The law PackMakes answers true. Conditions: none but the memory's reach. (Layer 07.) -/
import Derived.Test.YtabgpleiobpeoaaPackAwake
import Derived.Test.YtabgpleiobpeoaaPack15
namespace Go.Proofs.Ytabgpleiobpeoaa.Pak
set_option linter.unusedVariables false
open Go.RowKit Go.Sort Go.Lib
set_option maxRecDepth 100000 in
set_option maxHeartbeats 1000000 in
theorem makes_any (ao : Option Addr) (n cap : Nat) (ss : List ByteArray) (w : World) (h : StrRow w ao n ss) :
    Calls Try.prog 3 #[.slice ao n cap] w fun e w' => e = .returned (.bool true) ∧ Below w.heap.size w w' := by
  have hS := strsAt_row h
  have hsz := h.2.1
  obtain ⟨rfl, -⟩ := h
  have hm := hS.1
  have A := Lib.hid (awake_any w)
  have HS := Lib.hid hS
  have G := Lib.hid (fun w' (hb : Below w.heap.size w w') => great_any ao cap ss w' (hS.later hb) hsz)
  clear hS hsz
  go_enter Try.func3, Try.ntmps3
  go_wp2_with fail
  refine A.out.mono ?_
  rintro e w1 ⟨rfl, hb1⟩
  have H1 := Lib.hid hb1
  clear hb1 A
  go_wp2_with fail
  refine (G.out w1 H1.out).mono ?_
  rintro e w2 ⟨⟨g, rfl, hg⟩, rfl⟩
  clear G
  cases g
  case true =>
    clear hg
    go_wp2_with fail
    go_ret
    exact ⟨rfl, H1.out⟩
  obtain ⟨h60, htot⟩ := hg rfl
  have M := Lib.hid (make_any ao cap ss w1 (HS.out.later H1.out) (by omega) (by omega))
  have M2 := Lib.hid (fun w' (hb : Below w.heap.size w w') => rmake_any ao cap ss w' (HS.out.later hb) (by omega) (by omega))
  clear hg h60 htot
  go_wp2_with fail
  refine M.out.mono ?_
  rintro e w3 ⟨c, b, rfl, hm3, hb3⟩
  have H3 := Lib.hid (H1.out.trans (hb3.mono H1.out.size))
  have HM := Lib.hid hm3
  clear hm3 hb3 M
  go_wp2_with fail
  refine (M2.out w3 H3.out).mono ?_
  rintro e w4 ⟨c', b', rfl, hm4, hb4⟩
  have H4 := Lib.hid (H3.out.trans (hb4.mono H3.out.size))
  obtain ⟨rfl, rfl⟩ := make_unique (List.Perm.refl _) HM.out hm4
  have hcc : ((c : Int) == (c : Int)) = true := by simp
  obtain ⟨B, hB⟩ : ∃ B : ByteArray, B = ⟨b.toArray⟩ := ⟨_, rfl⟩
  rw [← hB]
  have hbb : (B.toList == B.toList) = true := by simp
  clear hm4 hb4 M2 HM hB
  go_wp2_with fail
  go_ret
  exact ⟨rfl, H4.out⟩
end Go.Proofs.Ytabgpleiobpeoaa.Pak
