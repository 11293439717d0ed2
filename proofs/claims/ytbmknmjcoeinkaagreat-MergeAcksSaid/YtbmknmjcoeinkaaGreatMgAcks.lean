/- The law MergeAcks, walked: an ack is what the document says. Printed by gen_mglaws.py. (Layer 13.) -/
import Derived.Test.YtbmknmjcoeinkaaGreatMgLaw2
import Derived.Test.YtbmknmjcoeinkaaGreatMgR4
namespace Go.Proofs.YtbmknmjcoeinkaaGreat.Mg
set_option linter.unusedVariables false
set_option linter.unusedSimpArgs false
open Go.RowKit Go.Lib
open Mk (Rf Tok Tb TbR Mks MkR aMk eqB eqB_yes goodB)
theorem aout_unique {m m' m2 : Mks} {n c c2 : Int} (h : AOut m n m' c) (h2 : AOut m n m2 c2) : m' = m2 ∧ c = c2 := by
  rcases h with ⟨h, rfl, rfl⟩ | ⟨h, rfl, rfl⟩ <;> rcases h2 with ⟨h2, rfl, rfl⟩ | ⟨h2, rfl, rfl⟩
  · exact ⟨rfl, rfl⟩
  · exact absurd h2 h
  · exact absurd h h2
  · exact ⟨rfl, rfl⟩
theorem aout_small {a : Mks} {m : MkR} {n c : Int} (h : AOut a n m.mk_ c) : m.Small := by
  rcases h with ⟨-, h, -⟩ | ⟨hg, h, -⟩
  · exact empty_small h
  · exact good_small' (by rw [h]; exact ack_good hg.1 hg.2)
set_option maxRecDepth 100000 in
set_option maxHeartbeats 8000000 in
theorem acks_law (m : MkR) (node : Int) (w : World) (hm : m.Reads w ∧ m.Sized) : Calls Tryz.prog 4 #[aMk m, .int .i64 node] w fun e w' => e = .returned (.bool true) ∧ Below w.heap.size w w' := by
  obtain ⟨o1m, n1m, f1m, o2m, n2m, f2m, o3m, n3m, f3m, em⟩ := mk_form hm.1
  obtain ⟨B, hB⟩ : ∃ B, B = w.heap.size := ⟨_, rfl⟩
  obtain ⟨W0, hW0⟩ : ∃ W0, W0 = (w.alloc (.cells #[.slice o1m n1m f1m, .slice o2m n2m f2m, .slice o3m n3m f3m] 26)) := ⟨_, rfl⟩
  have K_m := Lib.hid (show BlkIs W0 (B) 26 #[.slice o1m n1m f1m, .slice o2m n2m f2m, .slice o3m n3m f3m] by rw [hW0, hB]; exact blk_newAt (by simp) _ _)
  have HW := Lib.hid (show Below w.heap.size w W0 by rw [hW0]; exact (Below.refl _ _).alloc (Nat.le_refl _) _)
  have R_m := Lib.hid (hm.1.later HW.out)
  have Z_m := Lib.hid hm.2
  have B_m := Lib.hid (Below.refl W0.heap.size W0)
  have E_m := Lib.hid em
  rw [em]
  have H0 := Lib.hid (And.intro hW0 hB)
  clear hW0 hB em hm
  go_enter Tryz.func4, Tryz.ntmps4
  go_upto_region 1 with (fail)
  rw [← H0.out.2, ← H0.out.1]
  clear H0
  have L := Lib.hid (awake_any W0)
  go_wp2_with fail
  refine L.out.mono ?_
  rintro e w1 ⟨rfl, hb⟩
  clear L
  have B_m := Lib.hid (B_m.out.trans (hb.mono B_m.out.size))
  have HW := Lib.hid (HW.out.trans (hb.mono HW.out.size))
  clear hb
  have c_m0 : w1.cell? ⟨B, 0, none⟩ = some (.slice o1m n1m f1m) := (K_m.out.below B_m.out K_m.out.lt).cell 0
  have c_m1 : w1.cell? ⟨B, 1, none⟩ = some (.slice o2m n2m f2m) := (K_m.out.below B_m.out K_m.out.lt).cell 1
  have c_m2 : w1.cell? ⟨B, 2, none⟩ = some (.slice o3m n3m f3m) := (K_m.out.below B_m.out K_m.out.lt).cell 2
  have L := Mk.great_any m w1 (R_m.out.later B_m.out) Z_m.out
  rw [E_m.out] at L
  have L := Lib.hid L
  go_wp2_with fail
  refine L.out.mono ?_
  rintro e w2 ⟨⟨v, rfl, hv⟩, hb⟩
  clear c_m0 c_m1 c_m2 L
  have B_m := Lib.hid (B_m.out.trans (hb.mono B_m.out.size))
  have HW := Lib.hid (HW.out.trans (hb.mono HW.out.size))
  clear hb
  cases v with
  | true =>
    clear hv
    go_wp2_with fail
    go_ret
    exact ⟨rfl, HW.out⟩
  | false =>
    have S_m := Lib.hid (hv rfl).small
    clear hv
    have c_m0 : w2.cell? ⟨B, 0, none⟩ = some (.slice o1m n1m f1m) := (K_m.out.below B_m.out K_m.out.lt).cell 0
    have c_m1 : w2.cell? ⟨B, 1, none⟩ = some (.slice o2m n2m f2m) := (K_m.out.below B_m.out K_m.out.lt).cell 1
    have c_m2 : w2.cell? ⟨B, 2, none⟩ = some (.slice o3m n3m f3m) := (K_m.out.below B_m.out K_m.out.lt).cell 2
    have J := ack_any m node w2 (R_m.out.later B_m.out) S_m.out
    rw [E_m.out] at J
    have J := Lib.hid J
    go_wp2_with fail
    refine J.out.mono ?_
    rintro e w3 ⟨m_x, c_x, rfl, hr, hb, hj⟩
    clear c_m0 c_m1 c_m2 J
    have B_m := Lib.hid (B_m.out.trans (hb.mono B_m.out.size))
    have HW := Lib.hid (HW.out.trans (hb.mono HW.out.size))
    have J_x := Lib.hid hj
    have R_x := Lib.hid hr
    obtain ⟨o1x, n1x, f1x, o2x, n2x, f2x, o3x, n3x, f3x, eM⟩ := mk_form hr
    rw [eM]
    have E_x := Lib.hid eM
    clear hr hb hj eM
    obtain ⟨W4, hWW⟩ : ∃ X, X = w3.alloc (.cells #[.slice o1x n1x f1x, .slice o2x n2x f2x, .slice o3x n3x f3x] 26) := ⟨_, rfl⟩
    obtain ⟨Gx, hGG⟩ : ∃ X, X = w3.heap.size := ⟨_, rfl⟩
    have hba : Below w3.heap.size w3 W4 := by rw [hWW]; exact (Below.refl _ _).alloc (Nat.le_refl _) _
    have K_x := Lib.hid (show BlkIs W4 Gx 26 #[.slice o1x n1x f1x, .slice o2x n2x f2x, .slice o3x n3x f3x] by rw [hWW, hGG]; exact BlkIs.new _ _ _)
    have R_x := Lib.hid (show MkR.Reads W4 m_x from R_x.out.later hba)
    have HWW := Lib.hid (And.intro hWW hGG)
    have B_m := Lib.hid (B_m.out.trans (hba.mono B_m.out.size))
    have HW := Lib.hid (HW.out.trans (hba.mono HW.out.size))
    have B_x := Lib.hid (Below.refl W4.heap.size W4)
    clear hWW hGG hba
    go_upto_region 6 with (fail)
    rw [← HWW.out.1, ← HWW.out.2]
    clear HWW
    have c_m0 : W4.cell? ⟨B, 0, none⟩ = some (.slice o1m n1m f1m) := (K_m.out.below B_m.out K_m.out.lt).cell 0
    have c_m1 : W4.cell? ⟨B, 1, none⟩ = some (.slice o2m n2m f2m) := (K_m.out.below B_m.out K_m.out.lt).cell 1
    have c_m2 : W4.cell? ⟨B, 2, none⟩ = some (.slice o3m n3m f3m) := (K_m.out.below B_m.out K_m.out.lt).cell 2
    have J := rack_any m node W4 (R_m.out.later B_m.out) S_m.out
    rw [E_m.out] at J
    have J := Lib.hid J
    go_wp2_with fail
    refine J.out.mono ?_
    rintro e w5 ⟨m_y, c_y, rfl, hr, hb, hj⟩
    clear c_m0 c_m1 c_m2 J
    have B_m := Lib.hid (B_m.out.trans (hb.mono B_m.out.size))
    have B_x := Lib.hid (B_x.out.trans (hb.mono B_x.out.size))
    have HW := Lib.hid (HW.out.trans (hb.mono HW.out.size))
    have J_y := Lib.hid hj
    have R_y := Lib.hid hr
    obtain ⟨o1y, n1y, f1y, o2y, n2y, f2y, o3y, n3y, f3y, eM⟩ := mk_form hr
    rw [eM]
    have E_y := Lib.hid eM
    clear hr hb hj eM
    obtain ⟨W6, hWW⟩ : ∃ X, X = w5.alloc (.cells #[.slice o1y n1y f1y, .slice o2y n2y f2y, .slice o3y n3y f3y] 26) := ⟨_, rfl⟩
    obtain ⟨Gy, hGG⟩ : ∃ X, X = w5.heap.size := ⟨_, rfl⟩
    have hba : Below w5.heap.size w5 W6 := by rw [hWW]; exact (Below.refl _ _).alloc (Nat.le_refl _) _
    have K_y := Lib.hid (show BlkIs W6 Gy 26 #[.slice o1y n1y f1y, .slice o2y n2y f2y, .slice o3y n3y f3y] by rw [hWW, hGG]; exact BlkIs.new _ _ _)
    have R_y := Lib.hid (show MkR.Reads W6 m_y from R_y.out.later hba)
    have HWW := Lib.hid (And.intro hWW hGG)
    have B_m := Lib.hid (B_m.out.trans (hba.mono B_m.out.size))
    have B_x := Lib.hid (B_x.out.trans (hba.mono B_x.out.size))
    have HW := Lib.hid (HW.out.trans (hba.mono HW.out.size))
    have B_y := Lib.hid (Below.refl W6.heap.size W6)
    clear hWW hGG hba
    go_upto_region 7 with (fail)
    rw [← HWW.out.1, ← HWW.out.2]
    clear HWW
    have hxy := aout_unique J_x.out J_y.out
    have HXY := Lib.hid hxy
    obtain ⟨-, rfl⟩ := hxy
    have S_x := Lib.hid (aout_small J_x.out)
    have S_y := Lib.hid (aout_small J_y.out)
    have c_x0 : W6.cell? ⟨Gx, 0, none⟩ = some (.slice o1x n1x f1x) := (K_x.out.below B_x.out K_x.out.lt).cell 0
    have c_x1 : W6.cell? ⟨Gx, 1, none⟩ = some (.slice o2x n2x f2x) := (K_x.out.below B_x.out K_x.out.lt).cell 1
    have c_x2 : W6.cell? ⟨Gx, 2, none⟩ = some (.slice o3x n3x f3x) := (K_x.out.below B_x.out K_x.out.lt).cell 2
    have c_y0 : W6.cell? ⟨Gy, 0, none⟩ = some (.slice o1y n1y f1y) := (K_y.out.below B_y.out K_y.out.lt).cell 0
    have c_y1 : W6.cell? ⟨Gy, 1, none⟩ = some (.slice o2y n2y f2y) := (K_y.out.below B_y.out K_y.out.lt).cell 1
    have c_y2 : W6.cell? ⟨Gy, 2, none⟩ = some (.slice o3y n3y f3y) := (K_y.out.below B_y.out K_y.out.lt).cell 2
    have L := Mk.same_any' m_x m_y W6 (R_x.out.later B_x.out) (R_y.out.later B_y.out) S_x.out S_y.out
    rw [E_x.out, E_y.out, HXY.out.1, eqB_yes rfl] at L
    have L := Lib.hid L
    go_wp2_with fail
    refine L.out.mono ?_
    rintro e w7 ⟨rfl, hb⟩
    clear c_x0 c_x1 c_x2 c_y0 c_y1 c_y2 L
    have B_m := Lib.hid (B_m.out.trans (hb.mono B_m.out.size))
    have B_x := Lib.hid (B_x.out.trans (hb.mono B_x.out.size))
    have B_y := Lib.hid (B_y.out.trans (hb.mono B_y.out.size))
    have HW := Lib.hid (HW.out.trans (hb.mono HW.out.size))
    clear hb
    go_wp2_with fail
    go_ret
    exact ⟨rfl, HW.out⟩
end Go.Proofs.YtbmknmjcoeinkaaGreat.Mg
