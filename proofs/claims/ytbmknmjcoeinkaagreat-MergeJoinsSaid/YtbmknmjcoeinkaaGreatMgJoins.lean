/- The law MergeJoins, walked: what is joined, and what is below, is what the document says. Printed by gen_mglaws.py. (Layer 13.) -/
import Derived.Test.YtbmknmjcoeinkaaGreatMgLaw2
import Derived.Test.YtbmknmjcoeinkaaGreatMgR7
import Derived.Test.YtbmknmjcoeinkaaGreatMgR8
namespace Go.Proofs.YtbmknmjcoeinkaaGreat.Mg
set_option linter.unusedVariables false
set_option linter.unusedSimpArgs false
open Go.RowKit Go.Lib
open Mk (Rf Tok Tb TbR Mks MkR aMk eqB eqB_yes goodB)
set_option maxRecDepth 100000 in
set_option maxHeartbeats 8000000 in
theorem joins_law (a b : MkR) (w : World) (ha : a.Reads w ∧ a.Sized) (hb : b.Reads w ∧ b.Sized) : Calls Tryz.prog 3 #[aMk a, aMk b] w fun e w' => e = .returned (.bool true) ∧ Below w.heap.size w w' := by
  obtain ⟨o1a, n1a, f1a, o2a, n2a, f2a, o3a, n3a, f3a, ea⟩ := mk_form ha.1
  obtain ⟨o1b, n1b, f1b, o2b, n2b, f2b, o3b, n3b, f3b, eb⟩ := mk_form hb.1
  obtain ⟨B, hB⟩ : ∃ B, B = w.heap.size := ⟨_, rfl⟩
  obtain ⟨W0, hW0⟩ : ∃ W0, W0 = ((w.alloc (.cells #[.slice o1a n1a f1a, .slice o2a n2a f2a, .slice o3a n3a f3a] 26)).alloc (.cells #[.slice o1b n1b f1b, .slice o2b n2b f2b, .slice o3b n3b f3b] 26)) := ⟨_, rfl⟩
  have K_a := Lib.hid (show BlkIs W0 (B) 26 #[.slice o1a n1a f1a, .slice o2a n2a f2a, .slice o3a n3a f3a] by rw [hW0, hB]; exact BlkIs.alloc (blk_newAt (by simp) _ _) _)
  have K_b := Lib.hid (show BlkIs W0 (B + 1) 26 #[.slice o1b n1b f1b, .slice o2b n2b f2b, .slice o3b n3b f3b] by rw [hW0, hB]; exact blk_newAt (by simp) _ _)
  have HW := Lib.hid (show Below w.heap.size w W0 by rw [hW0]; exact ((Below.refl _ _).alloc (Nat.le_refl _) _).alloc (by simp; try omega) _)
  have R_a := Lib.hid (ha.1.later HW.out)
  have Z_a := Lib.hid ha.2
  have B_a := Lib.hid (Below.refl W0.heap.size W0)
  have E_a := Lib.hid ea
  have R_b := Lib.hid (hb.1.later HW.out)
  have Z_b := Lib.hid hb.2
  have B_b := Lib.hid (Below.refl W0.heap.size W0)
  have E_b := Lib.hid eb
  rw [ea, eb]
  have H0 := Lib.hid (And.intro hW0 hB)
  clear hW0 hB ea eb ha hb
  go_enter Tryz.func3, Tryz.ntmps3
  go_upto_region 1 with (fail)
  rw [← H0.out.2, ← H0.out.1]
  clear H0
  have L := Lib.hid (awake_any W0)
  go_wp2_with fail
  refine L.out.mono ?_
  rintro e w1 ⟨rfl, hb⟩
  clear L
  have B_a := Lib.hid (B_a.out.trans (hb.mono B_a.out.size))
  have B_b := Lib.hid (B_b.out.trans (hb.mono B_b.out.size))
  have HW := Lib.hid (HW.out.trans (hb.mono HW.out.size))
  clear hb
  have c_a0 : w1.cell? ⟨B, 0, none⟩ = some (.slice o1a n1a f1a) := (K_a.out.below B_a.out K_a.out.lt).cell 0
  have c_a1 : w1.cell? ⟨B, 1, none⟩ = some (.slice o2a n2a f2a) := (K_a.out.below B_a.out K_a.out.lt).cell 1
  have c_a2 : w1.cell? ⟨B, 2, none⟩ = some (.slice o3a n3a f3a) := (K_a.out.below B_a.out K_a.out.lt).cell 2
  have L := Mk.great_any a w1 (R_a.out.later B_a.out) Z_a.out
  rw [E_a.out] at L
  have L := Lib.hid L
  go_wp2_with fail
  refine L.out.mono ?_
  rintro e w2 ⟨⟨v, rfl, hv⟩, hb⟩
  clear c_a0 c_a1 c_a2 L
  have B_a := Lib.hid (B_a.out.trans (hb.mono B_a.out.size))
  have B_b := Lib.hid (B_b.out.trans (hb.mono B_b.out.size))
  have HW := Lib.hid (HW.out.trans (hb.mono HW.out.size))
  clear hb
  cases v with
  | true =>
    clear hv
    go_wp2_with fail
    go_ret
    exact ⟨rfl, HW.out⟩
  | false =>
    have S_a := Lib.hid (hv rfl).small
    clear hv
    have c_b0 : w2.cell? ⟨B + 1, 0, none⟩ = some (.slice o1b n1b f1b) := (K_b.out.below B_b.out K_b.out.lt).cell 0
    have c_b1 : w2.cell? ⟨B + 1, 1, none⟩ = some (.slice o2b n2b f2b) := (K_b.out.below B_b.out K_b.out.lt).cell 1
    have c_b2 : w2.cell? ⟨B + 1, 2, none⟩ = some (.slice o3b n3b f3b) := (K_b.out.below B_b.out K_b.out.lt).cell 2
    have L := Mk.great_any b w2 (R_b.out.later B_b.out) Z_b.out
    rw [E_b.out] at L
    have L := Lib.hid L
    go_wp2_with fail
    refine L.out.mono ?_
    rintro e w3 ⟨⟨v, rfl, hv⟩, hb⟩
    clear c_b0 c_b1 c_b2 L
    have B_a := Lib.hid (B_a.out.trans (hb.mono B_a.out.size))
    have B_b := Lib.hid (B_b.out.trans (hb.mono B_b.out.size))
    have HW := Lib.hid (HW.out.trans (hb.mono HW.out.size))
    clear hb
    cases v with
    | true =>
      clear hv
      go_wp2_with fail
      go_ret
      exact ⟨rfl, HW.out⟩
    | false =>
      have S_b := Lib.hid (hv rfl).small
      clear hv
      have c_a0 : w3.cell? ⟨B, 0, none⟩ = some (.slice o1a n1a f1a) := (K_a.out.below B_a.out K_a.out.lt).cell 0
      have c_a1 : w3.cell? ⟨B, 1, none⟩ = some (.slice o2a n2a f2a) := (K_a.out.below B_a.out K_a.out.lt).cell 1
      have c_a2 : w3.cell? ⟨B, 2, none⟩ = some (.slice o3a n3a f3a) := (K_a.out.below B_a.out K_a.out.lt).cell 2
      have c_b0 : w3.cell? ⟨B + 1, 0, none⟩ = some (.slice o1b n1b f1b) := (K_b.out.below B_b.out K_b.out.lt).cell 0
      have c_b1 : w3.cell? ⟨B + 1, 1, none⟩ = some (.slice o2b n2b f2b) := (K_b.out.below B_b.out K_b.out.lt).cell 1
      have c_b2 : w3.cell? ⟨B + 1, 2, none⟩ = some (.slice o3b n3b f3b) := (K_b.out.below B_b.out K_b.out.lt).cell 2
      have J := join_any a b w3 (R_a.out.later B_a.out) (R_b.out.later B_b.out) S_a.out S_b.out
      rw [E_a.out, E_b.out] at J
      have J := Lib.hid J
      go_wp2_with fail
      refine J.out.mono ?_
      rintro e w4 ⟨m_x, c_x, rfl, hr, hb, hj⟩
      clear c_a0 c_a1 c_a2 c_b0 c_b1 c_b2 J
      have B_a := Lib.hid (B_a.out.trans (hb.mono B_a.out.size))
      have B_b := Lib.hid (B_b.out.trans (hb.mono B_b.out.size))
      have HW := Lib.hid (HW.out.trans (hb.mono HW.out.size))
      have J_x := Lib.hid hj
      have R_x := Lib.hid hr
      obtain ⟨o1x, n1x, f1x, o2x, n2x, f2x, o3x, n3x, f3x, eM⟩ := mk_form hr
      rw [eM]
      have E_x := Lib.hid eM
      clear hr hb hj eM
      obtain ⟨W5, hWW⟩ : ∃ X, X = w4.alloc (.cells #[.slice o1x n1x f1x, .slice o2x n2x f2x, .slice o3x n3x f3x] 26) := ⟨_, rfl⟩
      obtain ⟨Gx, hGG⟩ : ∃ X, X = w4.heap.size := ⟨_, rfl⟩
      have hba : Below w4.heap.size w4 W5 := by rw [hWW]; exact (Below.refl _ _).alloc (Nat.le_refl _) _
      have K_x := Lib.hid (show BlkIs W5 Gx 26 #[.slice o1x n1x f1x, .slice o2x n2x f2x, .slice o3x n3x f3x] by rw [hWW, hGG]; exact BlkIs.new _ _ _)
      have R_x := Lib.hid (show MkR.Reads W5 m_x from R_x.out.later hba)
      have HWW := Lib.hid (And.intro hWW hGG)
      have B_a := Lib.hid (B_a.out.trans (hba.mono B_a.out.size))
      have B_b := Lib.hid (B_b.out.trans (hba.mono B_b.out.size))
      have HW := Lib.hid (HW.out.trans (hba.mono HW.out.size))
      have B_x := Lib.hid (Below.refl W5.heap.size W5)
      clear hWW hGG hba
      go_upto_region 6 with (fail)
      rw [← HWW.out.1, ← HWW.out.2]
      clear HWW
      have c_a0 : W5.cell? ⟨B, 0, none⟩ = some (.slice o1a n1a f1a) := (K_a.out.below B_a.out K_a.out.lt).cell 0
      have c_a1 : W5.cell? ⟨B, 1, none⟩ = some (.slice o2a n2a f2a) := (K_a.out.below B_a.out K_a.out.lt).cell 1
      have c_a2 : W5.cell? ⟨B, 2, none⟩ = some (.slice o3a n3a f3a) := (K_a.out.below B_a.out K_a.out.lt).cell 2
      have c_b0 : W5.cell? ⟨B + 1, 0, none⟩ = some (.slice o1b n1b f1b) := (K_b.out.below B_b.out K_b.out.lt).cell 0
      have c_b1 : W5.cell? ⟨B + 1, 1, none⟩ = some (.slice o2b n2b f2b) := (K_b.out.below B_b.out K_b.out.lt).cell 1
      have c_b2 : W5.cell? ⟨B + 1, 2, none⟩ = some (.slice o3b n3b f3b) := (K_b.out.below B_b.out K_b.out.lt).cell 2
      have J := rjoin_any a b W5 (R_a.out.later B_a.out) (R_b.out.later B_b.out) S_a.out S_b.out
      rw [E_a.out, E_b.out] at J
      have J := Lib.hid J
      go_wp2_with fail
      refine J.out.mono ?_
      rintro e w6 ⟨m_y, c_y, rfl, hr, hb, hj⟩
      clear c_a0 c_a1 c_a2 c_b0 c_b1 c_b2 J
      have B_a := Lib.hid (B_a.out.trans (hb.mono B_a.out.size))
      have B_b := Lib.hid (B_b.out.trans (hb.mono B_b.out.size))
      have B_x := Lib.hid (B_x.out.trans (hb.mono B_x.out.size))
      have HW := Lib.hid (HW.out.trans (hb.mono HW.out.size))
      have J_y := Lib.hid hj
      have R_y := Lib.hid hr
      obtain ⟨o1y, n1y, f1y, o2y, n2y, f2y, o3y, n3y, f3y, eM⟩ := mk_form hr
      rw [eM]
      have E_y := Lib.hid eM
      clear hr hb hj eM
      obtain ⟨W7, hWW⟩ : ∃ X, X = w6.alloc (.cells #[.slice o1y n1y f1y, .slice o2y n2y f2y, .slice o3y n3y f3y] 26) := ⟨_, rfl⟩
      obtain ⟨Gy, hGG⟩ : ∃ X, X = w6.heap.size := ⟨_, rfl⟩
      have hba : Below w6.heap.size w6 W7 := by rw [hWW]; exact (Below.refl _ _).alloc (Nat.le_refl _) _
      have K_y := Lib.hid (show BlkIs W7 Gy 26 #[.slice o1y n1y f1y, .slice o2y n2y f2y, .slice o3y n3y f3y] by rw [hWW, hGG]; exact BlkIs.new _ _ _)
      have R_y := Lib.hid (show MkR.Reads W7 m_y from R_y.out.later hba)
      have HWW := Lib.hid (And.intro hWW hGG)
      have B_a := Lib.hid (B_a.out.trans (hba.mono B_a.out.size))
      have B_b := Lib.hid (B_b.out.trans (hba.mono B_b.out.size))
      have B_x := Lib.hid (B_x.out.trans (hba.mono B_x.out.size))
      have HW := Lib.hid (HW.out.trans (hba.mono HW.out.size))
      have B_y := Lib.hid (Below.refl W7.heap.size W7)
      clear hWW hGG hba
      go_upto_region 7 with (fail)
      rw [← HWW.out.1, ← HWW.out.2]
      clear HWW
      have hxy := jout_unique J_x.out J_y.out
      have HXY := Lib.hid hxy
      obtain ⟨-, rfl⟩ := hxy
      have S_x := Lib.hid (jout_small J_x.out)
      have S_y := Lib.hid (jout_small J_y.out)
      obtain ⟨q, hq⟩ : ∃ q, q = belowB a.mk_ b.mk_ := ⟨_, rfl⟩
      have T1 := fun X : LaterOf W7 => Mk.same_any' m_x m_y X.w (R_x.out.later (B_x.out.trans (X.h.mono B_x.out.size))) (R_y.out.later (B_y.out.trans (X.h.mono B_y.out.size))) S_x.out S_y.out
      have T2 := fun X : LaterOf W7 => below_any a b X.w (R_a.out.later (B_a.out.trans (X.h.mono B_a.out.size))) (R_b.out.later (B_b.out.trans (X.h.mono B_b.out.size))) S_a.out S_b.out
      have T3 := fun X : LaterOf W7 => rbelow_any a b X.w (R_a.out.later (B_a.out.trans (X.h.mono B_a.out.size))) (R_b.out.later (B_b.out.trans (X.h.mono B_b.out.size))) S_a.out S_b.out
      rw [E_x.out, E_y.out, HXY.out.1, eqB_yes rfl] at T1
      rw [E_a.out, E_b.out, ← hq] at T2 T3
      clear hq
      have T1 := Lib.hid T1
      have T2 := Lib.hid T2
      have T3 := Lib.hid T3
      have c_x0 : ∀ X : LaterOf W7, X.w.cell? ⟨Gx, 0, none⟩ = some (.slice o1x n1x f1x) := fun X => (K_x.out.below (B_x.out.trans (X.h.mono B_x.out.size)) K_x.out.lt).cell 0
      have c_x1 : ∀ X : LaterOf W7, X.w.cell? ⟨Gx, 1, none⟩ = some (.slice o2x n2x f2x) := fun X => (K_x.out.below (B_x.out.trans (X.h.mono B_x.out.size)) K_x.out.lt).cell 1
      have c_x2 : ∀ X : LaterOf W7, X.w.cell? ⟨Gx, 2, none⟩ = some (.slice o3x n3x f3x) := fun X => (K_x.out.below (B_x.out.trans (X.h.mono B_x.out.size)) K_x.out.lt).cell 2
      have c_y0 : ∀ X : LaterOf W7, X.w.cell? ⟨Gy, 0, none⟩ = some (.slice o1y n1y f1y) := fun X => (K_y.out.below (B_y.out.trans (X.h.mono B_y.out.size)) K_y.out.lt).cell 0
      have c_y1 : ∀ X : LaterOf W7, X.w.cell? ⟨Gy, 1, none⟩ = some (.slice o2y n2y f2y) := fun X => (K_y.out.below (B_y.out.trans (X.h.mono B_y.out.size)) K_y.out.lt).cell 1
      have c_y2 : ∀ X : LaterOf W7, X.w.cell? ⟨Gy, 2, none⟩ = some (.slice o3y n3y f3y) := fun X => (K_y.out.below (B_y.out.trans (X.h.mono B_y.out.size)) K_y.out.lt).cell 2
      have c_a0 : ∀ X : LaterOf W7, X.w.cell? ⟨B, 0, none⟩ = some (.slice o1a n1a f1a) := fun X => (K_a.out.below (B_a.out.trans (X.h.mono B_a.out.size)) K_a.out.lt).cell 0
      have c_a1 : ∀ X : LaterOf W7, X.w.cell? ⟨B, 1, none⟩ = some (.slice o2a n2a f2a) := fun X => (K_a.out.below (B_a.out.trans (X.h.mono B_a.out.size)) K_a.out.lt).cell 1
      have c_a2 : ∀ X : LaterOf W7, X.w.cell? ⟨B, 2, none⟩ = some (.slice o3a n3a f3a) := fun X => (K_a.out.below (B_a.out.trans (X.h.mono B_a.out.size)) K_a.out.lt).cell 2
      have c_b0 : ∀ X : LaterOf W7, X.w.cell? ⟨B + 1, 0, none⟩ = some (.slice o1b n1b f1b) := fun X => (K_b.out.below (B_b.out.trans (X.h.mono B_b.out.size)) K_b.out.lt).cell 0
      have c_b1 : ∀ X : LaterOf W7, X.w.cell? ⟨B + 1, 1, none⟩ = some (.slice o2b n2b f2b) := fun X => (K_b.out.below (B_b.out.trans (X.h.mono B_b.out.size)) K_b.out.lt).cell 1
      have c_b2 : ∀ X : LaterOf W7, X.w.cell? ⟨B + 1, 2, none⟩ = some (.slice o3b n3b f3b) := fun X => (K_b.out.below (B_b.out.trans (X.h.mono B_b.out.size)) K_b.out.lt).cell 2
      refine wp_region_all (fun w' => ∃ X : LaterOf W7, w' = X.w) (by kernel_rfl) (by kernel_rfl) ⟨LaterOf.start W7, rfl⟩ ?_
      repeat (go_big_quiet_step (first | with_reducible rfl | with_reducible exact LaterOf.call _ (T1.out _) | with_reducible exact LaterOf.call _ (T2.out _) | with_reducible exact LaterOf.call _ (T3.out _)))
      refine wpQuiet_nil ?_
      intro ww hw
      obtain ⟨X, rfl⟩ := hw
      have HW := Lib.hid (HW.out.trans (X.h.mono HW.out.size))
      go_wp2_with fail
      go_ret
      exact ⟨by simp, HW.out⟩
end Go.Proofs.YtbmknmjcoeinkaaGreat.Mg
