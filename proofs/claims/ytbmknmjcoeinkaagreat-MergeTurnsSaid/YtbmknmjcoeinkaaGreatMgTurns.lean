/- The law MergeTurns, walked: it does not matter who is joined first. Printed by gen_mgturns.py. (Layer 13.) -/
import Derived.Test.YtbmknmjcoeinkaaGreatMgLaw
namespace Go.Proofs.YtbmknmjcoeinkaaGreat.Mg
set_option linter.unusedVariables false
set_option linter.unusedSimpArgs false
open Go.RowKit Go.Lib
open Mk (Rf Tok Tb TbR Mks MkR aMk eqB eqB_yes goodB)
set_option maxRecDepth 100000 in
set_option maxHeartbeats 8000000 in
theorem turns_any (a b c : MkR) (w : World) (ha : a.Reads w ∧ a.Sized) (hb : b.Reads w ∧ b.Sized) (hc : c.Reads w ∧ c.Sized) : Calls Tryz.prog 6 #[aMk a, aMk b, aMk c] w fun e w' => e = .returned (.bool true) ∧ Below w.heap.size w w' := by
  obtain ⟨o1a, n1a, f1a, o2a, n2a, f2a, o3a, n3a, f3a, ea⟩ := mk_form ha.1
  obtain ⟨o1b, n1b, f1b, o2b, n2b, f2b, o3b, n3b, f3b, eb⟩ := mk_form hb.1
  obtain ⟨o1c, n1c, f1c, o2c, n2c, f2c, o3c, n3c, f3c, ec⟩ := mk_form hc.1
  obtain ⟨B, hB⟩ : ∃ B, B = w.heap.size := ⟨_, rfl⟩
  obtain ⟨W0, hW0⟩ : ∃ W0, W0 = (((w.alloc (.cells #[.slice o1a n1a f1a, .slice o2a n2a f2a, .slice o3a n3a f3a] 26)).alloc (.cells #[.slice o1b n1b f1b, .slice o2b n2b f2b, .slice o3b n3b f3b] 26)).alloc (.cells #[.slice o1c n1c f1c, .slice o2c n2c f2c, .slice o3c n3c f3c] 26)) := ⟨_, rfl⟩
  have K_a := Lib.hid (show BlkIs W0 (B) 26 #[.slice o1a n1a f1a, .slice o2a n2a f2a, .slice o3a n3a f3a] by rw [hW0, hB]; exact BlkIs.alloc (BlkIs.alloc (blk_newAt (by simp) _ _) _) _)
  have K_b := Lib.hid (show BlkIs W0 (B + 1) 26 #[.slice o1b n1b f1b, .slice o2b n2b f2b, .slice o3b n3b f3b] by rw [hW0, hB]; exact BlkIs.alloc (blk_newAt (by simp) _ _) _)
  have K_c := Lib.hid (show BlkIs W0 (B + 1 + 1) 26 #[.slice o1c n1c f1c, .slice o2c n2c f2c, .slice o3c n3c f3c] by rw [hW0, hB]; exact blk_newAt (by simp) _ _)
  have HW := Lib.hid (show Below w.heap.size w W0 by rw [hW0]; exact (((Below.refl _ _).alloc (Nat.le_refl _) _).alloc (by simp; try omega) _).alloc (by simp; try omega) _)
  have R_a := Lib.hid (ha.1.later HW.out)
  have Z_a := Lib.hid ha.2
  have B_a := Lib.hid (Below.refl W0.heap.size W0)
  have E_a := Lib.hid ea
  have R_b := Lib.hid (hb.1.later HW.out)
  have Z_b := Lib.hid hb.2
  have B_b := Lib.hid (Below.refl W0.heap.size W0)
  have E_b := Lib.hid eb
  have R_c := Lib.hid (hc.1.later HW.out)
  have Z_c := Lib.hid hc.2
  have B_c := Lib.hid (Below.refl W0.heap.size W0)
  have E_c := Lib.hid ec
  rw [ea, eb, ec]
  have H0 := Lib.hid (And.intro hW0 hB)
  clear hW0 hB ea eb ec ha hb hc
  go_enter Tryz.func6, Tryz.ntmps6
  go_upto_region 1 with (fail)
  rw [← H0.out.2, ← H0.out.1]
  clear H0
  have L := Lib.hid (awake_any W0)
  go_wp2_with fail
  refine L.out.mono ?_
  rintro e w1 ⟨rfl, hb⟩
  clear L
  have B_a := Lib.hid (B_a.out.trans (hb.mono B_a.out.size))
  have B_b := Lib.hid (B_b.out.trans (hb.mono B_b.out.size))
  have B_c := Lib.hid (B_c.out.trans (hb.mono B_c.out.size))
  have HW := Lib.hid (HW.out.trans (hb.mono HW.out.size))
  clear hb
  have c_a0 : w1.cell? ⟨B, 0, none⟩ = some (.slice o1a n1a f1a) := (K_a.out.below B_a.out K_a.out.lt).cell 0
  have c_a1 : w1.cell? ⟨B, 1, none⟩ = some (.slice o2a n2a f2a) := (K_a.out.below B_a.out K_a.out.lt).cell 1
  have c_a2 : w1.cell? ⟨B, 2, none⟩ = some (.slice o3a n3a f3a) := (K_a.out.below B_a.out K_a.out.lt).cell 2
  have L := Mk.great_any a w1 (R_a.out.later B_a.out) Z_a.out
  rw [E_a.out] at L
  have L := Lib.hid L
  go_wp2_with fail
  refine L.out.mono ?_
  rintro e w2 ⟨⟨v, rfl, hv⟩, hb⟩
  clear c_a0 c_a1 c_a2 L
  have B_a := Lib.hid (B_a.out.trans (hb.mono B_a.out.size))
  have B_b := Lib.hid (B_b.out.trans (hb.mono B_b.out.size))
  have B_c := Lib.hid (B_c.out.trans (hb.mono B_c.out.size))
  have HW := Lib.hid (HW.out.trans (hb.mono HW.out.size))
  clear hb
  cases v with
  | true =>
    clear hv
    go_wp2_with fail
    go_ret
    exact ⟨rfl, HW.out⟩
  | false =>
    have S_a := Lib.hid (hv rfl).small
    clear hv
    have c_b0 : w2.cell? ⟨B + 1, 0, none⟩ = some (.slice o1b n1b f1b) := (K_b.out.below B_b.out K_b.out.lt).cell 0
    have c_b1 : w2.cell? ⟨B + 1, 1, none⟩ = some (.slice o2b n2b f2b) := (K_b.out.below B_b.out K_b.out.lt).cell 1
    have c_b2 : w2.cell? ⟨B + 1, 2, none⟩ = some (.slice o3b n3b f3b) := (K_b.out.below B_b.out K_b.out.lt).cell 2
    have L := Mk.great_any b w2 (R_b.out.later B_b.out) Z_b.out
    rw [E_b.out] at L
    have L := Lib.hid L
    go_wp2_with fail
    refine L.out.mono ?_
    rintro e w3 ⟨⟨v, rfl, hv⟩, hb⟩
    clear c_b0 c_b1 c_b2 L
    have B_a := Lib.hid (B_a.out.trans (hb.mono B_a.out.size))
    have B_b := Lib.hid (B_b.out.trans (hb.mono B_b.out.size))
    have B_c := Lib.hid (B_c.out.trans (hb.mono B_c.out.size))
    have HW := Lib.hid (HW.out.trans (hb.mono HW.out.size))
    clear hb
    cases v with
    | true =>
      clear hv
      go_wp2_with fail
      go_ret
      exact ⟨rfl, HW.out⟩
    | false =>
      have S_b := Lib.hid (hv rfl).small
      clear hv
      have c_c0 : w3.cell? ⟨B + 1 + 1, 0, none⟩ = some (.slice o1c n1c f1c) := (K_c.out.below B_c.out K_c.out.lt).cell 0
      have c_c1 : w3.cell? ⟨B + 1 + 1, 1, none⟩ = some (.slice o2c n2c f2c) := (K_c.out.below B_c.out K_c.out.lt).cell 1
      have c_c2 : w3.cell? ⟨B + 1 + 1, 2, none⟩ = some (.slice o3c n3c f3c) := (K_c.out.below B_c.out K_c.out.lt).cell 2
      have L := Mk.great_any c w3 (R_c.out.later B_c.out) Z_c.out
      rw [E_c.out] at L
      have L := Lib.hid L
      go_wp2_with fail
      refine L.out.mono ?_
      rintro e w4 ⟨⟨v, rfl, hv⟩, hb⟩
      clear c_c0 c_c1 c_c2 L
      have B_a := Lib.hid (B_a.out.trans (hb.mono B_a.out.size))
      have B_b := Lib.hid (B_b.out.trans (hb.mono B_b.out.size))
      have B_c := Lib.hid (B_c.out.trans (hb.mono B_c.out.size))
      have HW := Lib.hid (HW.out.trans (hb.mono HW.out.size))
      clear hb
      cases v with
      | true =>
        clear hv
        go_wp2_with fail
        go_ret
        exact ⟨rfl, HW.out⟩
      | false =>
        have S_c := Lib.hid (hv rfl).small
        clear hv
        have c_a0 : w4.cell? ⟨B, 0, none⟩ = some (.slice o1a n1a f1a) := (K_a.out.below B_a.out K_a.out.lt).cell 0
        have c_a1 : w4.cell? ⟨B, 1, none⟩ = some (.slice o2a n2a f2a) := (K_a.out.below B_a.out K_a.out.lt).cell 1
        have c_a2 : w4.cell? ⟨B, 2, none⟩ = some (.slice o3a n3a f3a) := (K_a.out.below B_a.out K_a.out.lt).cell 2
        have c_b0 : w4.cell? ⟨B + 1, 0, none⟩ = some (.slice o1b n1b f1b) := (K_b.out.below B_b.out K_b.out.lt).cell 0
        have c_b1 : w4.cell? ⟨B + 1, 1, none⟩ = some (.slice o2b n2b f2b) := (K_b.out.below B_b.out K_b.out.lt).cell 1
        have c_b2 : w4.cell? ⟨B + 1, 2, none⟩ = some (.slice o3b n3b f3b) := (K_b.out.below B_b.out K_b.out.lt).cell 2
        have J := join_any a b w4 (R_a.out.later B_a.out) (R_b.out.later B_b.out) S_a.out S_b.out
        rw [E_a.out, E_b.out] at J
        have J := Lib.hid J
        go_wp2_with fail
        refine J.out.mono ?_
        rintro e w5 ⟨m_x, c_x, rfl, hr, hb, hj⟩
        clear c_a0 c_a1 c_a2 c_b0 c_b1 c_b2 J
        have B_a := Lib.hid (B_a.out.trans (hb.mono B_a.out.size))
        have B_b := Lib.hid (B_b.out.trans (hb.mono B_b.out.size))
        have B_c := Lib.hid (B_c.out.trans (hb.mono B_c.out.size))
        have HW := Lib.hid (HW.out.trans (hb.mono HW.out.size))
        have J_x := Lib.hid hj
        have R_x := Lib.hid hr
        obtain ⟨o1x, n1x, f1x, o2x, n2x, f2x, o3x, n3x, f3x, eM⟩ := mk_form hr
        rw [eM]
        have E_x := Lib.hid eM
        clear hr hb hj eM
        obtain ⟨W6, hWW⟩ : ∃ X, X = w5.alloc (.cells #[.slice o1x n1x f1x, .slice o2x n2x f2x, .slice o3x n3x f3x] 26) := ⟨_, rfl⟩
        obtain ⟨Gx, hGG⟩ : ∃ X, X = w5.heap.size := ⟨_, rfl⟩
        have hba : Below w5.heap.size w5 W6 := by rw [hWW]; exact (Below.refl _ _).alloc (Nat.le_refl _) _
        have K_x := Lib.hid (show BlkIs W6 Gx 26 #[.slice o1x n1x f1x, .slice o2x n2x f2x, .slice o3x n3x f3x] by rw [hWW, hGG]; exact BlkIs.new _ _ _)
        have R_x := Lib.hid (show MkR.Reads W6 m_x from R_x.out.later hba)
        have HWW := Lib.hid (And.intro hWW hGG)
        have B_a := Lib.hid (B_a.out.trans (hba.mono B_a.out.size))
        have B_b := Lib.hid (B_b.out.trans (hba.mono B_b.out.size))
        have B_c := Lib.hid (B_c.out.trans (hba.mono B_c.out.size))
        have HW := Lib.hid (HW.out.trans (hba.mono HW.out.size))
        have B_x := Lib.hid (Below.refl W6.heap.size W6)
        clear hWW hGG hba
        go_upto_region 6 with (fail)
        rw [← HWW.out.1, ← HWW.out.2]
        clear HWW
        have c_b0 : W6.cell? ⟨B + 1, 0, none⟩ = some (.slice o1b n1b f1b) := (K_b.out.below B_b.out K_b.out.lt).cell 0
        have c_b1 : W6.cell? ⟨B + 1, 1, none⟩ = some (.slice o2b n2b f2b) := (K_b.out.below B_b.out K_b.out.lt).cell 1
        have c_b2 : W6.cell? ⟨B + 1, 2, none⟩ = some (.slice o3b n3b f3b) := (K_b.out.below B_b.out K_b.out.lt).cell 2
        have c_a0 : W6.cell? ⟨B, 0, none⟩ = some (.slice o1a n1a f1a) := (K_a.out.below B_a.out K_a.out.lt).cell 0
        have c_a1 : W6.cell? ⟨B, 1, none⟩ = some (.slice o2a n2a f2a) := (K_a.out.below B_a.out K_a.out.lt).cell 1
        have c_a2 : W6.cell? ⟨B, 2, none⟩ = some (.slice o3a n3a f3a) := (K_a.out.below B_a.out K_a.out.lt).cell 2
        have J := join_any b a W6 (R_b.out.later B_b.out) (R_a.out.later B_a.out) S_b.out S_a.out
        rw [E_b.out, E_a.out] at J
        have J := Lib.hid J
        go_wp2_with fail
        refine J.out.mono ?_
        rintro e w7 ⟨m_y, c_y, rfl, hr, hb, hj⟩
        clear c_b0 c_b1 c_b2 c_a0 c_a1 c_a2 J
        have B_a := Lib.hid (B_a.out.trans (hb.mono B_a.out.size))
        have B_b := Lib.hid (B_b.out.trans (hb.mono B_b.out.size))
        have B_c := Lib.hid (B_c.out.trans (hb.mono B_c.out.size))
        have B_x := Lib.hid (B_x.out.trans (hb.mono B_x.out.size))
        have HW := Lib.hid (HW.out.trans (hb.mono HW.out.size))
        have J_y := Lib.hid hj
        have R_y := Lib.hid hr
        obtain ⟨o1y, n1y, f1y, o2y, n2y, f2y, o3y, n3y, f3y, eM⟩ := mk_form hr
        rw [eM]
        have E_y := Lib.hid eM
        clear hr hb hj eM
        obtain ⟨W8, hWW⟩ : ∃ X, X = w7.alloc (.cells #[.slice o1y n1y f1y, .slice o2y n2y f2y, .slice o3y n3y f3y] 26) := ⟨_, rfl⟩
        obtain ⟨Gy, hGG⟩ : ∃ X, X = w7.heap.size := ⟨_, rfl⟩
        have hba : Below w7.heap.size w7 W8 := by rw [hWW]; exact (Below.refl _ _).alloc (Nat.le_refl _) _
        have K_y := Lib.hid (show BlkIs W8 Gy 26 #[.slice o1y n1y f1y, .slice o2y n2y f2y, .slice o3y n3y f3y] by rw [hWW, hGG]; exact BlkIs.new _ _ _)
        have R_y := Lib.hid (show MkR.Reads W8 m_y from R_y.out.later hba)
        have HWW := Lib.hid (And.intro hWW hGG)
        have B_a := Lib.hid (B_a.out.trans (hba.mono B_a.out.size))
        have B_b := Lib.hid (B_b.out.trans (hba.mono B_b.out.size))
        have B_c := Lib.hid (B_c.out.trans (hba.mono B_c.out.size))
        have B_x := Lib.hid (B_x.out.trans (hba.mono B_x.out.size))
        have HW := Lib.hid (HW.out.trans (hba.mono HW.out.size))
        have B_y := Lib.hid (Below.refl W8.heap.size W8)
        clear hWW hGG hba
        go_upto_region 7 with (fail)
        rw [← HWW.out.1, ← HWW.out.2]
        clear HWW
        have hxy := jout_unique J_x.out (jout_comm J_y.out)
        have HXY := Lib.hid hxy
        obtain ⟨-, rfl⟩ := hxy
        have S_x := Lib.hid (jout_small J_x.out)
        have S_y := Lib.hid (jout_small J_y.out)
        have c_x0 : W8.cell? ⟨Gx, 0, none⟩ = some (.slice o1x n1x f1x) := (K_x.out.below B_x.out K_x.out.lt).cell 0
        have c_x1 : W8.cell? ⟨Gx, 1, none⟩ = some (.slice o2x n2x f2x) := (K_x.out.below B_x.out K_x.out.lt).cell 1
        have c_x2 : W8.cell? ⟨Gx, 2, none⟩ = some (.slice o3x n3x f3x) := (K_x.out.below B_x.out K_x.out.lt).cell 2
        have c_y0 : W8.cell? ⟨Gy, 0, none⟩ = some (.slice o1y n1y f1y) := (K_y.out.below B_y.out K_y.out.lt).cell 0
        have c_y1 : W8.cell? ⟨Gy, 1, none⟩ = some (.slice o2y n2y f2y) := (K_y.out.below B_y.out K_y.out.lt).cell 1
        have c_y2 : W8.cell? ⟨Gy, 2, none⟩ = some (.slice o3y n3y f3y) := (K_y.out.below B_y.out K_y.out.lt).cell 2
        have L := Mk.same_any' m_x m_y W8 (R_x.out.later B_x.out) (R_y.out.later B_y.out) S_x.out S_y.out
        rw [E_x.out, E_y.out, HXY.out.1, eqB_yes rfl] at L
        have L := Lib.hid L
        go_wp2_with fail
        refine L.out.mono ?_
        rintro e w9 ⟨rfl, hb⟩
        clear c_x0 c_x1 c_x2 c_y0 c_y1 c_y2 L
        have B_a := Lib.hid (B_a.out.trans (hb.mono B_a.out.size))
        have B_b := Lib.hid (B_b.out.trans (hb.mono B_b.out.size))
        have B_c := Lib.hid (B_c.out.trans (hb.mono B_c.out.size))
        have B_x := Lib.hid (B_x.out.trans (hb.mono B_x.out.size))
        have B_y := Lib.hid (B_y.out.trans (hb.mono B_y.out.size))
        have HW := Lib.hid (HW.out.trans (hb.mono HW.out.size))
        clear hb
        have c_b0 : w9.cell? ⟨B + 1, 0, none⟩ = some (.slice o1b n1b f1b) := (K_b.out.below B_b.out K_b.out.lt).cell 0
        have c_b1 : w9.cell? ⟨B + 1, 1, none⟩ = some (.slice o2b n2b f2b) := (K_b.out.below B_b.out K_b.out.lt).cell 1
        have c_b2 : w9.cell? ⟨B + 1, 2, none⟩ = some (.slice o3b n3b f3b) := (K_b.out.below B_b.out K_b.out.lt).cell 2
        have c_c0 : w9.cell? ⟨B + 1 + 1, 0, none⟩ = some (.slice o1c n1c f1c) := (K_c.out.below B_c.out K_c.out.lt).cell 0
        have c_c1 : w9.cell? ⟨B + 1 + 1, 1, none⟩ = some (.slice o2c n2c f2c) := (K_c.out.below B_c.out K_c.out.lt).cell 1
        have c_c2 : w9.cell? ⟨B + 1 + 1, 2, none⟩ = some (.slice o3c n3c f3c) := (K_c.out.below B_c.out K_c.out.lt).cell 2
        have J := join_any b c w9 (R_b.out.later B_b.out) (R_c.out.later B_c.out) S_b.out S_c.out
        rw [E_b.out, E_c.out] at J
        have J := Lib.hid J
        go_wp2_with fail
        refine J.out.mono ?_
        rintro e w10 ⟨m_z, c_z, rfl, hr, hb, hj⟩
        clear c_b0 c_b1 c_b2 c_c0 c_c1 c_c2 J
        have B_a := Lib.hid (B_a.out.trans (hb.mono B_a.out.size))
        have B_b := Lib.hid (B_b.out.trans (hb.mono B_b.out.size))
        have B_c := Lib.hid (B_c.out.trans (hb.mono B_c.out.size))
        have B_x := Lib.hid (B_x.out.trans (hb.mono B_x.out.size))
        have B_y := Lib.hid (B_y.out.trans (hb.mono B_y.out.size))
        have HW := Lib.hid (HW.out.trans (hb.mono HW.out.size))
        have J_z := Lib.hid hj
        have R_z := Lib.hid hr
        obtain ⟨o1z, n1z, f1z, o2z, n2z, f2z, o3z, n3z, f3z, eM⟩ := mk_form hr
        rw [eM]
        have E_z := Lib.hid eM
        clear hr hb hj eM
        obtain ⟨W11, hWW⟩ : ∃ X, X = w10.alloc (.cells #[.slice o1z n1z f1z, .slice o2z n2z f2z, .slice o3z n3z f3z] 26) := ⟨_, rfl⟩
        obtain ⟨Gz, hGG⟩ : ∃ X, X = w10.heap.size := ⟨_, rfl⟩
        have hba : Below w10.heap.size w10 W11 := by rw [hWW]; exact (Below.refl _ _).alloc (Nat.le_refl _) _
        have K_z := Lib.hid (show BlkIs W11 Gz 26 #[.slice o1z n1z f1z, .slice o2z n2z f2z, .slice o3z n3z f3z] by rw [hWW, hGG]; exact BlkIs.new _ _ _)
        have R_z := Lib.hid (show MkR.Reads W11 m_z from R_z.out.later hba)
        have HWW := Lib.hid (And.intro hWW hGG)
        have B_a := Lib.hid (B_a.out.trans (hba.mono B_a.out.size))
        have B_b := Lib.hid (B_b.out.trans (hba.mono B_b.out.size))
        have B_c := Lib.hid (B_c.out.trans (hba.mono B_c.out.size))
        have B_x := Lib.hid (B_x.out.trans (hba.mono B_x.out.size))
        have B_y := Lib.hid (B_y.out.trans (hba.mono B_y.out.size))
        have HW := Lib.hid (HW.out.trans (hba.mono HW.out.size))
        have B_z := Lib.hid (Below.refl W11.heap.size W11)
        clear hWW hGG hba
        go_upto_region 10 with (fail)
        rw [← HWW.out.1, ← HWW.out.2]
        clear HWW
        by_cases he : c_x = 0
        case neg =>
          have he2 : (c_x != 0) = true := by simpa using he
          go_wp2_with fail
          go_ret
          exact ⟨rfl, HW.out⟩
        subst he
        by_cases hg : c_z = 0
        case neg =>
          have hg2 : (c_z != 0) = true := by simpa using hg
          go_wp2_with fail
          go_ret
          exact ⟨rfl, HW.out⟩
        subst hg
        have S_z := Lib.hid (jout_small J_z.out)
        go_upto_region 12 with (fail)
        have c_x0 : W11.cell? ⟨Gx, 0, none⟩ = some (.slice o1x n1x f1x) := (K_x.out.below B_x.out K_x.out.lt).cell 0
        have c_x1 : W11.cell? ⟨Gx, 1, none⟩ = some (.slice o2x n2x f2x) := (K_x.out.below B_x.out K_x.out.lt).cell 1
        have c_x2 : W11.cell? ⟨Gx, 2, none⟩ = some (.slice o3x n3x f3x) := (K_x.out.below B_x.out K_x.out.lt).cell 2
        have c_c0 : W11.cell? ⟨B + 1 + 1, 0, none⟩ = some (.slice o1c n1c f1c) := (K_c.out.below B_c.out K_c.out.lt).cell 0
        have c_c1 : W11.cell? ⟨B + 1 + 1, 1, none⟩ = some (.slice o2c n2c f2c) := (K_c.out.below B_c.out K_c.out.lt).cell 1
        have c_c2 : W11.cell? ⟨B + 1 + 1, 2, none⟩ = some (.slice o3c n3c f3c) := (K_c.out.below B_c.out K_c.out.lt).cell 2
        have J := join_any m_x c W11 (R_x.out.later B_x.out) (R_c.out.later B_c.out) S_x.out S_c.out
        rw [E_x.out, E_c.out] at J
        have J := Lib.hid J
        go_wp2_with fail
        refine J.out.mono ?_
        rintro e w12 ⟨m_p, c_p, rfl, hr, hb, hj⟩
        clear c_x0 c_x1 c_x2 c_c0 c_c1 c_c2 J
        have B_a := Lib.hid (B_a.out.trans (hb.mono B_a.out.size))
        have B_b := Lib.hid (B_b.out.trans (hb.mono B_b.out.size))
        have B_c := Lib.hid (B_c.out.trans (hb.mono B_c.out.size))
        have B_x := Lib.hid (B_x.out.trans (hb.mono B_x.out.size))
        have B_y := Lib.hid (B_y.out.trans (hb.mono B_y.out.size))
        have B_z := Lib.hid (B_z.out.trans (hb.mono B_z.out.size))
        have HW := Lib.hid (HW.out.trans (hb.mono HW.out.size))
        have J_p := Lib.hid hj
        have R_p := Lib.hid hr
        obtain ⟨o1p, n1p, f1p, o2p, n2p, f2p, o3p, n3p, f3p, eM⟩ := mk_form hr
        rw [eM]
        have E_p := Lib.hid eM
        clear hr hb hj eM
        obtain ⟨W13, hWW⟩ : ∃ X, X = w12.alloc (.cells #[.slice o1p n1p f1p, .slice o2p n2p f2p, .slice o3p n3p f3p] 26) := ⟨_, rfl⟩
        obtain ⟨Gp, hGG⟩ : ∃ X, X = w12.heap.size := ⟨_, rfl⟩
        have hba : Below w12.heap.size w12 W13 := by rw [hWW]; exact (Below.refl _ _).alloc (Nat.le_refl _) _
        have K_p := Lib.hid (show BlkIs W13 Gp 26 #[.slice o1p n1p f1p, .slice o2p n2p f2p, .slice o3p n3p f3p] by rw [hWW, hGG]; exact BlkIs.new _ _ _)
        have R_p := Lib.hid (show MkR.Reads W13 m_p from R_p.out.later hba)
        have HWW := Lib.hid (And.intro hWW hGG)
        have B_a := Lib.hid (B_a.out.trans (hba.mono B_a.out.size))
        have B_b := Lib.hid (B_b.out.trans (hba.mono B_b.out.size))
        have B_c := Lib.hid (B_c.out.trans (hba.mono B_c.out.size))
        have B_x := Lib.hid (B_x.out.trans (hba.mono B_x.out.size))
        have B_y := Lib.hid (B_y.out.trans (hba.mono B_y.out.size))
        have B_z := Lib.hid (B_z.out.trans (hba.mono B_z.out.size))
        have HW := Lib.hid (HW.out.trans (hba.mono HW.out.size))
        have B_p := Lib.hid (Below.refl W13.heap.size W13)
        clear hWW hGG hba
        go_upto_region 13 with (fail)
        rw [← HWW.out.1, ← HWW.out.2]
        clear HWW
        have c_a0 : W13.cell? ⟨B, 0, none⟩ = some (.slice o1a n1a f1a) := (K_a.out.below B_a.out K_a.out.lt).cell 0
        have c_a1 : W13.cell? ⟨B, 1, none⟩ = some (.slice o2a n2a f2a) := (K_a.out.below B_a.out K_a.out.lt).cell 1
        have c_a2 : W13.cell? ⟨B, 2, none⟩ = some (.slice o3a n3a f3a) := (K_a.out.below B_a.out K_a.out.lt).cell 2
        have c_z0 : W13.cell? ⟨Gz, 0, none⟩ = some (.slice o1z n1z f1z) := (K_z.out.below B_z.out K_z.out.lt).cell 0
        have c_z1 : W13.cell? ⟨Gz, 1, none⟩ = some (.slice o2z n2z f2z) := (K_z.out.below B_z.out K_z.out.lt).cell 1
        have c_z2 : W13.cell? ⟨Gz, 2, none⟩ = some (.slice o3z n3z f3z) := (K_z.out.below B_z.out K_z.out.lt).cell 2
        have J := join_any a m_z W13 (R_a.out.later B_a.out) (R_z.out.later B_z.out) S_a.out S_z.out
        rw [E_a.out, E_z.out] at J
        have J := Lib.hid J
        go_wp2_with fail
        refine J.out.mono ?_
        rintro e w14 ⟨m_q, c_q, rfl, hr, hb, hj⟩
        clear c_a0 c_a1 c_a2 c_z0 c_z1 c_z2 J
        have B_a := Lib.hid (B_a.out.trans (hb.mono B_a.out.size))
        have B_b := Lib.hid (B_b.out.trans (hb.mono B_b.out.size))
        have B_c := Lib.hid (B_c.out.trans (hb.mono B_c.out.size))
        have B_x := Lib.hid (B_x.out.trans (hb.mono B_x.out.size))
        have B_y := Lib.hid (B_y.out.trans (hb.mono B_y.out.size))
        have B_z := Lib.hid (B_z.out.trans (hb.mono B_z.out.size))
        have B_p := Lib.hid (B_p.out.trans (hb.mono B_p.out.size))
        have HW := Lib.hid (HW.out.trans (hb.mono HW.out.size))
        have J_q := Lib.hid hj
        have R_q := Lib.hid hr
        obtain ⟨o1q, n1q, f1q, o2q, n2q, f2q, o3q, n3q, f3q, eM⟩ := mk_form hr
        rw [eM]
        have E_q := Lib.hid eM
        clear hr hb hj eM
        obtain ⟨W15, hWW⟩ : ∃ X, X = w14.alloc (.cells #[.slice o1q n1q f1q, .slice o2q n2q f2q, .slice o3q n3q f3q] 26) := ⟨_, rfl⟩
        obtain ⟨Gq, hGG⟩ : ∃ X, X = w14.heap.size := ⟨_, rfl⟩
        have hba : Below w14.heap.size w14 W15 := by rw [hWW]; exact (Below.refl _ _).alloc (Nat.le_refl _) _
        have K_q := Lib.hid (show BlkIs W15 Gq 26 #[.slice o1q n1q f1q, .slice o2q n2q f2q, .slice o3q n3q f3q] by rw [hWW, hGG]; exact BlkIs.new _ _ _)
        have R_q := Lib.hid (show MkR.Reads W15 m_q from R_q.out.later hba)
        have HWW := Lib.hid (And.intro hWW hGG)
        have B_a := Lib.hid (B_a.out.trans (hba.mono B_a.out.size))
        have B_b := Lib.hid (B_b.out.trans (hba.mono B_b.out.size))
        have B_c := Lib.hid (B_c.out.trans (hba.mono B_c.out.size))
        have B_x := Lib.hid (B_x.out.trans (hba.mono B_x.out.size))
        have B_y := Lib.hid (B_y.out.trans (hba.mono B_y.out.size))
        have B_z := Lib.hid (B_z.out.trans (hba.mono B_z.out.size))
        have B_p := Lib.hid (B_p.out.trans (hba.mono B_p.out.size))
        have HW := Lib.hid (HW.out.trans (hba.mono HW.out.size))
        have B_q := Lib.hid (Below.refl W15.heap.size W15)
        clear hWW hGG hba
        go_upto_region 14 with (fail)
        rw [← HWW.out.1, ← HWW.out.2]
        clear HWW
        have hpq := jout_unique (jout_assoc J_x.out J_z.out J_p.out) J_q.out
        have HPQ := Lib.hid hpq
        obtain ⟨-, rfl⟩ := hpq
        have S_p := Lib.hid (jout_small J_p.out)
        have S_q := Lib.hid (jout_small J_q.out)
        have c_p0 : W15.cell? ⟨Gp, 0, none⟩ = some (.slice o1p n1p f1p) := (K_p.out.below B_p.out K_p.out.lt).cell 0
        have c_p1 : W15.cell? ⟨Gp, 1, none⟩ = some (.slice o2p n2p f2p) := (K_p.out.below B_p.out K_p.out.lt).cell 1
        have c_p2 : W15.cell? ⟨Gp, 2, none⟩ = some (.slice o3p n3p f3p) := (K_p.out.below B_p.out K_p.out.lt).cell 2
        have c_q0 : W15.cell? ⟨Gq, 0, none⟩ = some (.slice o1q n1q f1q) := (K_q.out.below B_q.out K_q.out.lt).cell 0
        have c_q1 : W15.cell? ⟨Gq, 1, none⟩ = some (.slice o2q n2q f2q) := (K_q.out.below B_q.out K_q.out.lt).cell 1
        have c_q2 : W15.cell? ⟨Gq, 2, none⟩ = some (.slice o3q n3q f3q) := (K_q.out.below B_q.out K_q.out.lt).cell 2
        have L := Mk.same_any' m_p m_q W15 (R_p.out.later B_p.out) (R_q.out.later B_q.out) S_p.out S_q.out
        rw [E_p.out, E_q.out, HPQ.out.1, eqB_yes rfl] at L
        have L := Lib.hid L
        go_wp2_with fail
        refine L.out.mono ?_
        rintro e w16 ⟨rfl, hb⟩
        clear c_p0 c_p1 c_p2 c_q0 c_q1 c_q2 L
        have B_a := Lib.hid (B_a.out.trans (hb.mono B_a.out.size))
        have B_b := Lib.hid (B_b.out.trans (hb.mono B_b.out.size))
        have B_c := Lib.hid (B_c.out.trans (hb.mono B_c.out.size))
        have B_x := Lib.hid (B_x.out.trans (hb.mono B_x.out.size))
        have B_y := Lib.hid (B_y.out.trans (hb.mono B_y.out.size))
        have B_z := Lib.hid (B_z.out.trans (hb.mono B_z.out.size))
        have B_p := Lib.hid (B_p.out.trans (hb.mono B_p.out.size))
        have B_q := Lib.hid (B_q.out.trans (hb.mono B_q.out.size))
        have HW := Lib.hid (HW.out.trans (hb.mono HW.out.size))
        clear hb
        go_wp2_with fail
        go_ret
        exact ⟨rfl, HW.out⟩
end Go.Proofs.YtbmknmjcoeinkaaGreat.Mg
