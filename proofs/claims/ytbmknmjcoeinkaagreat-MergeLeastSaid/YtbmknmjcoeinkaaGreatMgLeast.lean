/- The law MergeLeast, walked: joined is the least that both are below. Printed by gen_mglaws.py. (Layer 13.) -/
import Derived.Test.YtbmknmjcoeinkaaGreatMgLaw2
namespace Go.Proofs.YtbmknmjcoeinkaaGreat.Mg
set_option linter.unusedVariables false
set_option linter.unusedSimpArgs false
open Go.RowKit Go.Lib
open Mk (Rf Tok Tb TbR Mks MkR aMk eqB eqB_yes goodB)
set_option maxRecDepth 100000 in
set_option maxHeartbeats 8000000 in
theorem least_any (a b c : MkR) (w : World) (ha : a.Reads w ∧ a.Sized) (hb : b.Reads w ∧ b.Sized) (hc : c.Reads w ∧ c.Sized) : Calls Tryz.prog 5 #[aMk a, aMk b, aMk c] w fun e w' => e = .returned (.bool true) ∧ Below w.heap.size w w' := by
  obtain ⟨o1a, n1a, f1a, o2a, n2a, f2a, o3a, n3a, f3a, ea⟩ := mk_form ha.1
  obtain ⟨o1b, n1b, f1b, o2b, n2b, f2b, o3b, n3b, f3b, eb⟩ := mk_form hb.1
  obtain ⟨o1c, n1c, f1c, o2c, n2c, f2c, o3c, n3c, f3c, ec⟩ := mk_form hc.1
  obtain ⟨B, hB⟩ : ∃ B, B = w.heap.size := ⟨_, rfl⟩
  obtain ⟨W0, hW0⟩ : ∃ W0, W0 = (((w.alloc (.cells #[.slice o1a n1a f1a, .slice o2a n2a f2a, .slice o3a n3a f3a] 26)).alloc (.cells #[.slice o1b n1b f1b, .slice o2b n2b f2b, .slice o3b n3b f3b] 26)).alloc (.cells #[.slice o1c n1c f1c, .slice o2c n2c f2c, .slice o3c n3c f3c] 26)) := ⟨_, rfl⟩
  have K_a := Lib.hid (show BlkIs W0 (B) 26 #[.slice o1a n1a f1a, .slice o2a n2a f2a, .slice o3a n3a f3a] by rw [hW0, hB]; exact BlkIs.alloc (BlkIs.alloc (blk_newAt (by simp) _ _) _) _)
  have K_b := Lib.hid (show BlkIs W0 (B + 1) 26 #[.slice o1b n1b f1b, .slice o2b n2b f2b, .slice o3b n3b f3b] by rw [hW0, hB]; exact BlkIs.alloc (blk_newAt (by simp) _ _) _)
  have K_c := Lib.hid (show BlkIs W0 (B + 1 + 1) 26 #[.slice o1c n1c f1c, .slice o2c n2c f2c, .slice o3c n3c f3c] by rw [hW0, hB]; exact blk_newAt (by simp) _ _)
  have HW := Lib.hid (show Below w.heap.size w W0 by rw [hW0]; exact (((Below.refl _ _).alloc (Nat.le_refl _) _).alloc (by simp; try omega) _).alloc (by simp; try omega) _)
  have R_a := Lib.hid (ha.1.later HW.out)
  have Z_a := Lib.hid ha.2
  have B_a := Lib.hid (Below.refl W0.heap.size W0)
  have E_a := Lib.hid ea
  have R_b := Lib.hid (hb.1.later HW.out)
  have Z_b := Lib.hid hb.2
  have B_b := Lib.hid (Below.refl W0.heap.size W0)
  have E_b := Lib.hid eb
  have R_c := Lib.hid (hc.1.later HW.out)
  have Z_c := Lib.hid hc.2
  have B_c := Lib.hid (Below.refl W0.heap.size W0)
  have E_c := Lib.hid ec
  rw [ea, eb, ec]
  have H0 := Lib.hid (And.intro hW0 hB)
  clear hW0 hB ea eb ec ha hb hc
  go_enter Tryz.func5, Tryz.ntmps5
  go_upto_region 1 with (fail)
  rw [← H0.out.2, ← H0.out.1]
  clear H0
  have L := Lib.hid (awake_any W0)
  go_wp2_with fail
  refine L.out.mono ?_
  rintro e w1 ⟨rfl, hb⟩
  clear L
  have B_a := Lib.hid (B_a.out.trans (hb.mono B_a.out.size))
  have B_b := Lib.hid (B_b.out.trans (hb.mono B_b.out.size))
  have B_c := Lib.hid (B_c.out.trans (hb.mono B_c.out.size))
  have HW := Lib.hid (HW.out.trans (hb.mono HW.out.size))
  clear hb
  have c_a0 : w1.cell? ⟨B, 0, none⟩ = some (.slice o1a n1a f1a) := (K_a.out.below B_a.out K_a.out.lt).cell 0
  have c_a1 : w1.cell? ⟨B, 1, none⟩ = some (.slice o2a n2a f2a) := (K_a.out.below B_a.out K_a.out.lt).cell 1
  have c_a2 : w1.cell? ⟨B, 2, none⟩ = some (.slice o3a n3a f3a) := (K_a.out.below B_a.out K_a.out.lt).cell 2
  have L := Mk.great_any a w1 (R_a.out.later B_a.out) Z_a.out
  rw [E_a.out] at L
  have L := Lib.hid L
  go_wp2_with fail
  refine L.out.mono ?_
  rintro e w2 ⟨⟨v, rfl, hv⟩, hb⟩
  clear c_a0 c_a1 c_a2 L
  have B_a := Lib.hid (B_a.out.trans (hb.mono B_a.out.size))
  have B_b := Lib.hid (B_b.out.trans (hb.mono B_b.out.size))
  have B_c := Lib.hid (B_c.out.trans (hb.mono B_c.out.size))
  have HW := Lib.hid (HW.out.trans (hb.mono HW.out.size))
  clear hb
  cases v with
  | true =>
    clear hv
    go_wp2_with fail
    go_ret
    exact ⟨rfl, HW.out⟩
  | false =>
    have S_a := Lib.hid (hv rfl).small
    clear hv
    have c_b0 : w2.cell? ⟨B + 1, 0, none⟩ = some (.slice o1b n1b f1b) := (K_b.out.below B_b.out K_b.out.lt).cell 0
    have c_b1 : w2.cell? ⟨B + 1, 1, none⟩ = some (.slice o2b n2b f2b) := (K_b.out.below B_b.out K_b.out.lt).cell 1
    have c_b2 : w2.cell? ⟨B + 1, 2, none⟩ = some (.slice o3b n3b f3b) := (K_b.out.below B_b.out K_b.out.lt).cell 2
    have L := Mk.great_any b w2 (R_b.out.later B_b.out) Z_b.out
    rw [E_b.out] at L
    have L := Lib.hid L
    go_wp2_with fail
    refine L.out.mono ?_
    rintro e w3 ⟨⟨v, rfl, hv⟩, hb⟩
    clear c_b0 c_b1 c_b2 L
    have B_a := Lib.hid (B_a.out.trans (hb.mono B_a.out.size))
    have B_b := Lib.hid (B_b.out.trans (hb.mono B_b.out.size))
    have B_c := Lib.hid (B_c.out.trans (hb.mono B_c.out.size))
    have HW := Lib.hid (HW.out.trans (hb.mono HW.out.size))
    clear hb
    cases v with
    | true =>
      clear hv
      go_wp2_with fail
      go_ret
      exact ⟨rfl, HW.out⟩
    | false =>
      have S_b := Lib.hid (hv rfl).small
      clear hv
      have c_c0 : w3.cell? ⟨B + 1 + 1, 0, none⟩ = some (.slice o1c n1c f1c) := (K_c.out.below B_c.out K_c.out.lt).cell 0
      have c_c1 : w3.cell? ⟨B + 1 + 1, 1, none⟩ = some (.slice o2c n2c f2c) := (K_c.out.below B_c.out K_c.out.lt).cell 1
      have c_c2 : w3.cell? ⟨B + 1 + 1, 2, none⟩ = some (.slice o3c n3c f3c) := (K_c.out.below B_c.out K_c.out.lt).cell 2
      have L := Mk.great_any c w3 (R_c.out.later B_c.out) Z_c.out
      rw [E_c.out] at L
      have L := Lib.hid L
      go_wp2_with fail
      refine L.out.mono ?_
      rintro e w4 ⟨⟨v, rfl, hv⟩, hb⟩
      clear c_c0 c_c1 c_c2 L
      have B_a := Lib.hid (B_a.out.trans (hb.mono B_a.out.size))
      have B_b := Lib.hid (B_b.out.trans (hb.mono B_b.out.size))
      have B_c := Lib.hid (B_c.out.trans (hb.mono B_c.out.size))
      have HW := Lib.hid (HW.out.trans (hb.mono HW.out.size))
      clear hb
      cases v with
      | true =>
        clear hv
        go_wp2_with fail
        go_ret
        exact ⟨rfl, HW.out⟩
      | false =>
        have S_c := Lib.hid (hv rfl).small
        clear hv
        have c_a0 : w4.cell? ⟨B, 0, none⟩ = some (.slice o1a n1a f1a) := (K_a.out.below B_a.out K_a.out.lt).cell 0
        have c_a1 : w4.cell? ⟨B, 1, none⟩ = some (.slice o2a n2a f2a) := (K_a.out.below B_a.out K_a.out.lt).cell 1
        have c_a2 : w4.cell? ⟨B, 2, none⟩ = some (.slice o3a n3a f3a) := (K_a.out.below B_a.out K_a.out.lt).cell 2
        have c_b0 : w4.cell? ⟨B + 1, 0, none⟩ = some (.slice o1b n1b f1b) := (K_b.out.below B_b.out K_b.out.lt).cell 0
        have c_b1 : w4.cell? ⟨B + 1, 1, none⟩ = some (.slice o2b n2b f2b) := (K_b.out.below B_b.out K_b.out.lt).cell 1
        have c_b2 : w4.cell? ⟨B + 1, 2, none⟩ = some (.slice o3b n3b f3b) := (K_b.out.below B_b.out K_b.out.lt).cell 2
        have J := join_any a b w4 (R_a.out.later B_a.out) (R_b.out.later B_b.out) S_a.out S_b.out
        rw [E_a.out, E_b.out] at J
        have J := Lib.hid J
        go_wp2_with fail
        refine J.out.mono ?_
        rintro e w5 ⟨m_m, c_m, rfl, hr, hb, hj⟩
        clear c_a0 c_a1 c_a2 c_b0 c_b1 c_b2 J
        have B_a := Lib.hid (B_a.out.trans (hb.mono B_a.out.size))
        have B_b := Lib.hid (B_b.out.trans (hb.mono B_b.out.size))
        have B_c := Lib.hid (B_c.out.trans (hb.mono B_c.out.size))
        have HW := Lib.hid (HW.out.trans (hb.mono HW.out.size))
        have J_m := Lib.hid hj
        have R_m := Lib.hid hr
        obtain ⟨o1m, n1m, f1m, o2m, n2m, f2m, o3m, n3m, f3m, eM⟩ := mk_form hr
        rw [eM]
        have E_m := Lib.hid eM
        clear hr hb hj eM
        obtain ⟨W6, hWW⟩ : ∃ X, X = w5.alloc (.cells #[.slice o1m n1m f1m, .slice o2m n2m f2m, .slice o3m n3m f3m] 26) := ⟨_, rfl⟩
        obtain ⟨Gm, hGG⟩ : ∃ X, X = w5.heap.size := ⟨_, rfl⟩
        have hba : Below w5.heap.size w5 W6 := by rw [hWW]; exact (Below.refl _ _).alloc (Nat.le_refl _) _
        have K_m := Lib.hid (show BlkIs W6 Gm 26 #[.slice o1m n1m f1m, .slice o2m n2m f2m, .slice o3m n3m f3m] by rw [hWW, hGG]; exact BlkIs.new _ _ _)
        have R_m := Lib.hid (show MkR.Reads W6 m_m from R_m.out.later hba)
        have HWW := Lib.hid (And.intro hWW hGG)
        have B_a := Lib.hid (B_a.out.trans (hba.mono B_a.out.size))
        have B_b := Lib.hid (B_b.out.trans (hba.mono B_b.out.size))
        have B_c := Lib.hid (B_c.out.trans (hba.mono B_c.out.size))
        have HW := Lib.hid (HW.out.trans (hba.mono HW.out.size))
        have B_m := Lib.hid (Below.refl W6.heap.size W6)
        clear hWW hGG hba
        go_upto_region 6 with (fail)
        rw [← HWW.out.1, ← HWW.out.2]
        clear HWW
        have S_m := Lib.hid (jout_small J_m.out)
        by_cases he : c_m = 0
        case neg =>
          have he2 : (c_m != 0) = true := by simpa using he
          have HE := Lib.hid (jout_err J_m.out he)
          have c_m0 : W6.cell? ⟨Gm, 0, none⟩ = some (.slice o1m n1m f1m) := (K_m.out.below B_m.out K_m.out.lt).cell 0
          have c_m1 : W6.cell? ⟨Gm, 1, none⟩ = some (.slice o2m n2m f2m) := (K_m.out.below B_m.out K_m.out.lt).cell 1
          have c_m2 : W6.cell? ⟨Gm, 2, none⟩ = some (.slice o3m n3m f3m) := (K_m.out.below B_m.out K_m.out.lt).cell 2
          have L := Mk.same_any' m_m mk0 W6 (R_m.out.later B_m.out) (mk0_reads _) S_m.out (empty_small mk0_is)
          rw [E_m.out, show aMk mk0 = .agg #[.slice none 0 0, .slice none 0 0, .slice none 0 0] from rfl, HE.out, mk0_is, eqB_yes rfl] at L
          have L := Lib.hid L
          go_wp2_with fail
          refine L.out.mono ?_
          rintro e w7 ⟨rfl, hb⟩
          clear c_m0 c_m1 c_m2 L
          have B_a := Lib.hid (B_a.out.trans (hb.mono B_a.out.size))
          have B_b := Lib.hid (B_b.out.trans (hb.mono B_b.out.size))
          have B_c := Lib.hid (B_c.out.trans (hb.mono B_c.out.size))
          have B_m := Lib.hid (B_m.out.trans (hb.mono B_m.out.size))
          have HW := Lib.hid (HW.out.trans (hb.mono HW.out.size))
          clear hb
          go_wp2_with fail
          go_ret
          exact ⟨rfl, HW.out⟩
        subst he
        have HO := Lib.hid (jout_ok J_m.out)
        have HGM := Lib.hid (jm_good HO.out.1.1 HO.out.1.2 HO.out.2.1 HO.out.2.2)
        go_upto_region 8 with (fail)
        have c_m0 : W6.cell? ⟨Gm, 0, none⟩ = some (.slice o1m n1m f1m) := (K_m.out.below B_m.out K_m.out.lt).cell 0
        have c_m1 : W6.cell? ⟨Gm, 1, none⟩ = some (.slice o2m n2m f2m) := (K_m.out.below B_m.out K_m.out.lt).cell 1
        have c_m2 : W6.cell? ⟨Gm, 2, none⟩ = some (.slice o3m n3m f3m) := (K_m.out.below B_m.out K_m.out.lt).cell 2
        have L := Mk.good_any m_m W6 (R_m.out.later B_m.out) S_m.out.2.2.2
        rw [E_m.out, HGM.out] at L
        have L := Lib.hid L
        go_wp2_with fail
        refine L.out.mono ?_
        rintro e w7 ⟨rfl, hb⟩
        clear c_m0 c_m1 c_m2 L
        have B_a := Lib.hid (B_a.out.trans (hb.mono B_a.out.size))
        have B_b := Lib.hid (B_b.out.trans (hb.mono B_b.out.size))
        have B_c := Lib.hid (B_c.out.trans (hb.mono B_c.out.size))
        have B_m := Lib.hid (B_m.out.trans (hb.mono B_m.out.size))
        have HW := Lib.hid (HW.out.trans (hb.mono HW.out.size))
        clear hb
        have c_a0 : w7.cell? ⟨B, 0, none⟩ = some (.slice o1a n1a f1a) := (K_a.out.below B_a.out K_a.out.lt).cell 0
        have c_a1 : w7.cell? ⟨B, 1, none⟩ = some (.slice o2a n2a f2a) := (K_a.out.below B_a.out K_a.out.lt).cell 1
        have c_a2 : w7.cell? ⟨B, 2, none⟩ = some (.slice o3a n3a f3a) := (K_a.out.below B_a.out K_a.out.lt).cell 2
        have c_m0 : w7.cell? ⟨Gm, 0, none⟩ = some (.slice o1m n1m f1m) := (K_m.out.below B_m.out K_m.out.lt).cell 0
        have c_m1 : w7.cell? ⟨Gm, 1, none⟩ = some (.slice o2m n2m f2m) := (K_m.out.below B_m.out K_m.out.lt).cell 1
        have c_m2 : w7.cell? ⟨Gm, 2, none⟩ = some (.slice o3m n3m f3m) := (K_m.out.below B_m.out K_m.out.lt).cell 2
        have L := below_any a m_m w7 (R_a.out.later B_a.out) (R_m.out.later B_m.out) S_a.out S_m.out
        rw [E_a.out, E_m.out, belowB_iff.2 (jm_left HO.out.1.1 HO.out.2.1)] at L
        have L := Lib.hid L
        go_wp2_with fail
        refine L.out.mono ?_
        rintro e w8 ⟨rfl, hb⟩
        clear c_a0 c_a1 c_a2 c_m0 c_m1 c_m2 L
        have B_a := Lib.hid (B_a.out.trans (hb.mono B_a.out.size))
        have B_b := Lib.hid (B_b.out.trans (hb.mono B_b.out.size))
        have B_c := Lib.hid (B_c.out.trans (hb.mono B_c.out.size))
        have B_m := Lib.hid (B_m.out.trans (hb.mono B_m.out.size))
        have HW := Lib.hid (HW.out.trans (hb.mono HW.out.size))
        clear hb
        have c_b0 : w8.cell? ⟨B + 1, 0, none⟩ = some (.slice o1b n1b f1b) := (K_b.out.below B_b.out K_b.out.lt).cell 0
        have c_b1 : w8.cell? ⟨B + 1, 1, none⟩ = some (.slice o2b n2b f2b) := (K_b.out.below B_b.out K_b.out.lt).cell 1
        have c_b2 : w8.cell? ⟨B + 1, 2, none⟩ = some (.slice o3b n3b f3b) := (K_b.out.below B_b.out K_b.out.lt).cell 2
        have c_m0 : w8.cell? ⟨Gm, 0, none⟩ = some (.slice o1m n1m f1m) := (K_m.out.below B_m.out K_m.out.lt).cell 0
        have c_m1 : w8.cell? ⟨Gm, 1, none⟩ = some (.slice o2m n2m f2m) := (K_m.out.below B_m.out K_m.out.lt).cell 1
        have c_m2 : w8.cell? ⟨Gm, 2, none⟩ = some (.slice o3m n3m f3m) := (K_m.out.below B_m.out K_m.out.lt).cell 2
        have L := below_any b m_m w8 (R_b.out.later B_b.out) (R_m.out.later B_m.out) S_b.out S_m.out
        rw [E_b.out, E_m.out, belowB_iff.2 (jm_right HO.out.1.2 HO.out.2.1)] at L
        have L := Lib.hid L
        go_wp2_with fail
        refine L.out.mono ?_
        rintro e w9 ⟨rfl, hb⟩
        clear c_b0 c_b1 c_b2 c_m0 c_m1 c_m2 L
        have B_a := Lib.hid (B_a.out.trans (hb.mono B_a.out.size))
        have B_b := Lib.hid (B_b.out.trans (hb.mono B_b.out.size))
        have B_c := Lib.hid (B_c.out.trans (hb.mono B_c.out.size))
        have B_m := Lib.hid (B_m.out.trans (hb.mono B_m.out.size))
        have HW := Lib.hid (HW.out.trans (hb.mono HW.out.size))
        clear hb
        go_upto_region 10 with (fail)
        have c_c0 : w9.cell? ⟨B + 1 + 1, 0, none⟩ = some (.slice o1c n1c f1c) := (K_c.out.below B_c.out K_c.out.lt).cell 0
        have c_c1 : w9.cell? ⟨B + 1 + 1, 1, none⟩ = some (.slice o2c n2c f2c) := (K_c.out.below B_c.out K_c.out.lt).cell 1
        have c_c2 : w9.cell? ⟨B + 1 + 1, 2, none⟩ = some (.slice o3c n3c f3c) := (K_c.out.below B_c.out K_c.out.lt).cell 2
        have L := Mk.good_any c w9 (R_c.out.later B_c.out) S_c.out.2.2.2
        rw [E_c.out] at L
        obtain ⟨q, hq⟩ : ∃ q, q = goodB c.mk_ := ⟨_, rfl⟩
        rw [← hq] at L
        have L := Lib.hid L
        have HQ := Lib.hid hq
        clear hq
        go_wp2_with fail
        refine L.out.mono ?_
        rintro e w10 ⟨rfl, hb⟩
        clear c_c0 c_c1 c_c2 L
        have B_a := Lib.hid (B_a.out.trans (hb.mono B_a.out.size))
        have B_b := Lib.hid (B_b.out.trans (hb.mono B_b.out.size))
        have B_c := Lib.hid (B_c.out.trans (hb.mono B_c.out.size))
        have B_m := Lib.hid (B_m.out.trans (hb.mono B_m.out.size))
        have HW := Lib.hid (HW.out.trans (hb.mono HW.out.size))
        clear hb
        cases q with
        | false =>
          go_wp2_with fail
          go_ret
          exact ⟨rfl, HW.out⟩
        | true =>
          have GD_c := Lib.hid HQ.out.symm
          clear HQ
          have c_a0 : w10.cell? ⟨B, 0, none⟩ = some (.slice o1a n1a f1a) := (K_a.out.below B_a.out K_a.out.lt).cell 0
          have c_a1 : w10.cell? ⟨B, 1, none⟩ = some (.slice o2a n2a f2a) := (K_a.out.below B_a.out K_a.out.lt).cell 1
          have c_a2 : w10.cell? ⟨B, 2, none⟩ = some (.slice o3a n3a f3a) := (K_a.out.below B_a.out K_a.out.lt).cell 2
          have c_c0 : w10.cell? ⟨B + 1 + 1, 0, none⟩ = some (.slice o1c n1c f1c) := (K_c.out.below B_c.out K_c.out.lt).cell 0
          have c_c1 : w10.cell? ⟨B + 1 + 1, 1, none⟩ = some (.slice o2c n2c f2c) := (K_c.out.below B_c.out K_c.out.lt).cell 1
          have c_c2 : w10.cell? ⟨B + 1 + 1, 2, none⟩ = some (.slice o3c n3c f3c) := (K_c.out.below B_c.out K_c.out.lt).cell 2
          have L := below_any a c w10 (R_a.out.later B_a.out) (R_c.out.later B_c.out) S_a.out S_c.out
          rw [E_a.out, E_c.out] at L
          obtain ⟨q, hq⟩ : ∃ q, q = belowB a.mk_ c.mk_ := ⟨_, rfl⟩
          rw [← hq] at L
          have L := Lib.hid L
          have HQ := Lib.hid hq
          clear hq
          go_wp2_with fail
          refine L.out.mono ?_
          rintro e w11 ⟨rfl, hb⟩
          clear c_a0 c_a1 c_a2 c_c0 c_c1 c_c2 L
          have B_a := Lib.hid (B_a.out.trans (hb.mono B_a.out.size))
          have B_b := Lib.hid (B_b.out.trans (hb.mono B_b.out.size))
          have B_c := Lib.hid (B_c.out.trans (hb.mono B_c.out.size))
          have B_m := Lib.hid (B_m.out.trans (hb.mono B_m.out.size))
          have HW := Lib.hid (HW.out.trans (hb.mono HW.out.size))
          clear hb
          cases q with
          | false =>
            go_wp2_with fail
            go_ret
            exact ⟨rfl, HW.out⟩
          | true =>
            have LE_ac := Lib.hid (belowB_iff.1 HQ.out.symm)
            clear HQ
            have c_b0 : w11.cell? ⟨B + 1, 0, none⟩ = some (.slice o1b n1b f1b) := (K_b.out.below B_b.out K_b.out.lt).cell 0
            have c_b1 : w11.cell? ⟨B + 1, 1, none⟩ = some (.slice o2b n2b f2b) := (K_b.out.below B_b.out K_b.out.lt).cell 1
            have c_b2 : w11.cell? ⟨B + 1, 2, none⟩ = some (.slice o3b n3b f3b) := (K_b.out.below B_b.out K_b.out.lt).cell 2
            have c_c0 : w11.cell? ⟨B + 1 + 1, 0, none⟩ = some (.slice o1c n1c f1c) := (K_c.out.below B_c.out K_c.out.lt).cell 0
            have c_c1 : w11.cell? ⟨B + 1 + 1, 1, none⟩ = some (.slice o2c n2c f2c) := (K_c.out.below B_c.out K_c.out.lt).cell 1
            have c_c2 : w11.cell? ⟨B + 1 + 1, 2, none⟩ = some (.slice o3c n3c f3c) := (K_c.out.below B_c.out K_c.out.lt).cell 2
            have L := below_any b c w11 (R_b.out.later B_b.out) (R_c.out.later B_c.out) S_b.out S_c.out
            rw [E_b.out, E_c.out] at L
            obtain ⟨q, hq⟩ : ∃ q, q = belowB b.mk_ c.mk_ := ⟨_, rfl⟩
            rw [← hq] at L
            have L := Lib.hid L
            have HQ := Lib.hid hq
            clear hq
            go_wp2_with fail
            refine L.out.mono ?_
            rintro e w12 ⟨rfl, hb⟩
            clear c_b0 c_b1 c_b2 c_c0 c_c1 c_c2 L
            have B_a := Lib.hid (B_a.out.trans (hb.mono B_a.out.size))
            have B_b := Lib.hid (B_b.out.trans (hb.mono B_b.out.size))
            have B_c := Lib.hid (B_c.out.trans (hb.mono B_c.out.size))
            have B_m := Lib.hid (B_m.out.trans (hb.mono B_m.out.size))
            have HW := Lib.hid (HW.out.trans (hb.mono HW.out.size))
            clear hb
            cases q with
            | false =>
              go_wp2_with fail
              go_ret
              exact ⟨rfl, HW.out⟩
            | true =>
              have LE_bc := Lib.hid (belowB_iff.1 HQ.out.symm)
              clear HQ
              have c_m0 : w12.cell? ⟨Gm, 0, none⟩ = some (.slice o1m n1m f1m) := (K_m.out.below B_m.out K_m.out.lt).cell 0
              have c_m1 : w12.cell? ⟨Gm, 1, none⟩ = some (.slice o2m n2m f2m) := (K_m.out.below B_m.out K_m.out.lt).cell 1
              have c_m2 : w12.cell? ⟨Gm, 2, none⟩ = some (.slice o3m n3m f3m) := (K_m.out.below B_m.out K_m.out.lt).cell 2
              have c_c0 : w12.cell? ⟨B + 1 + 1, 0, none⟩ = some (.slice o1c n1c f1c) := (K_c.out.below B_c.out K_c.out.lt).cell 0
              have c_c1 : w12.cell? ⟨B + 1 + 1, 1, none⟩ = some (.slice o2c n2c f2c) := (K_c.out.below B_c.out K_c.out.lt).cell 1
              have c_c2 : w12.cell? ⟨B + 1 + 1, 2, none⟩ = some (.slice o3c n3c f3c) := (K_c.out.below B_c.out K_c.out.lt).cell 2
              have L := below_any m_m c w12 (R_m.out.later B_m.out) (R_c.out.later B_c.out) S_m.out S_c.out
              rw [E_m.out, E_c.out, belowB_iff.2 (jm_least GD_c.out HO.out.2.1 LE_ac.out LE_bc.out)] at L
              have L := Lib.hid L
              go_wp2_with fail
              refine L.out.mono ?_
              rintro e w13 ⟨rfl, hb⟩
              clear c_m0 c_m1 c_m2 c_c0 c_c1 c_c2 L
              have B_a := Lib.hid (B_a.out.trans (hb.mono B_a.out.size))
              have B_b := Lib.hid (B_b.out.trans (hb.mono B_b.out.size))
              have B_c := Lib.hid (B_c.out.trans (hb.mono B_c.out.size))
              have B_m := Lib.hid (B_m.out.trans (hb.mono B_m.out.size))
              have HW := Lib.hid (HW.out.trans (hb.mono HW.out.size))
              clear hb
              go_wp2_with fail
              go_ret
              exact ⟨rfl, HW.out⟩
end Go.Proofs.YtbmknmjcoeinkaaGreat.Mg
