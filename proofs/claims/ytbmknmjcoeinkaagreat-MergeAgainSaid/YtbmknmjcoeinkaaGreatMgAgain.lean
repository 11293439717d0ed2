/- The law MergeAgain, walked: told again nothing changes. Printed by gen_mglaws.py. (Layer 13.) -/
import Derived.Test.YtbmknmjcoeinkaaGreatMgLaw2
namespace Go.Proofs.YtbmknmjcoeinkaaGreat.Mg
set_option linter.unusedVariables false
set_option linter.unusedSimpArgs false
open Go.RowKit Go.Lib
open Mk (Rf Tok Tb TbR Mks MkR aMk eqB eqB_yes goodB)
theorem node_in (node : Int) : 1 ≤ wrap64 (1 + wrap64 ((IntKind.u64.wrap node).tmod 7)) ∧ wrap64 (1 + wrap64 ((IntKind.u64.wrap node).tmod 7)) ≤ 7 := by
  have h : 0 ≤ IntKind.u64.wrap node := by
    show 0 ≤ node % _
    exact Int.emod_nonneg _ (by decide)
  rw [Int.tmod_eq_emod_of_nonneg h]
  unfold wrap64
  omega
set_option maxRecDepth 100000 in
set_option maxHeartbeats 8000000 in
theorem again_any (a b : MkR) (node : Int) (w : World) (ha : a.Reads w ∧ a.Sized) (hb : b.Reads w ∧ b.Sized) : Calls Tryz.prog 7 #[aMk a, aMk b, .int .i64 node] w fun e w' => e = .returned (.bool true) ∧ Below w.heap.size w w' := by
  obtain ⟨o1a, n1a, f1a, o2a, n2a, f2a, o3a, n3a, f3a, ea⟩ := mk_form ha.1
  obtain ⟨o1b, n1b, f1b, o2b, n2b, f2b, o3b, n3b, f3b, eb⟩ := mk_form hb.1
  obtain ⟨B, hB⟩ : ∃ B, B = w.heap.size := ⟨_, rfl⟩
  obtain ⟨W0, hW0⟩ : ∃ W0, W0 = ((w.alloc (.cells #[.slice o1a n1a f1a, .slice o2a n2a f2a, .slice o3a n3a f3a] 26)).alloc (.cells #[.slice o1b n1b f1b, .slice o2b n2b f2b, .slice o3b n3b f3b] 26)) := ⟨_, rfl⟩
  have K_a := Lib.hid (show BlkIs W0 (B) 26 #[.slice o1a n1a f1a, .slice o2a n2a f2a, .slice o3a n3a f3a] by rw [hW0, hB]; exact BlkIs.alloc (blk_newAt (by simp) _ _) _)
  have K_b := Lib.hid (show BlkIs W0 (B + 1) 26 #[.slice o1b n1b f1b, .slice o2b n2b f2b, .slice o3b n3b f3b] by rw [hW0, hB]; exact blk_newAt (by simp) _ _)
  have HW := Lib.hid (show Below w.heap.size w W0 by rw [hW0]; exact ((Below.refl _ _).alloc (Nat.le_refl _) _).alloc (by simp; try omega) _)
  have R_a := Lib.hid (ha.1.later HW.out)
  have Z_a := Lib.hid ha.2
  have B_a := Lib.hid (Below.refl W0.heap.size W0)
  have E_a := Lib.hid ea
  have R_b := Lib.hid (hb.1.later HW.out)
  have Z_b := Lib.hid hb.2
  have B_b := Lib.hid (Below.refl W0.heap.size W0)
  have E_b := Lib.hid eb
  rw [ea, eb]
  have H0 := Lib.hid (And.intro hW0 hB)
  clear hW0 hB ea eb ha hb
  go_enter Tryz.func7, Tryz.ntmps7
  go_upto_region 1 with (fail)
  rw [← H0.out.2, ← H0.out.1]
  clear H0
  have L := Lib.hid (awake_any W0)
  go_wp2_with fail
  refine L.out.mono ?_
  rintro e w1 ⟨rfl, hb⟩
  clear L
  have B_a := Lib.hid (B_a.out.trans (hb.mono B_a.out.size))
  have B_b := Lib.hid (B_b.out.trans (hb.mono B_b.out.size))
  have HW := Lib.hid (HW.out.trans (hb.mono HW.out.size))
  clear hb
  have c_a0 : w1.cell? ⟨B, 0, none⟩ = some (.slice o1a n1a f1a) := (K_a.out.below B_a.out K_a.out.lt).cell 0
  have c_a1 : w1.cell? ⟨B, 1, none⟩ = some (.slice o2a n2a f2a) := (K_a.out.below B_a.out K_a.out.lt).cell 1
  have c_a2 : w1.cell? ⟨B, 2, none⟩ = some (.slice o3a n3a f3a) := (K_a.out.below B_a.out K_a.out.lt).cell 2
  have L := Mk.great_any a w1 (R_a.out.later B_a.out) Z_a.out
  rw [E_a.out] at L
  have L := Lib.hid L
  go_wp2_with fail
  refine L.out.mono ?_
  rintro e w2 ⟨⟨v, rfl, hv⟩, hb⟩
  clear c_a0 c_a1 c_a2 L
  have B_a := Lib.hid (B_a.out.trans (hb.mono B_a.out.size))
  have B_b := Lib.hid (B_b.out.trans (hb.mono B_b.out.size))
  have HW := Lib.hid (HW.out.trans (hb.mono HW.out.size))
  clear hb
  cases v with
  | true =>
    clear hv
    go_wp2_with fail
    go_ret
    exact ⟨rfl, HW.out⟩
  | false =>
    have S_a := Lib.hid (hv rfl).small
    clear hv
    have c_b0 : w2.cell? ⟨B + 1, 0, none⟩ = some (.slice o1b n1b f1b) := (K_b.out.below B_b.out K_b.out.lt).cell 0
    have c_b1 : w2.cell? ⟨B + 1, 1, none⟩ = some (.slice o2b n2b f2b) := (K_b.out.below B_b.out K_b.out.lt).cell 1
    have c_b2 : w2.cell? ⟨B + 1, 2, none⟩ = some (.slice o3b n3b f3b) := (K_b.out.below B_b.out K_b.out.lt).cell 2
    have L := Mk.great_any b w2 (R_b.out.later B_b.out) Z_b.out
    rw [E_b.out] at L
    have L := Lib.hid L
    go_wp2_with fail
    refine L.out.mono ?_
    rintro e w3 ⟨⟨v, rfl, hv⟩, hb⟩
    clear c_b0 c_b1 c_b2 L
    have B_a := Lib.hid (B_a.out.trans (hb.mono B_a.out.size))
    have B_b := Lib.hid (B_b.out.trans (hb.mono B_b.out.size))
    have HW := Lib.hid (HW.out.trans (hb.mono HW.out.size))
    clear hb
    cases v with
    | true =>
      clear hv
      go_wp2_with fail
      go_ret
      exact ⟨rfl, HW.out⟩
    | false =>
      have S_b := Lib.hid (hv rfl).small
      clear hv
      have c_a0 : w3.cell? ⟨B, 0, none⟩ = some (.slice o1a n1a f1a) := (K_a.out.below B_a.out K_a.out.lt).cell 0
      have c_a1 : w3.cell? ⟨B, 1, none⟩ = some (.slice o2a n2a f2a) := (K_a.out.below B_a.out K_a.out.lt).cell 1
      have c_a2 : w3.cell? ⟨B, 2, none⟩ = some (.slice o3a n3a f3a) := (K_a.out.below B_a.out K_a.out.lt).cell 2
      have L := Mk.good_any a w3 (R_a.out.later B_a.out) S_a.out.2.2.2
      rw [E_a.out] at L
      obtain ⟨q, hq⟩ : ∃ q, q = goodB a.mk_ := ⟨_, rfl⟩
      rw [← hq] at L
      have L := Lib.hid L
      have HQ := Lib.hid hq
      clear hq
      go_wp2_with fail
      refine L.out.mono ?_
      rintro e w4 ⟨rfl, hb⟩
      clear c_a0 c_a1 c_a2 L
      have B_a := Lib.hid (B_a.out.trans (hb.mono B_a.out.size))
      have B_b := Lib.hid (B_b.out.trans (hb.mono B_b.out.size))
      have HW := Lib.hid (HW.out.trans (hb.mono HW.out.size))
      clear hb
      cases q with
      | false =>
        go_wp2_with fail
        go_ret
        exact ⟨rfl, HW.out⟩
      | true =>
        have GD_a := Lib.hid HQ.out.symm
        clear HQ
        have c_b0 : w4.cell? ⟨B + 1, 0, none⟩ = some (.slice o1b n1b f1b) := (K_b.out.below B_b.out K_b.out.lt).cell 0
        have c_b1 : w4.cell? ⟨B + 1, 1, none⟩ = some (.slice o2b n2b f2b) := (K_b.out.below B_b.out K_b.out.lt).cell 1
        have c_b2 : w4.cell? ⟨B + 1, 2, none⟩ = some (.slice o3b n3b f3b) := (K_b.out.below B_b.out K_b.out.lt).cell 2
        have L := Mk.good_any b w4 (R_b.out.later B_b.out) S_b.out.2.2.2
        rw [E_b.out] at L
        obtain ⟨q, hq⟩ : ∃ q, q = goodB b.mk_ := ⟨_, rfl⟩
        rw [← hq] at L
        have L := Lib.hid L
        have HQ := Lib.hid hq
        clear hq
        go_wp2_with fail
        refine L.out.mono ?_
        rintro e w5 ⟨rfl, hb⟩
        clear c_b0 c_b1 c_b2 L
        have B_a := Lib.hid (B_a.out.trans (hb.mono B_a.out.size))
        have B_b := Lib.hid (B_b.out.trans (hb.mono B_b.out.size))
        have HW := Lib.hid (HW.out.trans (hb.mono HW.out.size))
        clear hb
        cases q with
        | false =>
          go_wp2_with fail
          go_ret
          exact ⟨rfl, HW.out⟩
        | true =>
          have GD_b := Lib.hid HQ.out.symm
          clear HQ
          have c_a0 : w5.cell? ⟨B, 0, none⟩ = some (.slice o1a n1a f1a) := (K_a.out.below B_a.out K_a.out.lt).cell 0
          have c_a1 : w5.cell? ⟨B, 1, none⟩ = some (.slice o2a n2a f2a) := (K_a.out.below B_a.out K_a.out.lt).cell 1
          have c_a2 : w5.cell? ⟨B, 2, none⟩ = some (.slice o3a n3a f3a) := (K_a.out.below B_a.out K_a.out.lt).cell 2
          have J := join_any a a w5 (R_a.out.later B_a.out) (R_a.out.later B_a.out) S_a.out S_a.out
          rw [E_a.out] at J
          have J := Lib.hid J
          go_wp2_with fail
          refine J.out.mono ?_
          rintro e w6 ⟨m_x, c_x, rfl, hr, hb, hj⟩
          clear c_a0 c_a1 c_a2 J
          have B_a := Lib.hid (B_a.out.trans (hb.mono B_a.out.size))
          have B_b := Lib.hid (B_b.out.trans (hb.mono B_b.out.size))
          have HW := Lib.hid (HW.out.trans (hb.mono HW.out.size))
          have J_x := Lib.hid hj
          have R_x := Lib.hid hr
          obtain ⟨o1x, n1x, f1x, o2x, n2x, f2x, o3x, n3x, f3x, eM⟩ := mk_form hr
          rw [eM]
          have E_x := Lib.hid eM
          clear hr hb hj eM
          obtain ⟨W7, hWW⟩ : ∃ X, X = w6.alloc (.cells #[.slice o1x n1x f1x, .slice o2x n2x f2x, .slice o3x n3x f3x] 26) := ⟨_, rfl⟩
          obtain ⟨Gx, hGG⟩ : ∃ X, X = w6.heap.size := ⟨_, rfl⟩
          have hba : Below w6.heap.size w6 W7 := by rw [hWW]; exact (Below.refl _ _).alloc (Nat.le_refl _) _
          have K_x := Lib.hid (show BlkIs W7 Gx 26 #[.slice o1x n1x f1x, .slice o2x n2x f2x, .slice o3x n3x f3x] by rw [hWW, hGG]; exact BlkIs.new _ _ _)
          have R_x := Lib.hid (show MkR.Reads W7 m_x from R_x.out.later hba)
          have HWW := Lib.hid (And.intro hWW hGG)
          have B_a := Lib.hid (B_a.out.trans (hba.mono B_a.out.size))
          have B_b := Lib.hid (B_b.out.trans (hba.mono B_b.out.size))
          have HW := Lib.hid (HW.out.trans (hba.mono HW.out.size))
          have B_x := Lib.hid (Below.refl W7.heap.size W7)
          clear hWW hGG hba
          go_upto_region 6 with (fail)
          rw [← HWW.out.1, ← HWW.out.2]
          clear HWW
          have hx := jout_unique J_x.out (jout_le GD_a.out GD_a.out (leM_refl _))
          have HX := Lib.hid hx
          obtain ⟨-, rfl⟩ := hx
          have S_x := Lib.hid (jout_small J_x.out)
          have c_x0 : W7.cell? ⟨Gx, 0, none⟩ = some (.slice o1x n1x f1x) := (K_x.out.below B_x.out K_x.out.lt).cell 0
          have c_x1 : W7.cell? ⟨Gx, 1, none⟩ = some (.slice o2x n2x f2x) := (K_x.out.below B_x.out K_x.out.lt).cell 1
          have c_x2 : W7.cell? ⟨Gx, 2, none⟩ = some (.slice o3x n3x f3x) := (K_x.out.below B_x.out K_x.out.lt).cell 2
          have c_a0 : W7.cell? ⟨B, 0, none⟩ = some (.slice o1a n1a f1a) := (K_a.out.below B_a.out K_a.out.lt).cell 0
          have c_a1 : W7.cell? ⟨B, 1, none⟩ = some (.slice o2a n2a f2a) := (K_a.out.below B_a.out K_a.out.lt).cell 1
          have c_a2 : W7.cell? ⟨B, 2, none⟩ = some (.slice o3a n3a f3a) := (K_a.out.below B_a.out K_a.out.lt).cell 2
          have L := Mk.same_any' m_x a W7 (R_x.out.later B_x.out) (R_a.out.later B_a.out) S_x.out S_a.out
          rw [E_x.out, E_a.out, HX.out.1, eqB_yes rfl] at L
          have L := Lib.hid L
          go_wp2_with fail
          refine L.out.mono ?_
          rintro e w8 ⟨rfl, hb⟩
          clear c_x0 c_x1 c_x2 c_a0 c_a1 c_a2 L
          have B_a := Lib.hid (B_a.out.trans (hb.mono B_a.out.size))
          have B_b := Lib.hid (B_b.out.trans (hb.mono B_b.out.size))
          have B_x := Lib.hid (B_x.out.trans (hb.mono B_x.out.size))
          have HW := Lib.hid (HW.out.trans (hb.mono HW.out.size))
          clear hb
          have c_a0 : w8.cell? ⟨B, 0, none⟩ = some (.slice o1a n1a f1a) := (K_a.out.below B_a.out K_a.out.lt).cell 0
          have c_a1 : w8.cell? ⟨B, 1, none⟩ = some (.slice o2a n2a f2a) := (K_a.out.below B_a.out K_a.out.lt).cell 1
          have c_a2 : w8.cell? ⟨B, 2, none⟩ = some (.slice o3a n3a f3a) := (K_a.out.below B_a.out K_a.out.lt).cell 2
          have L := below_any a a w8 (R_a.out.later B_a.out) (R_a.out.later B_a.out) S_a.out S_a.out
          rw [E_a.out, belowB_iff.2 (leM_refl _)] at L
          have L := Lib.hid L
          go_wp2_with fail
          refine L.out.mono ?_
          rintro e w9 ⟨rfl, hb⟩
          clear c_a0 c_a1 c_a2 L
          have B_a := Lib.hid (B_a.out.trans (hb.mono B_a.out.size))
          have B_b := Lib.hid (B_b.out.trans (hb.mono B_b.out.size))
          have B_x := Lib.hid (B_x.out.trans (hb.mono B_x.out.size))
          have HW := Lib.hid (HW.out.trans (hb.mono HW.out.size))
          clear hb
          have c_a0 : w9.cell? ⟨B, 0, none⟩ = some (.slice o1a n1a f1a) := (K_a.out.below B_a.out K_a.out.lt).cell 0
          have c_a1 : w9.cell? ⟨B, 1, none⟩ = some (.slice o2a n2a f2a) := (K_a.out.below B_a.out K_a.out.lt).cell 1
          have c_a2 : w9.cell? ⟨B, 2, none⟩ = some (.slice o3a n3a f3a) := (K_a.out.below B_a.out K_a.out.lt).cell 2
          have L := below_any mk0 a w9 (mk0_reads _) (R_a.out.later B_a.out) (empty_small mk0_is) S_a.out
          rw [E_a.out, show aMk mk0 = .agg #[.slice none 0 0, .slice none 0 0, .slice none 0 0] from rfl, mk0_is, belowB_iff.2 (empty_le _)] at L
          have L := Lib.hid L
          go_wp2_with fail
          refine L.out.mono ?_
          rintro e w10 ⟨rfl, hb⟩
          clear c_a0 c_a1 c_a2 L
          have B_a := Lib.hid (B_a.out.trans (hb.mono B_a.out.size))
          have B_b := Lib.hid (B_b.out.trans (hb.mono B_b.out.size))
          have B_x := Lib.hid (B_x.out.trans (hb.mono B_x.out.size))
          have HW := Lib.hid (HW.out.trans (hb.mono HW.out.size))
          clear hb
          go_upto_region 8 with (fail)
          have c_a0 : w10.cell? ⟨B, 0, none⟩ = some (.slice o1a n1a f1a) := (K_a.out.below B_a.out K_a.out.lt).cell 0
          have c_a1 : w10.cell? ⟨B, 1, none⟩ = some (.slice o2a n2a f2a) := (K_a.out.below B_a.out K_a.out.lt).cell 1
          have c_a2 : w10.cell? ⟨B, 2, none⟩ = some (.slice o3a n3a f3a) := (K_a.out.below B_a.out K_a.out.lt).cell 2
          have c_b0 : w10.cell? ⟨B + 1, 0, none⟩ = some (.slice o1b n1b f1b) := (K_b.out.below B_b.out K_b.out.lt).cell 0
          have c_b1 : w10.cell? ⟨B + 1, 1, none⟩ = some (.slice o2b n2b f2b) := (K_b.out.below B_b.out K_b.out.lt).cell 1
          have c_b2 : w10.cell? ⟨B + 1, 2, none⟩ = some (.slice o3b n3b f3b) := (K_b.out.below B_b.out K_b.out.lt).cell 2
          have L := below_any a b w10 (R_a.out.later B_a.out) (R_b.out.later B_b.out) S_a.out S_b.out
          rw [E_a.out, E_b.out] at L
          obtain ⟨q, hq⟩ : ∃ q, q = belowB a.mk_ b.mk_ := ⟨_, rfl⟩
          rw [← hq] at L
          have L := Lib.hid L
          have HQ := Lib.hid hq
          clear hq
          go_wp2_with fail
          refine L.out.mono ?_
          rintro e w11 ⟨rfl, hb⟩
          clear c_a0 c_a1 c_a2 c_b0 c_b1 c_b2 L
          have B_a := Lib.hid (B_a.out.trans (hb.mono B_a.out.size))
          have B_b := Lib.hid (B_b.out.trans (hb.mono B_b.out.size))
          have B_x := Lib.hid (B_x.out.trans (hb.mono B_x.out.size))
          have HW := Lib.hid (HW.out.trans (hb.mono HW.out.size))
          clear hb
          cases q with
          | false =>
            go_upto_region 12 with (fail)
            have c_a0 : w11.cell? ⟨B, 0, none⟩ = some (.slice o1a n1a f1a) := (K_a.out.below B_a.out K_a.out.lt).cell 0
            have c_a1 : w11.cell? ⟨B, 1, none⟩ = some (.slice o2a n2a f2a) := (K_a.out.below B_a.out K_a.out.lt).cell 1
            have c_a2 : w11.cell? ⟨B, 2, none⟩ = some (.slice o3a n3a f3a) := (K_a.out.below B_a.out K_a.out.lt).cell 2
            have c_b0 : w11.cell? ⟨B + 1, 0, none⟩ = some (.slice o1b n1b f1b) := (K_b.out.below B_b.out K_b.out.lt).cell 0
            have c_b1 : w11.cell? ⟨B + 1, 1, none⟩ = some (.slice o2b n2b f2b) := (K_b.out.below B_b.out K_b.out.lt).cell 1
            have c_b2 : w11.cell? ⟨B + 1, 2, none⟩ = some (.slice o3b n3b f3b) := (K_b.out.below B_b.out K_b.out.lt).cell 2
            have J := join_any a b w11 (R_a.out.later B_a.out) (R_b.out.later B_b.out) S_a.out S_b.out
            rw [E_a.out, E_b.out] at J
            have J := Lib.hid J
            go_wp2_with fail
            refine J.out.mono ?_
            rintro e w12 ⟨m_u, c_u, rfl, hr, hb, hj⟩
            clear c_a0 c_a1 c_a2 c_b0 c_b1 c_b2 J
            have B_a := Lib.hid (B_a.out.trans (hb.mono B_a.out.size))
            have B_b := Lib.hid (B_b.out.trans (hb.mono B_b.out.size))
            have B_x := Lib.hid (B_x.out.trans (hb.mono B_x.out.size))
            have HW := Lib.hid (HW.out.trans (hb.mono HW.out.size))
            have J_u := Lib.hid hj
            have R_u := Lib.hid hr
            obtain ⟨o1u, n1u, f1u, o2u, n2u, f2u, o3u, n3u, f3u, eM⟩ := mk_form hr
            rw [eM]
            have E_u := Lib.hid eM
            clear hr hb hj eM
            obtain ⟨W13, hWW⟩ : ∃ X, X = w12.alloc (.cells #[.slice o1u n1u f1u, .slice o2u n2u f2u, .slice o3u n3u f3u] 26) := ⟨_, rfl⟩
            obtain ⟨Gu, hGG⟩ : ∃ X, X = w12.heap.size := ⟨_, rfl⟩
            have hba : Below w12.heap.size w12 W13 := by rw [hWW]; exact (Below.refl _ _).alloc (Nat.le_refl _) _
            have K_u := Lib.hid (show BlkIs W13 Gu 26 #[.slice o1u n1u f1u, .slice o2u n2u f2u, .slice o3u n3u f3u] by rw [hWW, hGG]; exact BlkIs.new _ _ _)
            have R_u := Lib.hid (show MkR.Reads W13 m_u from R_u.out.later hba)
            have HWW := Lib.hid (And.intro hWW hGG)
            have B_a := Lib.hid (B_a.out.trans (hba.mono B_a.out.size))
            have B_b := Lib.hid (B_b.out.trans (hba.mono B_b.out.size))
            have B_x := Lib.hid (B_x.out.trans (hba.mono B_x.out.size))
            have HW := Lib.hid (HW.out.trans (hba.mono HW.out.size))
            have B_u := Lib.hid (Below.refl W13.heap.size W13)
            clear hWW hGG hba
            go_upto_region 13 with (fail)
            rw [← HWW.out.1, ← HWW.out.2]
            clear HWW
            have S_u := Lib.hid (jout_small J_u.out)
            by_cases he : c_u = 0
            case neg =>
              have he2 : (c_u == 0) = false := by simpa using he
              obtain ⟨nd, hnd⟩ : ∃ nd : Int, nd = wrap64 (1 + wrap64 ((IntKind.u64.wrap node).tmod 7)) := ⟨_, rfl⟩
              have HND := Lib.hid (show 1 ≤ nd ∧ nd ≤ 7 from by rw [hnd]; exact node_in node)
              go_upto_region 18 with (fail)
              rw [← hnd]
              clear hnd
              have c_a0 : W13.cell? ⟨B, 0, none⟩ = some (.slice o1a n1a f1a) := (K_a.out.below B_a.out K_a.out.lt).cell 0
              have c_a1 : W13.cell? ⟨B, 1, none⟩ = some (.slice o2a n2a f2a) := (K_a.out.below B_a.out K_a.out.lt).cell 1
              have c_a2 : W13.cell? ⟨B, 2, none⟩ = some (.slice o3a n3a f3a) := (K_a.out.below B_a.out K_a.out.lt).cell 2
              have J := ack_any a nd W13 (R_a.out.later B_a.out) S_a.out
              rw [E_a.out] at J
              have J := Lib.hid J
              go_wp2_with fail
              refine J.out.mono ?_
              rintro e w14 ⟨m_p, c_p, rfl, hr, hb, hj⟩
              clear c_a0 c_a1 c_a2 J
              have B_a := Lib.hid (B_a.out.trans (hb.mono B_a.out.size))
              have B_b := Lib.hid (B_b.out.trans (hb.mono B_b.out.size))
              have B_x := Lib.hid (B_x.out.trans (hb.mono B_x.out.size))
              have B_u := Lib.hid (B_u.out.trans (hb.mono B_u.out.size))
              have HW := Lib.hid (HW.out.trans (hb.mono HW.out.size))
              have J_p := Lib.hid hj
              have R_p := Lib.hid hr
              obtain ⟨o1p, n1p, f1p, o2p, n2p, f2p, o3p, n3p, f3p, eM⟩ := mk_form hr
              rw [eM]
              have E_p := Lib.hid eM
              clear hr hb hj eM
              obtain ⟨W15, hWW⟩ : ∃ X, X = w14.alloc (.cells #[.slice o1p n1p f1p, .slice o2p n2p f2p, .slice o3p n3p f3p] 26) := ⟨_, rfl⟩
              obtain ⟨Gp, hGG⟩ : ∃ X, X = w14.heap.size := ⟨_, rfl⟩
              have hba : Below w14.heap.size w14 W15 := by rw [hWW]; exact (Below.refl _ _).alloc (Nat.le_refl _) _
              have K_p := Lib.hid (show BlkIs W15 Gp 26 #[.slice o1p n1p f1p, .slice o2p n2p f2p, .slice o3p n3p f3p] by rw [hWW, hGG]; exact BlkIs.new _ _ _)
              have R_p := Lib.hid (show MkR.Reads W15 m_p from R_p.out.later hba)
              have HWW := Lib.hid (And.intro hWW hGG)
              have B_a := Lib.hid (B_a.out.trans (hba.mono B_a.out.size))
              have B_b := Lib.hid (B_b.out.trans (hba.mono B_b.out.size))
              have B_x := Lib.hid (B_x.out.trans (hba.mono B_x.out.size))
              have B_u := Lib.hid (B_u.out.trans (hba.mono B_u.out.size))
              have HW := Lib.hid (HW.out.trans (hba.mono HW.out.size))
              have B_p := Lib.hid (Below.refl W15.heap.size W15)
              clear hWW hGG hba
              go_upto_region 19 with (fail)
              rw [← HWW.out.1, ← HWW.out.2]
              clear HWW
              have hp := aout_ok J_p.out GD_a.out HND.out
              have HP := Lib.hid hp
              obtain ⟨-, rfl⟩ := hp
              have HGP := Lib.hid (show goodB m_p.mk_ = true from by rw [HP.out.1]; exact ack_good GD_a.out HND.out)
              have S_p := Lib.hid (good_small' HGP.out)
              have c_p0 : W15.cell? ⟨Gp, 0, none⟩ = some (.slice o1p n1p f1p) := (K_p.out.below B_p.out K_p.out.lt).cell 0
              have c_p1 : W15.cell? ⟨Gp, 1, none⟩ = some (.slice o2p n2p f2p) := (K_p.out.below B_p.out K_p.out.lt).cell 1
              have c_p2 : W15.cell? ⟨Gp, 2, none⟩ = some (.slice o3p n3p f3p) := (K_p.out.below B_p.out K_p.out.lt).cell 2
              have J := ack_any m_p nd W15 (R_p.out.later B_p.out) S_p.out
              rw [E_p.out] at J
              have J := Lib.hid J
              go_wp2_with fail
              refine J.out.mono ?_
              rintro e w16 ⟨m_q, c_q, rfl, hr, hb, hj⟩
              clear c_p0 c_p1 c_p2 J
              have B_a := Lib.hid (B_a.out.trans (hb.mono B_a.out.size))
              have B_b := Lib.hid (B_b.out.trans (hb.mono B_b.out.size))
              have B_x := Lib.hid (B_x.out.trans (hb.mono B_x.out.size))
              have B_u := Lib.hid (B_u.out.trans (hb.mono B_u.out.size))
              have B_p := Lib.hid (B_p.out.trans (hb.mono B_p.out.size))
              have HW := Lib.hid (HW.out.trans (hb.mono HW.out.size))
              have J_q := Lib.hid hj
              have R_q := Lib.hid hr
              obtain ⟨o1q, n1q, f1q, o2q, n2q, f2q, o3q, n3q, f3q, eM⟩ := mk_form hr
              rw [eM]
              have E_q := Lib.hid eM
              clear hr hb hj eM
              obtain ⟨W17, hWW⟩ : ∃ X, X = w16.alloc (.cells #[.slice o1q n1q f1q, .slice o2q n2q f2q, .slice o3q n3q f3q] 26) := ⟨_, rfl⟩
              obtain ⟨Gq, hGG⟩ : ∃ X, X = w16.heap.size := ⟨_, rfl⟩
              have hba : Below w16.heap.size w16 W17 := by rw [hWW]; exact (Below.refl _ _).alloc (Nat.le_refl _) _
              have K_q := Lib.hid (show BlkIs W17 Gq 26 #[.slice o1q n1q f1q, .slice o2q n2q f2q, .slice o3q n3q f3q] by rw [hWW, hGG]; exact BlkIs.new _ _ _)
              have R_q := Lib.hid (show MkR.Reads W17 m_q from R_q.out.later hba)
              have HWW := Lib.hid (And.intro hWW hGG)
              have B_a := Lib.hid (B_a.out.trans (hba.mono B_a.out.size))
              have B_b := Lib.hid (B_b.out.trans (hba.mono B_b.out.size))
              have B_x := Lib.hid (B_x.out.trans (hba.mono B_x.out.size))
              have B_u := Lib.hid (B_u.out.trans (hba.mono B_u.out.size))
              have B_p := Lib.hid (B_p.out.trans (hba.mono B_p.out.size))
              have HW := Lib.hid (HW.out.trans (hba.mono HW.out.size))
              have B_q := Lib.hid (Below.refl W17.heap.size W17)
              clear hWW hGG hba
              go_upto_region 20 with (fail)
              rw [← HWW.out.1, ← HWW.out.2]
              clear HWW
              have hq := aout_ok J_q.out HGP.out HND.out
              have HQ := Lib.hid (show m_q.mk_ = m_p.mk_ from by rw [hq.1, HP.out.1, ack_again])
              obtain ⟨-, rfl⟩ := hq
              have S_q := Lib.hid (good_small' (show goodB m_q.mk_ = true from by rw [HQ.out]; exact HGP.out))
              have c_p0 : W17.cell? ⟨Gp, 0, none⟩ = some (.slice o1p n1p f1p) := (K_p.out.below B_p.out K_p.out.lt).cell 0
              have c_p1 : W17.cell? ⟨Gp, 1, none⟩ = some (.slice o2p n2p f2p) := (K_p.out.below B_p.out K_p.out.lt).cell 1
              have c_p2 : W17.cell? ⟨Gp, 2, none⟩ = some (.slice o3p n3p f3p) := (K_p.out.below B_p.out K_p.out.lt).cell 2
              have c_q0 : W17.cell? ⟨Gq, 0, none⟩ = some (.slice o1q n1q f1q) := (K_q.out.below B_q.out K_q.out.lt).cell 0
              have c_q1 : W17.cell? ⟨Gq, 1, none⟩ = some (.slice o2q n2q f2q) := (K_q.out.below B_q.out K_q.out.lt).cell 1
              have c_q2 : W17.cell? ⟨Gq, 2, none⟩ = some (.slice o3q n3q f3q) := (K_q.out.below B_q.out K_q.out.lt).cell 2
              have L := Mk.same_any' m_p m_q W17 (R_p.out.later B_p.out) (R_q.out.later B_q.out) S_p.out S_q.out
              rw [E_p.out, E_q.out, HQ.out, eqB_yes rfl] at L
              have L := Lib.hid L
              go_wp2_with fail
              refine L.out.mono ?_
              rintro e w18 ⟨rfl, hb⟩
              clear c_p0 c_p1 c_p2 c_q0 c_q1 c_q2 L
              have B_a := Lib.hid (B_a.out.trans (hb.mono B_a.out.size))
              have B_b := Lib.hid (B_b.out.trans (hb.mono B_b.out.size))
              have B_x := Lib.hid (B_x.out.trans (hb.mono B_x.out.size))
              have B_u := Lib.hid (B_u.out.trans (hb.mono B_u.out.size))
              have B_p := Lib.hid (B_p.out.trans (hb.mono B_p.out.size))
              have B_q := Lib.hid (B_q.out.trans (hb.mono B_q.out.size))
              have HW := Lib.hid (HW.out.trans (hb.mono HW.out.size))
              clear hb
              have c_a0 : w18.cell? ⟨B, 0, none⟩ = some (.slice o1a n1a f1a) := (K_a.out.below B_a.out K_a.out.lt).cell 0
              have c_a1 : w18.cell? ⟨B, 1, none⟩ = some (.slice o2a n2a f2a) := (K_a.out.below B_a.out K_a.out.lt).cell 1
              have c_a2 : w18.cell? ⟨B, 2, none⟩ = some (.slice o3a n3a f3a) := (K_a.out.below B_a.out K_a.out.lt).cell 2
              have c_p0 : w18.cell? ⟨Gp, 0, none⟩ = some (.slice o1p n1p f1p) := (K_p.out.below B_p.out K_p.out.lt).cell 0
              have c_p1 : w18.cell? ⟨Gp, 1, none⟩ = some (.slice o2p n2p f2p) := (K_p.out.below B_p.out K_p.out.lt).cell 1
              have c_p2 : w18.cell? ⟨Gp, 2, none⟩ = some (.slice o3p n3p f3p) := (K_p.out.below B_p.out K_p.out.lt).cell 2
              have L := below_any a m_p w18 (R_a.out.later B_a.out) (R_p.out.later B_p.out) S_a.out S_p.out
              rw [E_a.out, E_p.out, show belowB a.mk_ m_p.mk_ = true from by rw [HP.out.1]; exact belowB_iff.2 (ack_le _ _)] at L
              have L := Lib.hid L
              go_wp2_with fail
              refine L.out.mono ?_
              rintro e w19 ⟨rfl, hb⟩
              clear c_a0 c_a1 c_a2 c_p0 c_p1 c_p2 L
              have B_a := Lib.hid (B_a.out.trans (hb.mono B_a.out.size))
              have B_b := Lib.hid (B_b.out.trans (hb.mono B_b.out.size))
              have B_x := Lib.hid (B_x.out.trans (hb.mono B_x.out.size))
              have B_u := Lib.hid (B_u.out.trans (hb.mono B_u.out.size))
              have B_p := Lib.hid (B_p.out.trans (hb.mono B_p.out.size))
              have B_q := Lib.hid (B_q.out.trans (hb.mono B_q.out.size))
              have HW := Lib.hid (HW.out.trans (hb.mono HW.out.size))
              clear hb
              have c_p0 : w19.cell? ⟨Gp, 0, none⟩ = some (.slice o1p n1p f1p) := (K_p.out.below B_p.out K_p.out.lt).cell 0
              have c_p1 : w19.cell? ⟨Gp, 1, none⟩ = some (.slice o2p n2p f2p) := (K_p.out.below B_p.out K_p.out.lt).cell 1
              have c_p2 : w19.cell? ⟨Gp, 2, none⟩ = some (.slice o3p n3p f3p) := (K_p.out.below B_p.out K_p.out.lt).cell 2
              have L := Mk.good_any m_p w19 (R_p.out.later B_p.out) S_p.out.2.2.2
              rw [E_p.out, HGP.out] at L
              have L := Lib.hid L
              go_wp2_with fail
              refine L.out.mono ?_
              rintro e w20 ⟨rfl, hb⟩
              clear c_p0 c_p1 c_p2 L
              have B_a := Lib.hid (B_a.out.trans (hb.mono B_a.out.size))
              have B_b := Lib.hid (B_b.out.trans (hb.mono B_b.out.size))
              have B_x := Lib.hid (B_x.out.trans (hb.mono B_x.out.size))
              have B_u := Lib.hid (B_u.out.trans (hb.mono B_u.out.size))
              have B_p := Lib.hid (B_p.out.trans (hb.mono B_p.out.size))
              have B_q := Lib.hid (B_q.out.trans (hb.mono B_q.out.size))
              have HW := Lib.hid (HW.out.trans (hb.mono HW.out.size))
              clear hb
              go_wp2_with fail
              go_ret
              exact ⟨rfl, HW.out⟩
            subst he
            have HO := Lib.hid (jout_ok J_u.out)
            have HGU := Lib.hid (jm_good HO.out.1.1 HO.out.1.2 HO.out.2.1 HO.out.2.2)
            go_upto_region 14 with (fail)
            have c_u0 : W13.cell? ⟨Gu, 0, none⟩ = some (.slice o1u n1u f1u) := (K_u.out.below B_u.out K_u.out.lt).cell 0
            have c_u1 : W13.cell? ⟨Gu, 1, none⟩ = some (.slice o2u n2u f2u) := (K_u.out.below B_u.out K_u.out.lt).cell 1
            have c_u2 : W13.cell? ⟨Gu, 2, none⟩ = some (.slice o3u n3u f3u) := (K_u.out.below B_u.out K_u.out.lt).cell 2
            have c_b0 : W13.cell? ⟨B + 1, 0, none⟩ = some (.slice o1b n1b f1b) := (K_b.out.below B_b.out K_b.out.lt).cell 0
            have c_b1 : W13.cell? ⟨B + 1, 1, none⟩ = some (.slice o2b n2b f2b) := (K_b.out.below B_b.out K_b.out.lt).cell 1
            have c_b2 : W13.cell? ⟨B + 1, 2, none⟩ = some (.slice o3b n3b f3b) := (K_b.out.below B_b.out K_b.out.lt).cell 2
            have J := join_any m_u b W13 (R_u.out.later B_u.out) (R_b.out.later B_b.out) S_u.out S_b.out
            rw [E_u.out, E_b.out] at J
            have J := Lib.hid J
            go_wp2_with fail
            refine J.out.mono ?_
            rintro e w14 ⟨m_v, c_v, rfl, hr, hb, hj⟩
            clear c_u0 c_u1 c_u2 c_b0 c_b1 c_b2 J
            have B_a := Lib.hid (B_a.out.trans (hb.mono B_a.out.size))
            have B_b := Lib.hid (B_b.out.trans (hb.mono B_b.out.size))
            have B_x := Lib.hid (B_x.out.trans (hb.mono B_x.out.size))
            have B_u := Lib.hid (B_u.out.trans (hb.mono B_u.out.size))
            have HW := Lib.hid (HW.out.trans (hb.mono HW.out.size))
            have J_v := Lib.hid hj
            have R_v := Lib.hid hr
            obtain ⟨o1v, n1v, f1v, o2v, n2v, f2v, o3v, n3v, f3v, eM⟩ := mk_form hr
            rw [eM]
            have E_v := Lib.hid eM
            clear hr hb hj eM
            obtain ⟨W15, hWW⟩ : ∃ X, X = w14.alloc (.cells #[.slice o1v n1v f1v, .slice o2v n2v f2v, .slice o3v n3v f3v] 26) := ⟨_, rfl⟩
            obtain ⟨Gv, hGG⟩ : ∃ X, X = w14.heap.size := ⟨_, rfl⟩
            have hba : Below w14.heap.size w14 W15 := by rw [hWW]; exact (Below.refl _ _).alloc (Nat.le_refl _) _
            have K_v := Lib.hid (show BlkIs W15 Gv 26 #[.slice o1v n1v f1v, .slice o2v n2v f2v, .slice o3v n3v f3v] by rw [hWW, hGG]; exact BlkIs.new _ _ _)
            have R_v := Lib.hid (show MkR.Reads W15 m_v from R_v.out.later hba)
            have HWW := Lib.hid (And.intro hWW hGG)
            have B_a := Lib.hid (B_a.out.trans (hba.mono B_a.out.size))
            have B_b := Lib.hid (B_b.out.trans (hba.mono B_b.out.size))
            have B_x := Lib.hid (B_x.out.trans (hba.mono B_x.out.size))
            have B_u := Lib.hid (B_u.out.trans (hba.mono B_u.out.size))
            have HW := Lib.hid (HW.out.trans (hba.mono HW.out.size))
            have B_v := Lib.hid (Below.refl W15.heap.size W15)
            clear hWW hGG hba
            go_upto_region 15 with (fail)
            rw [← HWW.out.1, ← HWW.out.2]
            clear HWW
            have hv := jout_unique J_v.out (jout_comm (jout_le GD_b.out HGU.out (jm_right GD_b.out HO.out.2.1)))
            have HV := Lib.hid hv
            obtain ⟨-, rfl⟩ := hv
            have S_v := Lib.hid (jout_small J_v.out)
            have c_v0 : W15.cell? ⟨Gv, 0, none⟩ = some (.slice o1v n1v f1v) := (K_v.out.below B_v.out K_v.out.lt).cell 0
            have c_v1 : W15.cell? ⟨Gv, 1, none⟩ = some (.slice o2v n2v f2v) := (K_v.out.below B_v.out K_v.out.lt).cell 1
            have c_v2 : W15.cell? ⟨Gv, 2, none⟩ = some (.slice o3v n3v f3v) := (K_v.out.below B_v.out K_v.out.lt).cell 2
            have c_u0 : W15.cell? ⟨Gu, 0, none⟩ = some (.slice o1u n1u f1u) := (K_u.out.below B_u.out K_u.out.lt).cell 0
            have c_u1 : W15.cell? ⟨Gu, 1, none⟩ = some (.slice o2u n2u f2u) := (K_u.out.below B_u.out K_u.out.lt).cell 1
            have c_u2 : W15.cell? ⟨Gu, 2, none⟩ = some (.slice o3u n3u f3u) := (K_u.out.below B_u.out K_u.out.lt).cell 2
            have L := Mk.same_any' m_v m_u W15 (R_v.out.later B_v.out) (R_u.out.later B_u.out) S_v.out S_u.out
            rw [E_v.out, E_u.out, HV.out.1, eqB_yes rfl] at L
            have L := Lib.hid L
            go_wp2_with fail
            refine L.out.mono ?_
            rintro e w16 ⟨rfl, hb⟩
            clear c_v0 c_v1 c_v2 c_u0 c_u1 c_u2 L
            have B_a := Lib.hid (B_a.out.trans (hb.mono B_a.out.size))
            have B_b := Lib.hid (B_b.out.trans (hb.mono B_b.out.size))
            have B_x := Lib.hid (B_x.out.trans (hb.mono B_x.out.size))
            have B_u := Lib.hid (B_u.out.trans (hb.mono B_u.out.size))
            have B_v := Lib.hid (B_v.out.trans (hb.mono B_v.out.size))
            have HW := Lib.hid (HW.out.trans (hb.mono HW.out.size))
            clear hb
            obtain ⟨nd, hnd⟩ : ∃ nd : Int, nd = wrap64 (1 + wrap64 ((IntKind.u64.wrap node).tmod 7)) := ⟨_, rfl⟩
            have HND := Lib.hid (show 1 ≤ nd ∧ nd ≤ 7 from by rw [hnd]; exact node_in node)
            go_upto_region 18 with (fail)
            rw [← hnd]
            clear hnd
            have c_a0 : w16.cell? ⟨B, 0, none⟩ = some (.slice o1a n1a f1a) := (K_a.out.below B_a.out K_a.out.lt).cell 0
            have c_a1 : w16.cell? ⟨B, 1, none⟩ = some (.slice o2a n2a f2a) := (K_a.out.below B_a.out K_a.out.lt).cell 1
            have c_a2 : w16.cell? ⟨B, 2, none⟩ = some (.slice o3a n3a f3a) := (K_a.out.below B_a.out K_a.out.lt).cell 2
            have J := ack_any a nd w16 (R_a.out.later B_a.out) S_a.out
            rw [E_a.out] at J
            have J := Lib.hid J
            go_wp2_with fail
            refine J.out.mono ?_
            rintro e w17 ⟨m_p, c_p, rfl, hr, hb, hj⟩
            clear c_a0 c_a1 c_a2 J
            have B_a := Lib.hid (B_a.out.trans (hb.mono B_a.out.size))
            have B_b := Lib.hid (B_b.out.trans (hb.mono B_b.out.size))
            have B_x := Lib.hid (B_x.out.trans (hb.mono B_x.out.size))
            have B_u := Lib.hid (B_u.out.trans (hb.mono B_u.out.size))
            have B_v := Lib.hid (B_v.out.trans (hb.mono B_v.out.size))
            have HW := Lib.hid (HW.out.trans (hb.mono HW.out.size))
            have J_p := Lib.hid hj
            have R_p := Lib.hid hr
            obtain ⟨o1p, n1p, f1p, o2p, n2p, f2p, o3p, n3p, f3p, eM⟩ := mk_form hr
            rw [eM]
            have E_p := Lib.hid eM
            clear hr hb hj eM
            obtain ⟨W18, hWW⟩ : ∃ X, X = w17.alloc (.cells #[.slice o1p n1p f1p, .slice o2p n2p f2p, .slice o3p n3p f3p] 26) := ⟨_, rfl⟩
            obtain ⟨Gp, hGG⟩ : ∃ X, X = w17.heap.size := ⟨_, rfl⟩
            have hba : Below w17.heap.size w17 W18 := by rw [hWW]; exact (Below.refl _ _).alloc (Nat.le_refl _) _
            have K_p := Lib.hid (show BlkIs W18 Gp 26 #[.slice o1p n1p f1p, .slice o2p n2p f2p, .slice o3p n3p f3p] by rw [hWW, hGG]; exact BlkIs.new _ _ _)
            have R_p := Lib.hid (show MkR.Reads W18 m_p from R_p.out.later hba)
            have HWW := Lib.hid (And.intro hWW hGG)
            have B_a := Lib.hid (B_a.out.trans (hba.mono B_a.out.size))
            have B_b := Lib.hid (B_b.out.trans (hba.mono B_b.out.size))
            have B_x := Lib.hid (B_x.out.trans (hba.mono B_x.out.size))
            have B_u := Lib.hid (B_u.out.trans (hba.mono B_u.out.size))
            have B_v := Lib.hid (B_v.out.trans (hba.mono B_v.out.size))
            have HW := Lib.hid (HW.out.trans (hba.mono HW.out.size))
            have B_p := Lib.hid (Below.refl W18.heap.size W18)
            clear hWW hGG hba
            go_upto_region 19 with (fail)
            rw [← HWW.out.1, ← HWW.out.2]
            clear HWW
            have hp := aout_ok J_p.out GD_a.out HND.out
            have HP := Lib.hid hp
            obtain ⟨-, rfl⟩ := hp
            have HGP := Lib.hid (show goodB m_p.mk_ = true from by rw [HP.out.1]; exact ack_good GD_a.out HND.out)
            have S_p := Lib.hid (good_small' HGP.out)
            have c_p0 : W18.cell? ⟨Gp, 0, none⟩ = some (.slice o1p n1p f1p) := (K_p.out.below B_p.out K_p.out.lt).cell 0
            have c_p1 : W18.cell? ⟨Gp, 1, none⟩ = some (.slice o2p n2p f2p) := (K_p.out.below B_p.out K_p.out.lt).cell 1
            have c_p2 : W18.cell? ⟨Gp, 2, none⟩ = some (.slice o3p n3p f3p) := (K_p.out.below B_p.out K_p.out.lt).cell 2
            have J := ack_any m_p nd W18 (R_p.out.later B_p.out) S_p.out
            rw [E_p.out] at J
            have J := Lib.hid J
            go_wp2_with fail
            refine J.out.mono ?_
            rintro e w19 ⟨m_q, c_q, rfl, hr, hb, hj⟩
            clear c_p0 c_p1 c_p2 J
            have B_a := Lib.hid (B_a.out.trans (hb.mono B_a.out.size))
            have B_b := Lib.hid (B_b.out.trans (hb.mono B_b.out.size))
            have B_x := Lib.hid (B_x.out.trans (hb.mono B_x.out.size))
            have B_u := Lib.hid (B_u.out.trans (hb.mono B_u.out.size))
            have B_v := Lib.hid (B_v.out.trans (hb.mono B_v.out.size))
            have B_p := Lib.hid (B_p.out.trans (hb.mono B_p.out.size))
            have HW := Lib.hid (HW.out.trans (hb.mono HW.out.size))
            have J_q := Lib.hid hj
            have R_q := Lib.hid hr
            obtain ⟨o1q, n1q, f1q, o2q, n2q, f2q, o3q, n3q, f3q, eM⟩ := mk_form hr
            rw [eM]
            have E_q := Lib.hid eM
            clear hr hb hj eM
            obtain ⟨W20, hWW⟩ : ∃ X, X = w19.alloc (.cells #[.slice o1q n1q f1q, .slice o2q n2q f2q, .slice o3q n3q f3q] 26) := ⟨_, rfl⟩
            obtain ⟨Gq, hGG⟩ : ∃ X, X = w19.heap.size := ⟨_, rfl⟩
            have hba : Below w19.heap.size w19 W20 := by rw [hWW]; exact (Below.refl _ _).alloc (Nat.le_refl _) _
            have K_q := Lib.hid (show BlkIs W20 Gq 26 #[.slice o1q n1q f1q, .slice o2q n2q f2q, .slice o3q n3q f3q] by rw [hWW, hGG]; exact BlkIs.new _ _ _)
            have R_q := Lib.hid (show MkR.Reads W20 m_q from R_q.out.later hba)
            have HWW := Lib.hid (And.intro hWW hGG)
            have B_a := Lib.hid (B_a.out.trans (hba.mono B_a.out.size))
            have B_b := Lib.hid (B_b.out.trans (hba.mono B_b.out.size))
            have B_x := Lib.hid (B_x.out.trans (hba.mono B_x.out.size))
            have B_u := Lib.hid (B_u.out.trans (hba.mono B_u.out.size))
            have B_v := Lib.hid (B_v.out.trans (hba.mono B_v.out.size))
            have B_p := Lib.hid (B_p.out.trans (hba.mono B_p.out.size))
            have HW := Lib.hid (HW.out.trans (hba.mono HW.out.size))
            have B_q := Lib.hid (Below.refl W20.heap.size W20)
            clear hWW hGG hba
            go_upto_region 20 with (fail)
            rw [← HWW.out.1, ← HWW.out.2]
            clear HWW
            have hq := aout_ok J_q.out HGP.out HND.out
            have HQ := Lib.hid (show m_q.mk_ = m_p.mk_ from by rw [hq.1, HP.out.1, ack_again])
            obtain ⟨-, rfl⟩ := hq
            have S_q := Lib.hid (good_small' (show goodB m_q.mk_ = true from by rw [HQ.out]; exact HGP.out))
            have c_p0 : W20.cell? ⟨Gp, 0, none⟩ = some (.slice o1p n1p f1p) := (K_p.out.below B_p.out K_p.out.lt).cell 0
            have c_p1 : W20.cell? ⟨Gp, 1, none⟩ = some (.slice o2p n2p f2p) := (K_p.out.below B_p.out K_p.out.lt).cell 1
            have c_p2 : W20.cell? ⟨Gp, 2, none⟩ = some (.slice o3p n3p f3p) := (K_p.out.below B_p.out K_p.out.lt).cell 2
            have c_q0 : W20.cell? ⟨Gq, 0, none⟩ = some (.slice o1q n1q f1q) := (K_q.out.below B_q.out K_q.out.lt).cell 0
            have c_q1 : W20.cell? ⟨Gq, 1, none⟩ = some (.slice o2q n2q f2q) := (K_q.out.below B_q.out K_q.out.lt).cell 1
            have c_q2 : W20.cell? ⟨Gq, 2, none⟩ = some (.slice o3q n3q f3q) := (K_q.out.below B_q.out K_q.out.lt).cell 2
            have L := Mk.same_any' m_p m_q W20 (R_p.out.later B_p.out) (R_q.out.later B_q.out) S_p.out S_q.out
            rw [E_p.out, E_q.out, HQ.out, eqB_yes rfl] at L
            have L := Lib.hid L
            go_wp2_with fail
            refine L.out.mono ?_
            rintro e w21 ⟨rfl, hb⟩
            clear c_p0 c_p1 c_p2 c_q0 c_q1 c_q2 L
            have B_a := Lib.hid (B_a.out.trans (hb.mono B_a.out.size))
            have B_b := Lib.hid (B_b.out.trans (hb.mono B_b.out.size))
            have B_x := Lib.hid (B_x.out.trans (hb.mono B_x.out.size))
            have B_u := Lib.hid (B_u.out.trans (hb.mono B_u.out.size))
            have B_v := Lib.hid (B_v.out.trans (hb.mono B_v.out.size))
            have B_p := Lib.hid (B_p.out.trans (hb.mono B_p.out.size))
            have B_q := Lib.hid (B_q.out.trans (hb.mono B_q.out.size))
            have HW := Lib.hid (HW.out.trans (hb.mono HW.out.size))
            clear hb
            have c_a0 : w21.cell? ⟨B, 0, none⟩ = some (.slice o1a n1a f1a) := (K_a.out.below B_a.out K_a.out.lt).cell 0
            have c_a1 : w21.cell? ⟨B, 1, none⟩ = some (.slice o2a n2a f2a) := (K_a.out.below B_a.out K_a.out.lt).cell 1
            have c_a2 : w21.cell? ⟨B, 2, none⟩ = some (.slice o3a n3a f3a) := (K_a.out.below B_a.out K_a.out.lt).cell 2
            have c_p0 : w21.cell? ⟨Gp, 0, none⟩ = some (.slice o1p n1p f1p) := (K_p.out.below B_p.out K_p.out.lt).cell 0
            have c_p1 : w21.cell? ⟨Gp, 1, none⟩ = some (.slice o2p n2p f2p) := (K_p.out.below B_p.out K_p.out.lt).cell 1
            have c_p2 : w21.cell? ⟨Gp, 2, none⟩ = some (.slice o3p n3p f3p) := (K_p.out.below B_p.out K_p.out.lt).cell 2
            have L := below_any a m_p w21 (R_a.out.later B_a.out) (R_p.out.later B_p.out) S_a.out S_p.out
            rw [E_a.out, E_p.out, show belowB a.mk_ m_p.mk_ = true from by rw [HP.out.1]; exact belowB_iff.2 (ack_le _ _)] at L
            have L := Lib.hid L
            go_wp2_with fail
            refine L.out.mono ?_
            rintro e w22 ⟨rfl, hb⟩
            clear c_a0 c_a1 c_a2 c_p0 c_p1 c_p2 L
            have B_a := Lib.hid (B_a.out.trans (hb.mono B_a.out.size))
            have B_b := Lib.hid (B_b.out.trans (hb.mono B_b.out.size))
            have B_x := Lib.hid (B_x.out.trans (hb.mono B_x.out.size))
            have B_u := Lib.hid (B_u.out.trans (hb.mono B_u.out.size))
            have B_v := Lib.hid (B_v.out.trans (hb.mono B_v.out.size))
            have B_p := Lib.hid (B_p.out.trans (hb.mono B_p.out.size))
            have B_q := Lib.hid (B_q.out.trans (hb.mono B_q.out.size))
            have HW := Lib.hid (HW.out.trans (hb.mono HW.out.size))
            clear hb
            have c_p0 : w22.cell? ⟨Gp, 0, none⟩ = some (.slice o1p n1p f1p) := (K_p.out.below B_p.out K_p.out.lt).cell 0
            have c_p1 : w22.cell? ⟨Gp, 1, none⟩ = some (.slice o2p n2p f2p) := (K_p.out.below B_p.out K_p.out.lt).cell 1
            have c_p2 : w22.cell? ⟨Gp, 2, none⟩ = some (.slice o3p n3p f3p) := (K_p.out.below B_p.out K_p.out.lt).cell 2
            have L := Mk.good_any m_p w22 (R_p.out.later B_p.out) S_p.out.2.2.2
            rw [E_p.out, HGP.out] at L
            have L := Lib.hid L
            go_wp2_with fail
            refine L.out.mono ?_
            rintro e w23 ⟨rfl, hb⟩
            clear c_p0 c_p1 c_p2 L
            have B_a := Lib.hid (B_a.out.trans (hb.mono B_a.out.size))
            have B_b := Lib.hid (B_b.out.trans (hb.mono B_b.out.size))
            have B_x := Lib.hid (B_x.out.trans (hb.mono B_x.out.size))
            have B_u := Lib.hid (B_u.out.trans (hb.mono B_u.out.size))
            have B_v := Lib.hid (B_v.out.trans (hb.mono B_v.out.size))
            have B_p := Lib.hid (B_p.out.trans (hb.mono B_p.out.size))
            have B_q := Lib.hid (B_q.out.trans (hb.mono B_q.out.size))
            have HW := Lib.hid (HW.out.trans (hb.mono HW.out.size))
            clear hb
            go_wp2_with fail
            go_ret
            exact ⟨rfl, HW.out⟩
          | true =>
            have LE_ab := Lib.hid (belowB_iff.1 HQ.out.symm)
            clear HQ
            go_upto_region 9 with (fail)
            have c_a0 : w11.cell? ⟨B, 0, none⟩ = some (.slice o1a n1a f1a) := (K_a.out.below B_a.out K_a.out.lt).cell 0
            have c_a1 : w11.cell? ⟨B, 1, none⟩ = some (.slice o2a n2a f2a) := (K_a.out.below B_a.out K_a.out.lt).cell 1
            have c_a2 : w11.cell? ⟨B, 2, none⟩ = some (.slice o3a n3a f3a) := (K_a.out.below B_a.out K_a.out.lt).cell 2
            have c_b0 : w11.cell? ⟨B + 1, 0, none⟩ = some (.slice o1b n1b f1b) := (K_b.out.below B_b.out K_b.out.lt).cell 0
            have c_b1 : w11.cell? ⟨B + 1, 1, none⟩ = some (.slice o2b n2b f2b) := (K_b.out.below B_b.out K_b.out.lt).cell 1
            have c_b2 : w11.cell? ⟨B + 1, 2, none⟩ = some (.slice o3b n3b f3b) := (K_b.out.below B_b.out K_b.out.lt).cell 2
            have J := join_any a b w11 (R_a.out.later B_a.out) (R_b.out.later B_b.out) S_a.out S_b.out
            rw [E_a.out, E_b.out] at J
            have J := Lib.hid J
            go_wp2_with fail
            refine J.out.mono ?_
            rintro e w12 ⟨m_y, c_y, rfl, hr, hb, hj⟩
            clear c_a0 c_a1 c_a2 c_b0 c_b1 c_b2 J
            have B_a := Lib.hid (B_a.out.trans (hb.mono B_a.out.size))
            have B_b := Lib.hid (B_b.out.trans (hb.mono B_b.out.size))
            have B_x := Lib.hid (B_x.out.trans (hb.mono B_x.out.size))
            have HW := Lib.hid (HW.out.trans (hb.mono HW.out.size))
            have J_y := Lib.hid hj
            have R_y := Lib.hid hr
            obtain ⟨o1y, n1y, f1y, o2y, n2y, f2y, o3y, n3y, f3y, eM⟩ := mk_form hr
            rw [eM]
            have E_y := Lib.hid eM
            clear hr hb hj eM
            obtain ⟨W13, hWW⟩ : ∃ X, X = w12.alloc (.cells #[.slice o1y n1y f1y, .slice o2y n2y f2y, .slice o3y n3y f3y] 26) := ⟨_, rfl⟩
            obtain ⟨Gy, hGG⟩ : ∃ X, X = w12.heap.size := ⟨_, rfl⟩
            have hba : Below w12.heap.size w12 W13 := by rw [hWW]; exact (Below.refl _ _).alloc (Nat.le_refl _) _
            have K_y := Lib.hid (show BlkIs W13 Gy 26 #[.slice o1y n1y f1y, .slice o2y n2y f2y, .slice o3y n3y f3y] by rw [hWW, hGG]; exact BlkIs.new _ _ _)
            have R_y := Lib.hid (show MkR.Reads W13 m_y from R_y.out.later hba)
            have HWW := Lib.hid (And.intro hWW hGG)
            have B_a := Lib.hid (B_a.out.trans (hba.mono B_a.out.size))
            have B_b := Lib.hid (B_b.out.trans (hba.mono B_b.out.size))
            have B_x := Lib.hid (B_x.out.trans (hba.mono B_x.out.size))
            have HW := Lib.hid (HW.out.trans (hba.mono HW.out.size))
            have B_y := Lib.hid (Below.refl W13.heap.size W13)
            clear hWW hGG hba
            go_upto_region 10 with (fail)
            rw [← HWW.out.1, ← HWW.out.2]
            clear HWW
            have hy := jout_unique J_y.out (jout_le GD_a.out GD_b.out LE_ab.out)
            have HY := Lib.hid hy
            obtain ⟨-, rfl⟩ := hy
            have S_y := Lib.hid (jout_small J_y.out)
            have c_y0 : W13.cell? ⟨Gy, 0, none⟩ = some (.slice o1y n1y f1y) := (K_y.out.below B_y.out K_y.out.lt).cell 0
            have c_y1 : W13.cell? ⟨Gy, 1, none⟩ = some (.slice o2y n2y f2y) := (K_y.out.below B_y.out K_y.out.lt).cell 1
            have c_y2 : W13.cell? ⟨Gy, 2, none⟩ = some (.slice o3y n3y f3y) := (K_y.out.below B_y.out K_y.out.lt).cell 2
            have c_b0 : W13.cell? ⟨B + 1, 0, none⟩ = some (.slice o1b n1b f1b) := (K_b.out.below B_b.out K_b.out.lt).cell 0
            have c_b1 : W13.cell? ⟨B + 1, 1, none⟩ = some (.slice o2b n2b f2b) := (K_b.out.below B_b.out K_b.out.lt).cell 1
            have c_b2 : W13.cell? ⟨B + 1, 2, none⟩ = some (.slice o3b n3b f3b) := (K_b.out.below B_b.out K_b.out.lt).cell 2
            have L := Mk.same_any' m_y b W13 (R_y.out.later B_y.out) (R_b.out.later B_b.out) S_y.out S_b.out
            rw [E_y.out, E_b.out, HY.out.1, eqB_yes rfl] at L
            have L := Lib.hid L
            go_wp2_with fail
            refine L.out.mono ?_
            rintro e w14 ⟨rfl, hb⟩
            clear c_y0 c_y1 c_y2 c_b0 c_b1 c_b2 L
            have B_a := Lib.hid (B_a.out.trans (hb.mono B_a.out.size))
            have B_b := Lib.hid (B_b.out.trans (hb.mono B_b.out.size))
            have B_x := Lib.hid (B_x.out.trans (hb.mono B_x.out.size))
            have B_y := Lib.hid (B_y.out.trans (hb.mono B_y.out.size))
            have HW := Lib.hid (HW.out.trans (hb.mono HW.out.size))
            clear hb
            have c_b0 : w14.cell? ⟨B + 1, 0, none⟩ = some (.slice o1b n1b f1b) := (K_b.out.below B_b.out K_b.out.lt).cell 0
            have c_b1 : w14.cell? ⟨B + 1, 1, none⟩ = some (.slice o2b n2b f2b) := (K_b.out.below B_b.out K_b.out.lt).cell 1
            have c_b2 : w14.cell? ⟨B + 1, 2, none⟩ = some (.slice o3b n3b f3b) := (K_b.out.below B_b.out K_b.out.lt).cell 2
            have c_a0 : w14.cell? ⟨B, 0, none⟩ = some (.slice o1a n1a f1a) := (K_a.out.below B_a.out K_a.out.lt).cell 0
            have c_a1 : w14.cell? ⟨B, 1, none⟩ = some (.slice o2a n2a f2a) := (K_a.out.below B_a.out K_a.out.lt).cell 1
            have c_a2 : w14.cell? ⟨B, 2, none⟩ = some (.slice o3a n3a f3a) := (K_a.out.below B_a.out K_a.out.lt).cell 2
            have L := below_any b a w14 (R_b.out.later B_b.out) (R_a.out.later B_a.out) S_b.out S_a.out
            rw [E_b.out, E_a.out] at L
            obtain ⟨q, hq⟩ : ∃ q, q = belowB b.mk_ a.mk_ := ⟨_, rfl⟩
            rw [← hq] at L
            have L := Lib.hid L
            have HQ := Lib.hid hq
            clear hq
            go_wp2_with fail
            refine L.out.mono ?_
            rintro e w15 ⟨rfl, hb⟩
            clear c_b0 c_b1 c_b2 c_a0 c_a1 c_a2 L
            have B_a := Lib.hid (B_a.out.trans (hb.mono B_a.out.size))
            have B_b := Lib.hid (B_b.out.trans (hb.mono B_b.out.size))
            have B_x := Lib.hid (B_x.out.trans (hb.mono B_x.out.size))
            have B_y := Lib.hid (B_y.out.trans (hb.mono B_y.out.size))
            have HW := Lib.hid (HW.out.trans (hb.mono HW.out.size))
            clear hb
            cases q with
            | false =>
              go_upto_region 12 with (fail)
              have c_a0 : w15.cell? ⟨B, 0, none⟩ = some (.slice o1a n1a f1a) := (K_a.out.below B_a.out K_a.out.lt).cell 0
              have c_a1 : w15.cell? ⟨B, 1, none⟩ = some (.slice o2a n2a f2a) := (K_a.out.below B_a.out K_a.out.lt).cell 1
              have c_a2 : w15.cell? ⟨B, 2, none⟩ = some (.slice o3a n3a f3a) := (K_a.out.below B_a.out K_a.out.lt).cell 2
              have c_b0 : w15.cell? ⟨B + 1, 0, none⟩ = some (.slice o1b n1b f1b) := (K_b.out.below B_b.out K_b.out.lt).cell 0
              have c_b1 : w15.cell? ⟨B + 1, 1, none⟩ = some (.slice o2b n2b f2b) := (K_b.out.below B_b.out K_b.out.lt).cell 1
              have c_b2 : w15.cell? ⟨B + 1, 2, none⟩ = some (.slice o3b n3b f3b) := (K_b.out.below B_b.out K_b.out.lt).cell 2
              have J := join_any a b w15 (R_a.out.later B_a.out) (R_b.out.later B_b.out) S_a.out S_b.out
              rw [E_a.out, E_b.out] at J
              have J := Lib.hid J
              go_wp2_with fail
              refine J.out.mono ?_
              rintro e w16 ⟨m_u, c_u, rfl, hr, hb, hj⟩
              clear c_a0 c_a1 c_a2 c_b0 c_b1 c_b2 J
              have B_a := Lib.hid (B_a.out.trans (hb.mono B_a.out.size))
              have B_b := Lib.hid (B_b.out.trans (hb.mono B_b.out.size))
              have B_x := Lib.hid (B_x.out.trans (hb.mono B_x.out.size))
              have B_y := Lib.hid (B_y.out.trans (hb.mono B_y.out.size))
              have HW := Lib.hid (HW.out.trans (hb.mono HW.out.size))
              have J_u := Lib.hid hj
              have R_u := Lib.hid hr
              obtain ⟨o1u, n1u, f1u, o2u, n2u, f2u, o3u, n3u, f3u, eM⟩ := mk_form hr
              rw [eM]
              have E_u := Lib.hid eM
              clear hr hb hj eM
              obtain ⟨W17, hWW⟩ : ∃ X, X = w16.alloc (.cells #[.slice o1u n1u f1u, .slice o2u n2u f2u, .slice o3u n3u f3u] 26) := ⟨_, rfl⟩
              obtain ⟨Gu, hGG⟩ : ∃ X, X = w16.heap.size := ⟨_, rfl⟩
              have hba : Below w16.heap.size w16 W17 := by rw [hWW]; exact (Below.refl _ _).alloc (Nat.le_refl _) _
              have K_u := Lib.hid (show BlkIs W17 Gu 26 #[.slice o1u n1u f1u, .slice o2u n2u f2u, .slice o3u n3u f3u] by rw [hWW, hGG]; exact BlkIs.new _ _ _)
              have R_u := Lib.hid (show MkR.Reads W17 m_u from R_u.out.later hba)
              have HWW := Lib.hid (And.intro hWW hGG)
              have B_a := Lib.hid (B_a.out.trans (hba.mono B_a.out.size))
              have B_b := Lib.hid (B_b.out.trans (hba.mono B_b.out.size))
              have B_x := Lib.hid (B_x.out.trans (hba.mono B_x.out.size))
              have B_y := Lib.hid (B_y.out.trans (hba.mono B_y.out.size))
              have HW := Lib.hid (HW.out.trans (hba.mono HW.out.size))
              have B_u := Lib.hid (Below.refl W17.heap.size W17)
              clear hWW hGG hba
              go_upto_region 13 with (fail)
              rw [← HWW.out.1, ← HWW.out.2]
              clear HWW
              have S_u := Lib.hid (jout_small J_u.out)
              by_cases he : c_u = 0
              case neg =>
                have he2 : (c_u == 0) = false := by simpa using he
                obtain ⟨nd, hnd⟩ : ∃ nd : Int, nd = wrap64 (1 + wrap64 ((IntKind.u64.wrap node).tmod 7)) := ⟨_, rfl⟩
                have HND := Lib.hid (show 1 ≤ nd ∧ nd ≤ 7 from by rw [hnd]; exact node_in node)
                go_upto_region 18 with (fail)
                rw [← hnd]
                clear hnd
                have c_a0 : W17.cell? ⟨B, 0, none⟩ = some (.slice o1a n1a f1a) := (K_a.out.below B_a.out K_a.out.lt).cell 0
                have c_a1 : W17.cell? ⟨B, 1, none⟩ = some (.slice o2a n2a f2a) := (K_a.out.below B_a.out K_a.out.lt).cell 1
                have c_a2 : W17.cell? ⟨B, 2, none⟩ = some (.slice o3a n3a f3a) := (K_a.out.below B_a.out K_a.out.lt).cell 2
                have J := ack_any a nd W17 (R_a.out.later B_a.out) S_a.out
                rw [E_a.out] at J
                have J := Lib.hid J
                go_wp2_with fail
                refine J.out.mono ?_
                rintro e w18 ⟨m_p, c_p, rfl, hr, hb, hj⟩
                clear c_a0 c_a1 c_a2 J
                have B_a := Lib.hid (B_a.out.trans (hb.mono B_a.out.size))
                have B_b := Lib.hid (B_b.out.trans (hb.mono B_b.out.size))
                have B_x := Lib.hid (B_x.out.trans (hb.mono B_x.out.size))
                have B_y := Lib.hid (B_y.out.trans (hb.mono B_y.out.size))
                have B_u := Lib.hid (B_u.out.trans (hb.mono B_u.out.size))
                have HW := Lib.hid (HW.out.trans (hb.mono HW.out.size))
                have J_p := Lib.hid hj
                have R_p := Lib.hid hr
                obtain ⟨o1p, n1p, f1p, o2p, n2p, f2p, o3p, n3p, f3p, eM⟩ := mk_form hr
                rw [eM]
                have E_p := Lib.hid eM
                clear hr hb hj eM
                obtain ⟨W19, hWW⟩ : ∃ X, X = w18.alloc (.cells #[.slice o1p n1p f1p, .slice o2p n2p f2p, .slice o3p n3p f3p] 26) := ⟨_, rfl⟩
                obtain ⟨Gp, hGG⟩ : ∃ X, X = w18.heap.size := ⟨_, rfl⟩
                have hba : Below w18.heap.size w18 W19 := by rw [hWW]; exact (Below.refl _ _).alloc (Nat.le_refl _) _
                have K_p := Lib.hid (show BlkIs W19 Gp 26 #[.slice o1p n1p f1p, .slice o2p n2p f2p, .slice o3p n3p f3p] by rw [hWW, hGG]; exact BlkIs.new _ _ _)
                have R_p := Lib.hid (show MkR.Reads W19 m_p from R_p.out.later hba)
                have HWW := Lib.hid (And.intro hWW hGG)
                have B_a := Lib.hid (B_a.out.trans (hba.mono B_a.out.size))
                have B_b := Lib.hid (B_b.out.trans (hba.mono B_b.out.size))
                have B_x := Lib.hid (B_x.out.trans (hba.mono B_x.out.size))
                have B_y := Lib.hid (B_y.out.trans (hba.mono B_y.out.size))
                have B_u := Lib.hid (B_u.out.trans (hba.mono B_u.out.size))
                have HW := Lib.hid (HW.out.trans (hba.mono HW.out.size))
                have B_p := Lib.hid (Below.refl W19.heap.size W19)
                clear hWW hGG hba
                go_upto_region 19 with (fail)
                rw [← HWW.out.1, ← HWW.out.2]
                clear HWW
                have hp := aout_ok J_p.out GD_a.out HND.out
                have HP := Lib.hid hp
                obtain ⟨-, rfl⟩ := hp
                have HGP := Lib.hid (show goodB m_p.mk_ = true from by rw [HP.out.1]; exact ack_good GD_a.out HND.out)
                have S_p := Lib.hid (good_small' HGP.out)
                have c_p0 : W19.cell? ⟨Gp, 0, none⟩ = some (.slice o1p n1p f1p) := (K_p.out.below B_p.out K_p.out.lt).cell 0
                have c_p1 : W19.cell? ⟨Gp, 1, none⟩ = some (.slice o2p n2p f2p) := (K_p.out.below B_p.out K_p.out.lt).cell 1
                have c_p2 : W19.cell? ⟨Gp, 2, none⟩ = some (.slice o3p n3p f3p) := (K_p.out.below B_p.out K_p.out.lt).cell 2
                have J := ack_any m_p nd W19 (R_p.out.later B_p.out) S_p.out
                rw [E_p.out] at J
                have J := Lib.hid J
                go_wp2_with fail
                refine J.out.mono ?_
                rintro e w20 ⟨m_q, c_q, rfl, hr, hb, hj⟩
                clear c_p0 c_p1 c_p2 J
                have B_a := Lib.hid (B_a.out.trans (hb.mono B_a.out.size))
                have B_b := Lib.hid (B_b.out.trans (hb.mono B_b.out.size))
                have B_x := Lib.hid (B_x.out.trans (hb.mono B_x.out.size))
                have B_y := Lib.hid (B_y.out.trans (hb.mono B_y.out.size))
                have B_u := Lib.hid (B_u.out.trans (hb.mono B_u.out.size))
                have B_p := Lib.hid (B_p.out.trans (hb.mono B_p.out.size))
                have HW := Lib.hid (HW.out.trans (hb.mono HW.out.size))
                have J_q := Lib.hid hj
                have R_q := Lib.hid hr
                obtain ⟨o1q, n1q, f1q, o2q, n2q, f2q, o3q, n3q, f3q, eM⟩ := mk_form hr
                rw [eM]
                have E_q := Lib.hid eM
                clear hr hb hj eM
                obtain ⟨W21, hWW⟩ : ∃ X, X = w20.alloc (.cells #[.slice o1q n1q f1q, .slice o2q n2q f2q, .slice o3q n3q f3q] 26) := ⟨_, rfl⟩
                obtain ⟨Gq, hGG⟩ : ∃ X, X = w20.heap.size := ⟨_, rfl⟩
                have hba : Below w20.heap.size w20 W21 := by rw [hWW]; exact (Below.refl _ _).alloc (Nat.le_refl _) _
                have K_q := Lib.hid (show BlkIs W21 Gq 26 #[.slice o1q n1q f1q, .slice o2q n2q f2q, .slice o3q n3q f3q] by rw [hWW, hGG]; exact BlkIs.new _ _ _)
                have R_q := Lib.hid (show MkR.Reads W21 m_q from R_q.out.later hba)
                have HWW := Lib.hid (And.intro hWW hGG)
                have B_a := Lib.hid (B_a.out.trans (hba.mono B_a.out.size))
                have B_b := Lib.hid (B_b.out.trans (hba.mono B_b.out.size))
                have B_x := Lib.hid (B_x.out.trans (hba.mono B_x.out.size))
                have B_y := Lib.hid (B_y.out.trans (hba.mono B_y.out.size))
                have B_u := Lib.hid (B_u.out.trans (hba.mono B_u.out.size))
                have B_p := Lib.hid (B_p.out.trans (hba.mono B_p.out.size))
                have HW := Lib.hid (HW.out.trans (hba.mono HW.out.size))
                have B_q := Lib.hid (Below.refl W21.heap.size W21)
                clear hWW hGG hba
                go_upto_region 20 with (fail)
                rw [← HWW.out.1, ← HWW.out.2]
                clear HWW
                have hq := aout_ok J_q.out HGP.out HND.out
                have HQ := Lib.hid (show m_q.mk_ = m_p.mk_ from by rw [hq.1, HP.out.1, ack_again])
                obtain ⟨-, rfl⟩ := hq
                have S_q := Lib.hid (good_small' (show goodB m_q.mk_ = true from by rw [HQ.out]; exact HGP.out))
                have c_p0 : W21.cell? ⟨Gp, 0, none⟩ = some (.slice o1p n1p f1p) := (K_p.out.below B_p.out K_p.out.lt).cell 0
                have c_p1 : W21.cell? ⟨Gp, 1, none⟩ = some (.slice o2p n2p f2p) := (K_p.out.below B_p.out K_p.out.lt).cell 1
                have c_p2 : W21.cell? ⟨Gp, 2, none⟩ = some (.slice o3p n3p f3p) := (K_p.out.below B_p.out K_p.out.lt).cell 2
                have c_q0 : W21.cell? ⟨Gq, 0, none⟩ = some (.slice o1q n1q f1q) := (K_q.out.below B_q.out K_q.out.lt).cell 0
                have c_q1 : W21.cell? ⟨Gq, 1, none⟩ = some (.slice o2q n2q f2q) := (K_q.out.below B_q.out K_q.out.lt).cell 1
                have c_q2 : W21.cell? ⟨Gq, 2, none⟩ = some (.slice o3q n3q f3q) := (K_q.out.below B_q.out K_q.out.lt).cell 2
                have L := Mk.same_any' m_p m_q W21 (R_p.out.later B_p.out) (R_q.out.later B_q.out) S_p.out S_q.out
                rw [E_p.out, E_q.out, HQ.out, eqB_yes rfl] at L
                have L := Lib.hid L
                go_wp2_with fail
                refine L.out.mono ?_
                rintro e w22 ⟨rfl, hb⟩
                clear c_p0 c_p1 c_p2 c_q0 c_q1 c_q2 L
                have B_a := Lib.hid (B_a.out.trans (hb.mono B_a.out.size))
                have B_b := Lib.hid (B_b.out.trans (hb.mono B_b.out.size))
                have B_x := Lib.hid (B_x.out.trans (hb.mono B_x.out.size))
                have B_y := Lib.hid (B_y.out.trans (hb.mono B_y.out.size))
                have B_u := Lib.hid (B_u.out.trans (hb.mono B_u.out.size))
                have B_p := Lib.hid (B_p.out.trans (hb.mono B_p.out.size))
                have B_q := Lib.hid (B_q.out.trans (hb.mono B_q.out.size))
                have HW := Lib.hid (HW.out.trans (hb.mono HW.out.size))
                clear hb
                have c_a0 : w22.cell? ⟨B, 0, none⟩ = some (.slice o1a n1a f1a) := (K_a.out.below B_a.out K_a.out.lt).cell 0
                have c_a1 : w22.cell? ⟨B, 1, none⟩ = some (.slice o2a n2a f2a) := (K_a.out.below B_a.out K_a.out.lt).cell 1
                have c_a2 : w22.cell? ⟨B, 2, none⟩ = some (.slice o3a n3a f3a) := (K_a.out.below B_a.out K_a.out.lt).cell 2
                have c_p0 : w22.cell? ⟨Gp, 0, none⟩ = some (.slice o1p n1p f1p) := (K_p.out.below B_p.out K_p.out.lt).cell 0
                have c_p1 : w22.cell? ⟨Gp, 1, none⟩ = some (.slice o2p n2p f2p) := (K_p.out.below B_p.out K_p.out.lt).cell 1
                have c_p2 : w22.cell? ⟨Gp, 2, none⟩ = some (.slice o3p n3p f3p) := (K_p.out.below B_p.out K_p.out.lt).cell 2
                have L := below_any a m_p w22 (R_a.out.later B_a.out) (R_p.out.later B_p.out) S_a.out S_p.out
                rw [E_a.out, E_p.out, show belowB a.mk_ m_p.mk_ = true from by rw [HP.out.1]; exact belowB_iff.2 (ack_le _ _)] at L
                have L := Lib.hid L
                go_wp2_with fail
                refine L.out.mono ?_
                rintro e w23 ⟨rfl, hb⟩
                clear c_a0 c_a1 c_a2 c_p0 c_p1 c_p2 L
                have B_a := Lib.hid (B_a.out.trans (hb.mono B_a.out.size))
                have B_b := Lib.hid (B_b.out.trans (hb.mono B_b.out.size))
                have B_x := Lib.hid (B_x.out.trans (hb.mono B_x.out.size))
                have B_y := Lib.hid (B_y.out.trans (hb.mono B_y.out.size))
                have B_u := Lib.hid (B_u.out.trans (hb.mono B_u.out.size))
                have B_p := Lib.hid (B_p.out.trans (hb.mono B_p.out.size))
                have B_q := Lib.hid (B_q.out.trans (hb.mono B_q.out.size))
                have HW := Lib.hid (HW.out.trans (hb.mono HW.out.size))
                clear hb
                have c_p0 : w23.cell? ⟨Gp, 0, none⟩ = some (.slice o1p n1p f1p) := (K_p.out.below B_p.out K_p.out.lt).cell 0
                have c_p1 : w23.cell? ⟨Gp, 1, none⟩ = some (.slice o2p n2p f2p) := (K_p.out.below B_p.out K_p.out.lt).cell 1
                have c_p2 : w23.cell? ⟨Gp, 2, none⟩ = some (.slice o3p n3p f3p) := (K_p.out.below B_p.out K_p.out.lt).cell 2
                have L := Mk.good_any m_p w23 (R_p.out.later B_p.out) S_p.out.2.2.2
                rw [E_p.out, HGP.out] at L
                have L := Lib.hid L
                go_wp2_with fail
                refine L.out.mono ?_
                rintro e w24 ⟨rfl, hb⟩
                clear c_p0 c_p1 c_p2 L
                have B_a := Lib.hid (B_a.out.trans (hb.mono B_a.out.size))
                have B_b := Lib.hid (B_b.out.trans (hb.mono B_b.out.size))
                have B_x := Lib.hid (B_x.out.trans (hb.mono B_x.out.size))
                have B_y := Lib.hid (B_y.out.trans (hb.mono B_y.out.size))
                have B_u := Lib.hid (B_u.out.trans (hb.mono B_u.out.size))
                have B_p := Lib.hid (B_p.out.trans (hb.mono B_p.out.size))
                have B_q := Lib.hid (B_q.out.trans (hb.mono B_q.out.size))
                have HW := Lib.hid (HW.out.trans (hb.mono HW.out.size))
                clear hb
                go_wp2_with fail
                go_ret
                exact ⟨rfl, HW.out⟩
              subst he
              have HO := Lib.hid (jout_ok J_u.out)
              have HGU := Lib.hid (jm_good HO.out.1.1 HO.out.1.2 HO.out.2.1 HO.out.2.2)
              go_upto_region 14 with (fail)
              have c_u0 : W17.cell? ⟨Gu, 0, none⟩ = some (.slice o1u n1u f1u) := (K_u.out.below B_u.out K_u.out.lt).cell 0
              have c_u1 : W17.cell? ⟨Gu, 1, none⟩ = some (.slice o2u n2u f2u) := (K_u.out.below B_u.out K_u.out.lt).cell 1
              have c_u2 : W17.cell? ⟨Gu, 2, none⟩ = some (.slice o3u n3u f3u) := (K_u.out.below B_u.out K_u.out.lt).cell 2
              have c_b0 : W17.cell? ⟨B + 1, 0, none⟩ = some (.slice o1b n1b f1b) := (K_b.out.below B_b.out K_b.out.lt).cell 0
              have c_b1 : W17.cell? ⟨B + 1, 1, none⟩ = some (.slice o2b n2b f2b) := (K_b.out.below B_b.out K_b.out.lt).cell 1
              have c_b2 : W17.cell? ⟨B + 1, 2, none⟩ = some (.slice o3b n3b f3b) := (K_b.out.below B_b.out K_b.out.lt).cell 2
              have J := join_any m_u b W17 (R_u.out.later B_u.out) (R_b.out.later B_b.out) S_u.out S_b.out
              rw [E_u.out, E_b.out] at J
              have J := Lib.hid J
              go_wp2_with fail
              refine J.out.mono ?_
              rintro e w18 ⟨m_v, c_v, rfl, hr, hb, hj⟩
              clear c_u0 c_u1 c_u2 c_b0 c_b1 c_b2 J
              have B_a := Lib.hid (B_a.out.trans (hb.mono B_a.out.size))
              have B_b := Lib.hid (B_b.out.trans (hb.mono B_b.out.size))
              have B_x := Lib.hid (B_x.out.trans (hb.mono B_x.out.size))
              have B_y := Lib.hid (B_y.out.trans (hb.mono B_y.out.size))
              have B_u := Lib.hid (B_u.out.trans (hb.mono B_u.out.size))
              have HW := Lib.hid (HW.out.trans (hb.mono HW.out.size))
              have J_v := Lib.hid hj
              have R_v := Lib.hid hr
              obtain ⟨o1v, n1v, f1v, o2v, n2v, f2v, o3v, n3v, f3v, eM⟩ := mk_form hr
              rw [eM]
              have E_v := Lib.hid eM
              clear hr hb hj eM
              obtain ⟨W19, hWW⟩ : ∃ X, X = w18.alloc (.cells #[.slice o1v n1v f1v, .slice o2v n2v f2v, .slice o3v n3v f3v] 26) := ⟨_, rfl⟩
              obtain ⟨Gv, hGG⟩ : ∃ X, X = w18.heap.size := ⟨_, rfl⟩
              have hba : Below w18.heap.size w18 W19 := by rw [hWW]; exact (Below.refl _ _).alloc (Nat.le_refl _) _
              have K_v := Lib.hid (show BlkIs W19 Gv 26 #[.slice o1v n1v f1v, .slice o2v n2v f2v, .slice o3v n3v f3v] by rw [hWW, hGG]; exact BlkIs.new _ _ _)
              have R_v := Lib.hid (show MkR.Reads W19 m_v from R_v.out.later hba)
              have HWW := Lib.hid (And.intro hWW hGG)
              have B_a := Lib.hid (B_a.out.trans (hba.mono B_a.out.size))
              have B_b := Lib.hid (B_b.out.trans (hba.mono B_b.out.size))
              have B_x := Lib.hid (B_x.out.trans (hba.mono B_x.out.size))
              have B_y := Lib.hid (B_y.out.trans (hba.mono B_y.out.size))
              have B_u := Lib.hid (B_u.out.trans (hba.mono B_u.out.size))
              have HW := Lib.hid (HW.out.trans (hba.mono HW.out.size))
              have B_v := Lib.hid (Below.refl W19.heap.size W19)
              clear hWW hGG hba
              go_upto_region 15 with (fail)
              rw [← HWW.out.1, ← HWW.out.2]
              clear HWW
              have hv := jout_unique J_v.out (jout_comm (jout_le GD_b.out HGU.out (jm_right GD_b.out HO.out.2.1)))
              have HV := Lib.hid hv
              obtain ⟨-, rfl⟩ := hv
              have S_v := Lib.hid (jout_small J_v.out)
              have c_v0 : W19.cell? ⟨Gv, 0, none⟩ = some (.slice o1v n1v f1v) := (K_v.out.below B_v.out K_v.out.lt).cell 0
              have c_v1 : W19.cell? ⟨Gv, 1, none⟩ = some (.slice o2v n2v f2v) := (K_v.out.below B_v.out K_v.out.lt).cell 1
              have c_v2 : W19.cell? ⟨Gv, 2, none⟩ = some (.slice o3v n3v f3v) := (K_v.out.below B_v.out K_v.out.lt).cell 2
              have c_u0 : W19.cell? ⟨Gu, 0, none⟩ = some (.slice o1u n1u f1u) := (K_u.out.below B_u.out K_u.out.lt).cell 0
              have c_u1 : W19.cell? ⟨Gu, 1, none⟩ = some (.slice o2u n2u f2u) := (K_u.out.below B_u.out K_u.out.lt).cell 1
              have c_u2 : W19.cell? ⟨Gu, 2, none⟩ = some (.slice o3u n3u f3u) := (K_u.out.below B_u.out K_u.out.lt).cell 2
              have L := Mk.same_any' m_v m_u W19 (R_v.out.later B_v.out) (R_u.out.later B_u.out) S_v.out S_u.out
              rw [E_v.out, E_u.out, HV.out.1, eqB_yes rfl] at L
              have L := Lib.hid L
              go_wp2_with fail
              refine L.out.mono ?_
              rintro e w20 ⟨rfl, hb⟩
              clear c_v0 c_v1 c_v2 c_u0 c_u1 c_u2 L
              have B_a := Lib.hid (B_a.out.trans (hb.mono B_a.out.size))
              have B_b := Lib.hid (B_b.out.trans (hb.mono B_b.out.size))
              have B_x := Lib.hid (B_x.out.trans (hb.mono B_x.out.size))
              have B_y := Lib.hid (B_y.out.trans (hb.mono B_y.out.size))
              have B_u := Lib.hid (B_u.out.trans (hb.mono B_u.out.size))
              have B_v := Lib.hid (B_v.out.trans (hb.mono B_v.out.size))
              have HW := Lib.hid (HW.out.trans (hb.mono HW.out.size))
              clear hb
              obtain ⟨nd, hnd⟩ : ∃ nd : Int, nd = wrap64 (1 + wrap64 ((IntKind.u64.wrap node).tmod 7)) := ⟨_, rfl⟩
              have HND := Lib.hid (show 1 ≤ nd ∧ nd ≤ 7 from by rw [hnd]; exact node_in node)
              go_upto_region 18 with (fail)
              rw [← hnd]
              clear hnd
              have c_a0 : w20.cell? ⟨B, 0, none⟩ = some (.slice o1a n1a f1a) := (K_a.out.below B_a.out K_a.out.lt).cell 0
              have c_a1 : w20.cell? ⟨B, 1, none⟩ = some (.slice o2a n2a f2a) := (K_a.out.below B_a.out K_a.out.lt).cell 1
              have c_a2 : w20.cell? ⟨B, 2, none⟩ = some (.slice o3a n3a f3a) := (K_a.out.below B_a.out K_a.out.lt).cell 2
              have J := ack_any a nd w20 (R_a.out.later B_a.out) S_a.out
              rw [E_a.out] at J
              have J := Lib.hid J
              go_wp2_with fail
              refine J.out.mono ?_
              rintro e w21 ⟨m_p, c_p, rfl, hr, hb, hj⟩
              clear c_a0 c_a1 c_a2 J
              have B_a := Lib.hid (B_a.out.trans (hb.mono B_a.out.size))
              have B_b := Lib.hid (B_b.out.trans (hb.mono B_b.out.size))
              have B_x := Lib.hid (B_x.out.trans (hb.mono B_x.out.size))
              have B_y := Lib.hid (B_y.out.trans (hb.mono B_y.out.size))
              have B_u := Lib.hid (B_u.out.trans (hb.mono B_u.out.size))
              have B_v := Lib.hid (B_v.out.trans (hb.mono B_v.out.size))
              have HW := Lib.hid (HW.out.trans (hb.mono HW.out.size))
              have J_p := Lib.hid hj
              have R_p := Lib.hid hr
              obtain ⟨o1p, n1p, f1p, o2p, n2p, f2p, o3p, n3p, f3p, eM⟩ := mk_form hr
              rw [eM]
              have E_p := Lib.hid eM
              clear hr hb hj eM
              obtain ⟨W22, hWW⟩ : ∃ X, X = w21.alloc (.cells #[.slice o1p n1p f1p, .slice o2p n2p f2p, .slice o3p n3p f3p] 26) := ⟨_, rfl⟩
              obtain ⟨Gp, hGG⟩ : ∃ X, X = w21.heap.size := ⟨_, rfl⟩
              have hba : Below w21.heap.size w21 W22 := by rw [hWW]; exact (Below.refl _ _).alloc (Nat.le_refl _) _
              have K_p := Lib.hid (show BlkIs W22 Gp 26 #[.slice o1p n1p f1p, .slice o2p n2p f2p, .slice o3p n3p f3p] by rw [hWW, hGG]; exact BlkIs.new _ _ _)
              have R_p := Lib.hid (show MkR.Reads W22 m_p from R_p.out.later hba)
              have HWW := Lib.hid (And.intro hWW hGG)
              have B_a := Lib.hid (B_a.out.trans (hba.mono B_a.out.size))
              have B_b := Lib.hid (B_b.out.trans (hba.mono B_b.out.size))
              have B_x := Lib.hid (B_x.out.trans (hba.mono B_x.out.size))
              have B_y := Lib.hid (B_y.out.trans (hba.mono B_y.out.size))
              have B_u := Lib.hid (B_u.out.trans (hba.mono B_u.out.size))
              have B_v := Lib.hid (B_v.out.trans (hba.mono B_v.out.size))
              have HW := Lib.hid (HW.out.trans (hba.mono HW.out.size))
              have B_p := Lib.hid (Below.refl W22.heap.size W22)
              clear hWW hGG hba
              go_upto_region 19 with (fail)
              rw [← HWW.out.1, ← HWW.out.2]
              clear HWW
              have hp := aout_ok J_p.out GD_a.out HND.out
              have HP := Lib.hid hp
              obtain ⟨-, rfl⟩ := hp
              have HGP := Lib.hid (show goodB m_p.mk_ = true from by rw [HP.out.1]; exact ack_good GD_a.out HND.out)
              have S_p := Lib.hid (good_small' HGP.out)
              have c_p0 : W22.cell? ⟨Gp, 0, none⟩ = some (.slice o1p n1p f1p) := (K_p.out.below B_p.out K_p.out.lt).cell 0
              have c_p1 : W22.cell? ⟨Gp, 1, none⟩ = some (.slice o2p n2p f2p) := (K_p.out.below B_p.out K_p.out.lt).cell 1
              have c_p2 : W22.cell? ⟨Gp, 2, none⟩ = some (.slice o3p n3p f3p) := (K_p.out.below B_p.out K_p.out.lt).cell 2
              have J := ack_any m_p nd W22 (R_p.out.later B_p.out) S_p.out
              rw [E_p.out] at J
              have J := Lib.hid J
              go_wp2_with fail
              refine J.out.mono ?_
              rintro e w23 ⟨m_q, c_q, rfl, hr, hb, hj⟩
              clear c_p0 c_p1 c_p2 J
              have B_a := Lib.hid (B_a.out.trans (hb.mono B_a.out.size))
              have B_b := Lib.hid (B_b.out.trans (hb.mono B_b.out.size))
              have B_x := Lib.hid (B_x.out.trans (hb.mono B_x.out.size))
              have B_y := Lib.hid (B_y.out.trans (hb.mono B_y.out.size))
              have B_u := Lib.hid (B_u.out.trans (hb.mono B_u.out.size))
              have B_v := Lib.hid (B_v.out.trans (hb.mono B_v.out.size))
              have B_p := Lib.hid (B_p.out.trans (hb.mono B_p.out.size))
              have HW := Lib.hid (HW.out.trans (hb.mono HW.out.size))
              have J_q := Lib.hid hj
              have R_q := Lib.hid hr
              obtain ⟨o1q, n1q, f1q, o2q, n2q, f2q, o3q, n3q, f3q, eM⟩ := mk_form hr
              rw [eM]
              have E_q := Lib.hid eM
              clear hr hb hj eM
              obtain ⟨W24, hWW⟩ : ∃ X, X = w23.alloc (.cells #[.slice o1q n1q f1q, .slice o2q n2q f2q, .slice o3q n3q f3q] 26) := ⟨_, rfl⟩
              obtain ⟨Gq, hGG⟩ : ∃ X, X = w23.heap.size := ⟨_, rfl⟩
              have hba : Below w23.heap.size w23 W24 := by rw [hWW]; exact (Below.refl _ _).alloc (Nat.le_refl _) _
              have K_q := Lib.hid (show BlkIs W24 Gq 26 #[.slice o1q n1q f1q, .slice o2q n2q f2q, .slice o3q n3q f3q] by rw [hWW, hGG]; exact BlkIs.new _ _ _)
              have R_q := Lib.hid (show MkR.Reads W24 m_q from R_q.out.later hba)
              have HWW := Lib.hid (And.intro hWW hGG)
              have B_a := Lib.hid (B_a.out.trans (hba.mono B_a.out.size))
              have B_b := Lib.hid (B_b.out.trans (hba.mono B_b.out.size))
              have B_x := Lib.hid (B_x.out.trans (hba.mono B_x.out.size))
              have B_y := Lib.hid (B_y.out.trans (hba.mono B_y.out.size))
              have B_u := Lib.hid (B_u.out.trans (hba.mono B_u.out.size))
              have B_v := Lib.hid (B_v.out.trans (hba.mono B_v.out.size))
              have B_p := Lib.hid (B_p.out.trans (hba.mono B_p.out.size))
              have HW := Lib.hid (HW.out.trans (hba.mono HW.out.size))
              have B_q := Lib.hid (Below.refl W24.heap.size W24)
              clear hWW hGG hba
              go_upto_region 20 with (fail)
              rw [← HWW.out.1, ← HWW.out.2]
              clear HWW
              have hq := aout_ok J_q.out HGP.out HND.out
              have HQ := Lib.hid (show m_q.mk_ = m_p.mk_ from by rw [hq.1, HP.out.1, ack_again])
              obtain ⟨-, rfl⟩ := hq
              have S_q := Lib.hid (good_small' (show goodB m_q.mk_ = true from by rw [HQ.out]; exact HGP.out))
              have c_p0 : W24.cell? ⟨Gp, 0, none⟩ = some (.slice o1p n1p f1p) := (K_p.out.below B_p.out K_p.out.lt).cell 0
              have c_p1 : W24.cell? ⟨Gp, 1, none⟩ = some (.slice o2p n2p f2p) := (K_p.out.below B_p.out K_p.out.lt).cell 1
              have c_p2 : W24.cell? ⟨Gp, 2, none⟩ = some (.slice o3p n3p f3p) := (K_p.out.below B_p.out K_p.out.lt).cell 2
              have c_q0 : W24.cell? ⟨Gq, 0, none⟩ = some (.slice o1q n1q f1q) := (K_q.out.below B_q.out K_q.out.lt).cell 0
              have c_q1 : W24.cell? ⟨Gq, 1, none⟩ = some (.slice o2q n2q f2q) := (K_q.out.below B_q.out K_q.out.lt).cell 1
              have c_q2 : W24.cell? ⟨Gq, 2, none⟩ = some (.slice o3q n3q f3q) := (K_q.out.below B_q.out K_q.out.lt).cell 2
              have L := Mk.same_any' m_p m_q W24 (R_p.out.later B_p.out) (R_q.out.later B_q.out) S_p.out S_q.out
              rw [E_p.out, E_q.out, HQ.out, eqB_yes rfl] at L
              have L := Lib.hid L
              go_wp2_with fail
              refine L.out.mono ?_
              rintro e w25 ⟨rfl, hb⟩
              clear c_p0 c_p1 c_p2 c_q0 c_q1 c_q2 L
              have B_a := Lib.hid (B_a.out.trans (hb.mono B_a.out.size))
              have B_b := Lib.hid (B_b.out.trans (hb.mono B_b.out.size))
              have B_x := Lib.hid (B_x.out.trans (hb.mono B_x.out.size))
              have B_y := Lib.hid (B_y.out.trans (hb.mono B_y.out.size))
              have B_u := Lib.hid (B_u.out.trans (hb.mono B_u.out.size))
              have B_v := Lib.hid (B_v.out.trans (hb.mono B_v.out.size))
              have B_p := Lib.hid (B_p.out.trans (hb.mono B_p.out.size))
              have B_q := Lib.hid (B_q.out.trans (hb.mono B_q.out.size))
              have HW := Lib.hid (HW.out.trans (hb.mono HW.out.size))
              clear hb
              have c_a0 : w25.cell? ⟨B, 0, none⟩ = some (.slice o1a n1a f1a) := (K_a.out.below B_a.out K_a.out.lt).cell 0
              have c_a1 : w25.cell? ⟨B, 1, none⟩ = some (.slice o2a n2a f2a) := (K_a.out.below B_a.out K_a.out.lt).cell 1
              have c_a2 : w25.cell? ⟨B, 2, none⟩ = some (.slice o3a n3a f3a) := (K_a.out.below B_a.out K_a.out.lt).cell 2
              have c_p0 : w25.cell? ⟨Gp, 0, none⟩ = some (.slice o1p n1p f1p) := (K_p.out.below B_p.out K_p.out.lt).cell 0
              have c_p1 : w25.cell? ⟨Gp, 1, none⟩ = some (.slice o2p n2p f2p) := (K_p.out.below B_p.out K_p.out.lt).cell 1
              have c_p2 : w25.cell? ⟨Gp, 2, none⟩ = some (.slice o3p n3p f3p) := (K_p.out.below B_p.out K_p.out.lt).cell 2
              have L := below_any a m_p w25 (R_a.out.later B_a.out) (R_p.out.later B_p.out) S_a.out S_p.out
              rw [E_a.out, E_p.out, show belowB a.mk_ m_p.mk_ = true from by rw [HP.out.1]; exact belowB_iff.2 (ack_le _ _)] at L
              have L := Lib.hid L
              go_wp2_with fail
              refine L.out.mono ?_
              rintro e w26 ⟨rfl, hb⟩
              clear c_a0 c_a1 c_a2 c_p0 c_p1 c_p2 L
              have B_a := Lib.hid (B_a.out.trans (hb.mono B_a.out.size))
              have B_b := Lib.hid (B_b.out.trans (hb.mono B_b.out.size))
              have B_x := Lib.hid (B_x.out.trans (hb.mono B_x.out.size))
              have B_y := Lib.hid (B_y.out.trans (hb.mono B_y.out.size))
              have B_u := Lib.hid (B_u.out.trans (hb.mono B_u.out.size))
              have B_v := Lib.hid (B_v.out.trans (hb.mono B_v.out.size))
              have B_p := Lib.hid (B_p.out.trans (hb.mono B_p.out.size))
              have B_q := Lib.hid (B_q.out.trans (hb.mono B_q.out.size))
              have HW := Lib.hid (HW.out.trans (hb.mono HW.out.size))
              clear hb
              have c_p0 : w26.cell? ⟨Gp, 0, none⟩ = some (.slice o1p n1p f1p) := (K_p.out.below B_p.out K_p.out.lt).cell 0
              have c_p1 : w26.cell? ⟨Gp, 1, none⟩ = some (.slice o2p n2p f2p) := (K_p.out.below B_p.out K_p.out.lt).cell 1
              have c_p2 : w26.cell? ⟨Gp, 2, none⟩ = some (.slice o3p n3p f3p) := (K_p.out.below B_p.out K_p.out.lt).cell 2
              have L := Mk.good_any m_p w26 (R_p.out.later B_p.out) S_p.out.2.2.2
              rw [E_p.out, HGP.out] at L
              have L := Lib.hid L
              go_wp2_with fail
              refine L.out.mono ?_
              rintro e w27 ⟨rfl, hb⟩
              clear c_p0 c_p1 c_p2 L
              have B_a := Lib.hid (B_a.out.trans (hb.mono B_a.out.size))
              have B_b := Lib.hid (B_b.out.trans (hb.mono B_b.out.size))
              have B_x := Lib.hid (B_x.out.trans (hb.mono B_x.out.size))
              have B_y := Lib.hid (B_y.out.trans (hb.mono B_y.out.size))
              have B_u := Lib.hid (B_u.out.trans (hb.mono B_u.out.size))
              have B_v := Lib.hid (B_v.out.trans (hb.mono B_v.out.size))
              have B_p := Lib.hid (B_p.out.trans (hb.mono B_p.out.size))
              have B_q := Lib.hid (B_q.out.trans (hb.mono B_q.out.size))
              have HW := Lib.hid (HW.out.trans (hb.mono HW.out.size))
              clear hb
              go_wp2_with fail
              go_ret
              exact ⟨rfl, HW.out⟩
            | true =>
              have LE_ba := Lib.hid (belowB_iff.1 HQ.out.symm)
              clear HQ
              have c_a0 : w15.cell? ⟨B, 0, none⟩ = some (.slice o1a n1a f1a) := (K_a.out.below B_a.out K_a.out.lt).cell 0
              have c_a1 : w15.cell? ⟨B, 1, none⟩ = some (.slice o2a n2a f2a) := (K_a.out.below B_a.out K_a.out.lt).cell 1
              have c_a2 : w15.cell? ⟨B, 2, none⟩ = some (.slice o3a n3a f3a) := (K_a.out.below B_a.out K_a.out.lt).cell 2
              have c_b0 : w15.cell? ⟨B + 1, 0, none⟩ = some (.slice o1b n1b f1b) := (K_b.out.below B_b.out K_b.out.lt).cell 0
              have c_b1 : w15.cell? ⟨B + 1, 1, none⟩ = some (.slice o2b n2b f2b) := (K_b.out.below B_b.out K_b.out.lt).cell 1
              have c_b2 : w15.cell? ⟨B + 1, 2, none⟩ = some (.slice o3b n3b f3b) := (K_b.out.below B_b.out K_b.out.lt).cell 2
              have L := Mk.same_any' a b w15 (R_a.out.later B_a.out) (R_b.out.later B_b.out) S_a.out S_b.out
              rw [E_a.out, E_b.out, leM_antisymm GD_a.out GD_b.out LE_ab.out LE_ba.out, eqB_yes rfl] at L
              have L := Lib.hid L
              go_wp2_with fail
              refine L.out.mono ?_
              rintro e w16 ⟨rfl, hb⟩
              clear c_a0 c_a1 c_a2 c_b0 c_b1 c_b2 L
              have B_a := Lib.hid (B_a.out.trans (hb.mono B_a.out.size))
              have B_b := Lib.hid (B_b.out.trans (hb.mono B_b.out.size))
              have B_x := Lib.hid (B_x.out.trans (hb.mono B_x.out.size))
              have B_y := Lib.hid (B_y.out.trans (hb.mono B_y.out.size))
              have HW := Lib.hid (HW.out.trans (hb.mono HW.out.size))
              clear hb
              go_upto_region 12 with (fail)
              have c_a0 : w16.cell? ⟨B, 0, none⟩ = some (.slice o1a n1a f1a) := (K_a.out.below B_a.out K_a.out.lt).cell 0
              have c_a1 : w16.cell? ⟨B, 1, none⟩ = some (.slice o2a n2a f2a) := (K_a.out.below B_a.out K_a.out.lt).cell 1
              have c_a2 : w16.cell? ⟨B, 2, none⟩ = some (.slice o3a n3a f3a) := (K_a.out.below B_a.out K_a.out.lt).cell 2
              have c_b0 : w16.cell? ⟨B + 1, 0, none⟩ = some (.slice o1b n1b f1b) := (K_b.out.below B_b.out K_b.out.lt).cell 0
              have c_b1 : w16.cell? ⟨B + 1, 1, none⟩ = some (.slice o2b n2b f2b) := (K_b.out.below B_b.out K_b.out.lt).cell 1
              have c_b2 : w16.cell? ⟨B + 1, 2, none⟩ = some (.slice o3b n3b f3b) := (K_b.out.below B_b.out K_b.out.lt).cell 2
              have J := join_any a b w16 (R_a.out.later B_a.out) (R_b.out.later B_b.out) S_a.out S_b.out
              rw [E_a.out, E_b.out] at J
              have J := Lib.hid J
              go_wp2_with fail
              refine J.out.mono ?_
              rintro e w17 ⟨m_u, c_u, rfl, hr, hb, hj⟩
              clear c_a0 c_a1 c_a2 c_b0 c_b1 c_b2 J
              have B_a := Lib.hid (B_a.out.trans (hb.mono B_a.out.size))
              have B_b := Lib.hid (B_b.out.trans (hb.mono B_b.out.size))
              have B_x := Lib.hid (B_x.out.trans (hb.mono B_x.out.size))
              have B_y := Lib.hid (B_y.out.trans (hb.mono B_y.out.size))
              have HW := Lib.hid (HW.out.trans (hb.mono HW.out.size))
              have J_u := Lib.hid hj
              have R_u := Lib.hid hr
              obtain ⟨o1u, n1u, f1u, o2u, n2u, f2u, o3u, n3u, f3u, eM⟩ := mk_form hr
              rw [eM]
              have E_u := Lib.hid eM
              clear hr hb hj eM
              obtain ⟨W18, hWW⟩ : ∃ X, X = w17.alloc (.cells #[.slice o1u n1u f1u, .slice o2u n2u f2u, .slice o3u n3u f3u] 26) := ⟨_, rfl⟩
              obtain ⟨Gu, hGG⟩ : ∃ X, X = w17.heap.size := ⟨_, rfl⟩
              have hba : Below w17.heap.size w17 W18 := by rw [hWW]; exact (Below.refl _ _).alloc (Nat.le_refl _) _
              have K_u := Lib.hid (show BlkIs W18 Gu 26 #[.slice o1u n1u f1u, .slice o2u n2u f2u, .slice o3u n3u f3u] by rw [hWW, hGG]; exact BlkIs.new _ _ _)
              have R_u := Lib.hid (show MkR.Reads W18 m_u from R_u.out.later hba)
              have HWW := Lib.hid (And.intro hWW hGG)
              have B_a := Lib.hid (B_a.out.trans (hba.mono B_a.out.size))
              have B_b := Lib.hid (B_b.out.trans (hba.mono B_b.out.size))
              have B_x := Lib.hid (B_x.out.trans (hba.mono B_x.out.size))
              have B_y := Lib.hid (B_y.out.trans (hba.mono B_y.out.size))
              have HW := Lib.hid (HW.out.trans (hba.mono HW.out.size))
              have B_u := Lib.hid (Below.refl W18.heap.size W18)
              clear hWW hGG hba
              go_upto_region 13 with (fail)
              rw [← HWW.out.1, ← HWW.out.2]
              clear HWW
              have S_u := Lib.hid (jout_small J_u.out)
              by_cases he : c_u = 0
              case neg =>
                have he2 : (c_u == 0) = false := by simpa using he
                obtain ⟨nd, hnd⟩ : ∃ nd : Int, nd = wrap64 (1 + wrap64 ((IntKind.u64.wrap node).tmod 7)) := ⟨_, rfl⟩
                have HND := Lib.hid (show 1 ≤ nd ∧ nd ≤ 7 from by rw [hnd]; exact node_in node)
                go_upto_region 18 with (fail)
                rw [← hnd]
                clear hnd
                have c_a0 : W18.cell? ⟨B, 0, none⟩ = some (.slice o1a n1a f1a) := (K_a.out.below B_a.out K_a.out.lt).cell 0
                have c_a1 : W18.cell? ⟨B, 1, none⟩ = some (.slice o2a n2a f2a) := (K_a.out.below B_a.out K_a.out.lt).cell 1
                have c_a2 : W18.cell? ⟨B, 2, none⟩ = some (.slice o3a n3a f3a) := (K_a.out.below B_a.out K_a.out.lt).cell 2
                have J := ack_any a nd W18 (R_a.out.later B_a.out) S_a.out
                rw [E_a.out] at J
                have J := Lib.hid J
                go_wp2_with fail
                refine J.out.mono ?_
                rintro e w19 ⟨m_p, c_p, rfl, hr, hb, hj⟩
                clear c_a0 c_a1 c_a2 J
                have B_a := Lib.hid (B_a.out.trans (hb.mono B_a.out.size))
                have B_b := Lib.hid (B_b.out.trans (hb.mono B_b.out.size))
                have B_x := Lib.hid (B_x.out.trans (hb.mono B_x.out.size))
                have B_y := Lib.hid (B_y.out.trans (hb.mono B_y.out.size))
                have B_u := Lib.hid (B_u.out.trans (hb.mono B_u.out.size))
                have HW := Lib.hid (HW.out.trans (hb.mono HW.out.size))
                have J_p := Lib.hid hj
                have R_p := Lib.hid hr
                obtain ⟨o1p, n1p, f1p, o2p, n2p, f2p, o3p, n3p, f3p, eM⟩ := mk_form hr
                rw [eM]
                have E_p := Lib.hid eM
                clear hr hb hj eM
                obtain ⟨W20, hWW⟩ : ∃ X, X = w19.alloc (.cells #[.slice o1p n1p f1p, .slice o2p n2p f2p, .slice o3p n3p f3p] 26) := ⟨_, rfl⟩
                obtain ⟨Gp, hGG⟩ : ∃ X, X = w19.heap.size := ⟨_, rfl⟩
                have hba : Below w19.heap.size w19 W20 := by rw [hWW]; exact (Below.refl _ _).alloc (Nat.le_refl _) _
                have K_p := Lib.hid (show BlkIs W20 Gp 26 #[.slice o1p n1p f1p, .slice o2p n2p f2p, .slice o3p n3p f3p] by rw [hWW, hGG]; exact BlkIs.new _ _ _)
                have R_p := Lib.hid (show MkR.Reads W20 m_p from R_p.out.later hba)
                have HWW := Lib.hid (And.intro hWW hGG)
                have B_a := Lib.hid (B_a.out.trans (hba.mono B_a.out.size))
                have B_b := Lib.hid (B_b.out.trans (hba.mono B_b.out.size))
                have B_x := Lib.hid (B_x.out.trans (hba.mono B_x.out.size))
                have B_y := Lib.hid (B_y.out.trans (hba.mono B_y.out.size))
                have B_u := Lib.hid (B_u.out.trans (hba.mono B_u.out.size))
                have HW := Lib.hid (HW.out.trans (hba.mono HW.out.size))
                have B_p := Lib.hid (Below.refl W20.heap.size W20)
                clear hWW hGG hba
                go_upto_region 19 with (fail)
                rw [← HWW.out.1, ← HWW.out.2]
                clear HWW
                have hp := aout_ok J_p.out GD_a.out HND.out
                have HP := Lib.hid hp
                obtain ⟨-, rfl⟩ := hp
                have HGP := Lib.hid (show goodB m_p.mk_ = true from by rw [HP.out.1]; exact ack_good GD_a.out HND.out)
                have S_p := Lib.hid (good_small' HGP.out)
                have c_p0 : W20.cell? ⟨Gp, 0, none⟩ = some (.slice o1p n1p f1p) := (K_p.out.below B_p.out K_p.out.lt).cell 0
                have c_p1 : W20.cell? ⟨Gp, 1, none⟩ = some (.slice o2p n2p f2p) := (K_p.out.below B_p.out K_p.out.lt).cell 1
                have c_p2 : W20.cell? ⟨Gp, 2, none⟩ = some (.slice o3p n3p f3p) := (K_p.out.below B_p.out K_p.out.lt).cell 2
                have J := ack_any m_p nd W20 (R_p.out.later B_p.out) S_p.out
                rw [E_p.out] at J
                have J := Lib.hid J
                go_wp2_with fail
                refine J.out.mono ?_
                rintro e w21 ⟨m_q, c_q, rfl, hr, hb, hj⟩
                clear c_p0 c_p1 c_p2 J
                have B_a := Lib.hid (B_a.out.trans (hb.mono B_a.out.size))
                have B_b := Lib.hid (B_b.out.trans (hb.mono B_b.out.size))
                have B_x := Lib.hid (B_x.out.trans (hb.mono B_x.out.size))
                have B_y := Lib.hid (B_y.out.trans (hb.mono B_y.out.size))
                have B_u := Lib.hid (B_u.out.trans (hb.mono B_u.out.size))
                have B_p := Lib.hid (B_p.out.trans (hb.mono B_p.out.size))
                have HW := Lib.hid (HW.out.trans (hb.mono HW.out.size))
                have J_q := Lib.hid hj
                have R_q := Lib.hid hr
                obtain ⟨o1q, n1q, f1q, o2q, n2q, f2q, o3q, n3q, f3q, eM⟩ := mk_form hr
                rw [eM]
                have E_q := Lib.hid eM
                clear hr hb hj eM
                obtain ⟨W22, hWW⟩ : ∃ X, X = w21.alloc (.cells #[.slice o1q n1q f1q, .slice o2q n2q f2q, .slice o3q n3q f3q] 26) := ⟨_, rfl⟩
                obtain ⟨Gq, hGG⟩ : ∃ X, X = w21.heap.size := ⟨_, rfl⟩
                have hba : Below w21.heap.size w21 W22 := by rw [hWW]; exact (Below.refl _ _).alloc (Nat.le_refl _) _
                have K_q := Lib.hid (show BlkIs W22 Gq 26 #[.slice o1q n1q f1q, .slice o2q n2q f2q, .slice o3q n3q f3q] by rw [hWW, hGG]; exact BlkIs.new _ _ _)
                have R_q := Lib.hid (show MkR.Reads W22 m_q from R_q.out.later hba)
                have HWW := Lib.hid (And.intro hWW hGG)
                have B_a := Lib.hid (B_a.out.trans (hba.mono B_a.out.size))
                have B_b := Lib.hid (B_b.out.trans (hba.mono B_b.out.size))
                have B_x := Lib.hid (B_x.out.trans (hba.mono B_x.out.size))
                have B_y := Lib.hid (B_y.out.trans (hba.mono B_y.out.size))
                have B_u := Lib.hid (B_u.out.trans (hba.mono B_u.out.size))
                have B_p := Lib.hid (B_p.out.trans (hba.mono B_p.out.size))
                have HW := Lib.hid (HW.out.trans (hba.mono HW.out.size))
                have B_q := Lib.hid (Below.refl W22.heap.size W22)
                clear hWW hGG hba
                go_upto_region 20 with (fail)
                rw [← HWW.out.1, ← HWW.out.2]
                clear HWW
                have hq := aout_ok J_q.out HGP.out HND.out
                have HQ := Lib.hid (show m_q.mk_ = m_p.mk_ from by rw [hq.1, HP.out.1, ack_again])
                obtain ⟨-, rfl⟩ := hq
                have S_q := Lib.hid (good_small' (show goodB m_q.mk_ = true from by rw [HQ.out]; exact HGP.out))
                have c_p0 : W22.cell? ⟨Gp, 0, none⟩ = some (.slice o1p n1p f1p) := (K_p.out.below B_p.out K_p.out.lt).cell 0
                have c_p1 : W22.cell? ⟨Gp, 1, none⟩ = some (.slice o2p n2p f2p) := (K_p.out.below B_p.out K_p.out.lt).cell 1
                have c_p2 : W22.cell? ⟨Gp, 2, none⟩ = some (.slice o3p n3p f3p) := (K_p.out.below B_p.out K_p.out.lt).cell 2
                have c_q0 : W22.cell? ⟨Gq, 0, none⟩ = some (.slice o1q n1q f1q) := (K_q.out.below B_q.out K_q.out.lt).cell 0
                have c_q1 : W22.cell? ⟨Gq, 1, none⟩ = some (.slice o2q n2q f2q) := (K_q.out.below B_q.out K_q.out.lt).cell 1
                have c_q2 : W22.cell? ⟨Gq, 2, none⟩ = some (.slice o3q n3q f3q) := (K_q.out.below B_q.out K_q.out.lt).cell 2
                have L := Mk.same_any' m_p m_q W22 (R_p.out.later B_p.out) (R_q.out.later B_q.out) S_p.out S_q.out
                rw [E_p.out, E_q.out, HQ.out, eqB_yes rfl] at L
                have L := Lib.hid L
                go_wp2_with fail
                refine L.out.mono ?_
                rintro e w23 ⟨rfl, hb⟩
                clear c_p0 c_p1 c_p2 c_q0 c_q1 c_q2 L
                have B_a := Lib.hid (B_a.out.trans (hb.mono B_a.out.size))
                have B_b := Lib.hid (B_b.out.trans (hb.mono B_b.out.size))
                have B_x := Lib.hid (B_x.out.trans (hb.mono B_x.out.size))
                have B_y := Lib.hid (B_y.out.trans (hb.mono B_y.out.size))
                have B_u := Lib.hid (B_u.out.trans (hb.mono B_u.out.size))
                have B_p := Lib.hid (B_p.out.trans (hb.mono B_p.out.size))
                have B_q := Lib.hid (B_q.out.trans (hb.mono B_q.out.size))
                have HW := Lib.hid (HW.out.trans (hb.mono HW.out.size))
                clear hb
                have c_a0 : w23.cell? ⟨B, 0, none⟩ = some (.slice o1a n1a f1a) := (K_a.out.below B_a.out K_a.out.lt).cell 0
                have c_a1 : w23.cell? ⟨B, 1, none⟩ = some (.slice o2a n2a f2a) := (K_a.out.below B_a.out K_a.out.lt).cell 1
                have c_a2 : w23.cell? ⟨B, 2, none⟩ = some (.slice o3a n3a f3a) := (K_a.out.below B_a.out K_a.out.lt).cell 2
                have c_p0 : w23.cell? ⟨Gp, 0, none⟩ = some (.slice o1p n1p f1p) := (K_p.out.below B_p.out K_p.out.lt).cell 0
                have c_p1 : w23.cell? ⟨Gp, 1, none⟩ = some (.slice o2p n2p f2p) := (K_p.out.below B_p.out K_p.out.lt).cell 1
                have c_p2 : w23.cell? ⟨Gp, 2, none⟩ = some (.slice o3p n3p f3p) := (K_p.out.below B_p.out K_p.out.lt).cell 2
                have L := below_any a m_p w23 (R_a.out.later B_a.out) (R_p.out.later B_p.out) S_a.out S_p.out
                rw [E_a.out, E_p.out, show belowB a.mk_ m_p.mk_ = true from by rw [HP.out.1]; exact belowB_iff.2 (ack_le _ _)] at L
                have L := Lib.hid L
                go_wp2_with fail
                refine L.out.mono ?_
                rintro e w24 ⟨rfl, hb⟩
                clear c_a0 c_a1 c_a2 c_p0 c_p1 c_p2 L
                have B_a := Lib.hid (B_a.out.trans (hb.mono B_a.out.size))
                have B_b := Lib.hid (B_b.out.trans (hb.mono B_b.out.size))
                have B_x := Lib.hid (B_x.out.trans (hb.mono B_x.out.size))
                have B_y := Lib.hid (B_y.out.trans (hb.mono B_y.out.size))
                have B_u := Lib.hid (B_u.out.trans (hb.mono B_u.out.size))
                have B_p := Lib.hid (B_p.out.trans (hb.mono B_p.out.size))
                have B_q := Lib.hid (B_q.out.trans (hb.mono B_q.out.size))
                have HW := Lib.hid (HW.out.trans (hb.mono HW.out.size))
                clear hb
                have c_p0 : w24.cell? ⟨Gp, 0, none⟩ = some (.slice o1p n1p f1p) := (K_p.out.below B_p.out K_p.out.lt).cell 0
                have c_p1 : w24.cell? ⟨Gp, 1, none⟩ = some (.slice o2p n2p f2p) := (K_p.out.below B_p.out K_p.out.lt).cell 1
                have c_p2 : w24.cell? ⟨Gp, 2, none⟩ = some (.slice o3p n3p f3p) := (K_p.out.below B_p.out K_p.out.lt).cell 2
                have L := Mk.good_any m_p w24 (R_p.out.later B_p.out) S_p.out.2.2.2
                rw [E_p.out, HGP.out] at L
                have L := Lib.hid L
                go_wp2_with fail
                refine L.out.mono ?_
                rintro e w25 ⟨rfl, hb⟩
                clear c_p0 c_p1 c_p2 L
                have B_a := Lib.hid (B_a.out.trans (hb.mono B_a.out.size))
                have B_b := Lib.hid (B_b.out.trans (hb.mono B_b.out.size))
                have B_x := Lib.hid (B_x.out.trans (hb.mono B_x.out.size))
                have B_y := Lib.hid (B_y.out.trans (hb.mono B_y.out.size))
                have B_u := Lib.hid (B_u.out.trans (hb.mono B_u.out.size))
                have B_p := Lib.hid (B_p.out.trans (hb.mono B_p.out.size))
                have B_q := Lib.hid (B_q.out.trans (hb.mono B_q.out.size))
                have HW := Lib.hid (HW.out.trans (hb.mono HW.out.size))
                clear hb
                go_wp2_with fail
                go_ret
                exact ⟨rfl, HW.out⟩
              subst he
              have HO := Lib.hid (jout_ok J_u.out)
              have HGU := Lib.hid (jm_good HO.out.1.1 HO.out.1.2 HO.out.2.1 HO.out.2.2)
              go_upto_region 14 with (fail)
              have c_u0 : W18.cell? ⟨Gu, 0, none⟩ = some (.slice o1u n1u f1u) := (K_u.out.below B_u.out K_u.out.lt).cell 0
              have c_u1 : W18.cell? ⟨Gu, 1, none⟩ = some (.slice o2u n2u f2u) := (K_u.out.below B_u.out K_u.out.lt).cell 1
              have c_u2 : W18.cell? ⟨Gu, 2, none⟩ = some (.slice o3u n3u f3u) := (K_u.out.below B_u.out K_u.out.lt).cell 2
              have c_b0 : W18.cell? ⟨B + 1, 0, none⟩ = some (.slice o1b n1b f1b) := (K_b.out.below B_b.out K_b.out.lt).cell 0
              have c_b1 : W18.cell? ⟨B + 1, 1, none⟩ = some (.slice o2b n2b f2b) := (K_b.out.below B_b.out K_b.out.lt).cell 1
              have c_b2 : W18.cell? ⟨B + 1, 2, none⟩ = some (.slice o3b n3b f3b) := (K_b.out.below B_b.out K_b.out.lt).cell 2
              have J := join_any m_u b W18 (R_u.out.later B_u.out) (R_b.out.later B_b.out) S_u.out S_b.out
              rw [E_u.out, E_b.out] at J
              have J := Lib.hid J
              go_wp2_with fail
              refine J.out.mono ?_
              rintro e w19 ⟨m_v, c_v, rfl, hr, hb, hj⟩
              clear c_u0 c_u1 c_u2 c_b0 c_b1 c_b2 J
              have B_a := Lib.hid (B_a.out.trans (hb.mono B_a.out.size))
              have B_b := Lib.hid (B_b.out.trans (hb.mono B_b.out.size))
              have B_x := Lib.hid (B_x.out.trans (hb.mono B_x.out.size))
              have B_y := Lib.hid (B_y.out.trans (hb.mono B_y.out.size))
              have B_u := Lib.hid (B_u.out.trans (hb.mono B_u.out.size))
              have HW := Lib.hid (HW.out.trans (hb.mono HW.out.size))
              have J_v := Lib.hid hj
              have R_v := Lib.hid hr
              obtain ⟨o1v, n1v, f1v, o2v, n2v, f2v, o3v, n3v, f3v, eM⟩ := mk_form hr
              rw [eM]
              have E_v := Lib.hid eM
              clear hr hb hj eM
              obtain ⟨W20, hWW⟩ : ∃ X, X = w19.alloc (.cells #[.slice o1v n1v f1v, .slice o2v n2v f2v, .slice o3v n3v f3v] 26) := ⟨_, rfl⟩
              obtain ⟨Gv, hGG⟩ : ∃ X, X = w19.heap.size := ⟨_, rfl⟩
              have hba : Below w19.heap.size w19 W20 := by rw [hWW]; exact (Below.refl _ _).alloc (Nat.le_refl _) _
              have K_v := Lib.hid (show BlkIs W20 Gv 26 #[.slice o1v n1v f1v, .slice o2v n2v f2v, .slice o3v n3v f3v] by rw [hWW, hGG]; exact BlkIs.new _ _ _)
              have R_v := Lib.hid (show MkR.Reads W20 m_v from R_v.out.later hba)
              have HWW := Lib.hid (And.intro hWW hGG)
              have B_a := Lib.hid (B_a.out.trans (hba.mono B_a.out.size))
              have B_b := Lib.hid (B_b.out.trans (hba.mono B_b.out.size))
              have B_x := Lib.hid (B_x.out.trans (hba.mono B_x.out.size))
              have B_y := Lib.hid (B_y.out.trans (hba.mono B_y.out.size))
              have B_u := Lib.hid (B_u.out.trans (hba.mono B_u.out.size))
              have HW := Lib.hid (HW.out.trans (hba.mono HW.out.size))
              have B_v := Lib.hid (Below.refl W20.heap.size W20)
              clear hWW hGG hba
              go_upto_region 15 with (fail)
              rw [← HWW.out.1, ← HWW.out.2]
              clear HWW
              have hv := jout_unique J_v.out (jout_comm (jout_le GD_b.out HGU.out (jm_right GD_b.out HO.out.2.1)))
              have HV := Lib.hid hv
              obtain ⟨-, rfl⟩ := hv
              have S_v := Lib.hid (jout_small J_v.out)
              have c_v0 : W20.cell? ⟨Gv, 0, none⟩ = some (.slice o1v n1v f1v) := (K_v.out.below B_v.out K_v.out.lt).cell 0
              have c_v1 : W20.cell? ⟨Gv, 1, none⟩ = some (.slice o2v n2v f2v) := (K_v.out.below B_v.out K_v.out.lt).cell 1
              have c_v2 : W20.cell? ⟨Gv, 2, none⟩ = some (.slice o3v n3v f3v) := (K_v.out.below B_v.out K_v.out.lt).cell 2
              have c_u0 : W20.cell? ⟨Gu, 0, none⟩ = some (.slice o1u n1u f1u) := (K_u.out.below B_u.out K_u.out.lt).cell 0
              have c_u1 : W20.cell? ⟨Gu, 1, none⟩ = some (.slice o2u n2u f2u) := (K_u.out.below B_u.out K_u.out.lt).cell 1
              have c_u2 : W20.cell? ⟨Gu, 2, none⟩ = some (.slice o3u n3u f3u) := (K_u.out.below B_u.out K_u.out.lt).cell 2
              have L := Mk.same_any' m_v m_u W20 (R_v.out.later B_v.out) (R_u.out.later B_u.out) S_v.out S_u.out
              rw [E_v.out, E_u.out, HV.out.1, eqB_yes rfl] at L
              have L := Lib.hid L
              go_wp2_with fail
              refine L.out.mono ?_
              rintro e w21 ⟨rfl, hb⟩
              clear c_v0 c_v1 c_v2 c_u0 c_u1 c_u2 L
              have B_a := Lib.hid (B_a.out.trans (hb.mono B_a.out.size))
              have B_b := Lib.hid (B_b.out.trans (hb.mono B_b.out.size))
              have B_x := Lib.hid (B_x.out.trans (hb.mono B_x.out.size))
              have B_y := Lib.hid (B_y.out.trans (hb.mono B_y.out.size))
              have B_u := Lib.hid (B_u.out.trans (hb.mono B_u.out.size))
              have B_v := Lib.hid (B_v.out.trans (hb.mono B_v.out.size))
              have HW := Lib.hid (HW.out.trans (hb.mono HW.out.size))
              clear hb
              obtain ⟨nd, hnd⟩ : ∃ nd : Int, nd = wrap64 (1 + wrap64 ((IntKind.u64.wrap node).tmod 7)) := ⟨_, rfl⟩
              have HND := Lib.hid (show 1 ≤ nd ∧ nd ≤ 7 from by rw [hnd]; exact node_in node)
              go_upto_region 18 with (fail)
              rw [← hnd]
              clear hnd
              have c_a0 : w21.cell? ⟨B, 0, none⟩ = some (.slice o1a n1a f1a) := (K_a.out.below B_a.out K_a.out.lt).cell 0
              have c_a1 : w21.cell? ⟨B, 1, none⟩ = some (.slice o2a n2a f2a) := (K_a.out.below B_a.out K_a.out.lt).cell 1
              have c_a2 : w21.cell? ⟨B, 2, none⟩ = some (.slice o3a n3a f3a) := (K_a.out.below B_a.out K_a.out.lt).cell 2
              have J := ack_any a nd w21 (R_a.out.later B_a.out) S_a.out
              rw [E_a.out] at J
              have J := Lib.hid J
              go_wp2_with fail
              refine J.out.mono ?_
              rintro e w22 ⟨m_p, c_p, rfl, hr, hb, hj⟩
              clear c_a0 c_a1 c_a2 J
              have B_a := Lib.hid (B_a.out.trans (hb.mono B_a.out.size))
              have B_b := Lib.hid (B_b.out.trans (hb.mono B_b.out.size))
              have B_x := Lib.hid (B_x.out.trans (hb.mono B_x.out.size))
              have B_y := Lib.hid (B_y.out.trans (hb.mono B_y.out.size))
              have B_u := Lib.hid (B_u.out.trans (hb.mono B_u.out.size))
              have B_v := Lib.hid (B_v.out.trans (hb.mono B_v.out.size))
              have HW := Lib.hid (HW.out.trans (hb.mono HW.out.size))
              have J_p := Lib.hid hj
              have R_p := Lib.hid hr
              obtain ⟨o1p, n1p, f1p, o2p, n2p, f2p, o3p, n3p, f3p, eM⟩ := mk_form hr
              rw [eM]
              have E_p := Lib.hid eM
              clear hr hb hj eM
              obtain ⟨W23, hWW⟩ : ∃ X, X = w22.alloc (.cells #[.slice o1p n1p f1p, .slice o2p n2p f2p, .slice o3p n3p f3p] 26) := ⟨_, rfl⟩
              obtain ⟨Gp, hGG⟩ : ∃ X, X = w22.heap.size := ⟨_, rfl⟩
              have hba : Below w22.heap.size w22 W23 := by rw [hWW]; exact (Below.refl _ _).alloc (Nat.le_refl _) _
              have K_p := Lib.hid (show BlkIs W23 Gp 26 #[.slice o1p n1p f1p, .slice o2p n2p f2p, .slice o3p n3p f3p] by rw [hWW, hGG]; exact BlkIs.new _ _ _)
              have R_p := Lib.hid (show MkR.Reads W23 m_p from R_p.out.later hba)
              have HWW := Lib.hid (And.intro hWW hGG)
              have B_a := Lib.hid (B_a.out.trans (hba.mono B_a.out.size))
              have B_b := Lib.hid (B_b.out.trans (hba.mono B_b.out.size))
              have B_x := Lib.hid (B_x.out.trans (hba.mono B_x.out.size))
              have B_y := Lib.hid (B_y.out.trans (hba.mono B_y.out.size))
              have B_u := Lib.hid (B_u.out.trans (hba.mono B_u.out.size))
              have B_v := Lib.hid (B_v.out.trans (hba.mono B_v.out.size))
              have HW := Lib.hid (HW.out.trans (hba.mono HW.out.size))
              have B_p := Lib.hid (Below.refl W23.heap.size W23)
              clear hWW hGG hba
              go_upto_region 19 with (fail)
              rw [← HWW.out.1, ← HWW.out.2]
              clear HWW
              have hp := aout_ok J_p.out GD_a.out HND.out
              have HP := Lib.hid hp
              obtain ⟨-, rfl⟩ := hp
              have HGP := Lib.hid (show goodB m_p.mk_ = true from by rw [HP.out.1]; exact ack_good GD_a.out HND.out)
              have S_p := Lib.hid (good_small' HGP.out)
              have c_p0 : W23.cell? ⟨Gp, 0, none⟩ = some (.slice o1p n1p f1p) := (K_p.out.below B_p.out K_p.out.lt).cell 0
              have c_p1 : W23.cell? ⟨Gp, 1, none⟩ = some (.slice o2p n2p f2p) := (K_p.out.below B_p.out K_p.out.lt).cell 1
              have c_p2 : W23.cell? ⟨Gp, 2, none⟩ = some (.slice o3p n3p f3p) := (K_p.out.below B_p.out K_p.out.lt).cell 2
              have J := ack_any m_p nd W23 (R_p.out.later B_p.out) S_p.out
              rw [E_p.out] at J
              have J := Lib.hid J
              go_wp2_with fail
              refine J.out.mono ?_
              rintro e w24 ⟨m_q, c_q, rfl, hr, hb, hj⟩
              clear c_p0 c_p1 c_p2 J
              have B_a := Lib.hid (B_a.out.trans (hb.mono B_a.out.size))
              have B_b := Lib.hid (B_b.out.trans (hb.mono B_b.out.size))
              have B_x := Lib.hid (B_x.out.trans (hb.mono B_x.out.size))
              have B_y := Lib.hid (B_y.out.trans (hb.mono B_y.out.size))
              have B_u := Lib.hid (B_u.out.trans (hb.mono B_u.out.size))
              have B_v := Lib.hid (B_v.out.trans (hb.mono B_v.out.size))
              have B_p := Lib.hid (B_p.out.trans (hb.mono B_p.out.size))
              have HW := Lib.hid (HW.out.trans (hb.mono HW.out.size))
              have J_q := Lib.hid hj
              have R_q := Lib.hid hr
              obtain ⟨o1q, n1q, f1q, o2q, n2q, f2q, o3q, n3q, f3q, eM⟩ := mk_form hr
              rw [eM]
              have E_q := Lib.hid eM
              clear hr hb hj eM
              obtain ⟨W25, hWW⟩ : ∃ X, X = w24.alloc (.cells #[.slice o1q n1q f1q, .slice o2q n2q f2q, .slice o3q n3q f3q] 26) := ⟨_, rfl⟩
              obtain ⟨Gq, hGG⟩ : ∃ X, X = w24.heap.size := ⟨_, rfl⟩
              have hba : Below w24.heap.size w24 W25 := by rw [hWW]; exact (Below.refl _ _).alloc (Nat.le_refl _) _
              have K_q := Lib.hid (show BlkIs W25 Gq 26 #[.slice o1q n1q f1q, .slice o2q n2q f2q, .slice o3q n3q f3q] by rw [hWW, hGG]; exact BlkIs.new _ _ _)
              have R_q := Lib.hid (show MkR.Reads W25 m_q from R_q.out.later hba)
              have HWW := Lib.hid (And.intro hWW hGG)
              have B_a := Lib.hid (B_a.out.trans (hba.mono B_a.out.size))
              have B_b := Lib.hid (B_b.out.trans (hba.mono B_b.out.size))
              have B_x := Lib.hid (B_x.out.trans (hba.mono B_x.out.size))
              have B_y := Lib.hid (B_y.out.trans (hba.mono B_y.out.size))
              have B_u := Lib.hid (B_u.out.trans (hba.mono B_u.out.size))
              have B_v := Lib.hid (B_v.out.trans (hba.mono B_v.out.size))
              have B_p := Lib.hid (B_p.out.trans (hba.mono B_p.out.size))
              have HW := Lib.hid (HW.out.trans (hba.mono HW.out.size))
              have B_q := Lib.hid (Below.refl W25.heap.size W25)
              clear hWW hGG hba
              go_upto_region 20 with (fail)
              rw [← HWW.out.1, ← HWW.out.2]
              clear HWW
              have hq := aout_ok J_q.out HGP.out HND.out
              have HQ := Lib.hid (show m_q.mk_ = m_p.mk_ from by rw [hq.1, HP.out.1, ack_again])
              obtain ⟨-, rfl⟩ := hq
              have S_q := Lib.hid (good_small' (show goodB m_q.mk_ = true from by rw [HQ.out]; exact HGP.out))
              have c_p0 : W25.cell? ⟨Gp, 0, none⟩ = some (.slice o1p n1p f1p) := (K_p.out.below B_p.out K_p.out.lt).cell 0
              have c_p1 : W25.cell? ⟨Gp, 1, none⟩ = some (.slice o2p n2p f2p) := (K_p.out.below B_p.out K_p.out.lt).cell 1
              have c_p2 : W25.cell? ⟨Gp, 2, none⟩ = some (.slice o3p n3p f3p) := (K_p.out.below B_p.out K_p.out.lt).cell 2
              have c_q0 : W25.cell? ⟨Gq, 0, none⟩ = some (.slice o1q n1q f1q) := (K_q.out.below B_q.out K_q.out.lt).cell 0
              have c_q1 : W25.cell? ⟨Gq, 1, none⟩ = some (.slice o2q n2q f2q) := (K_q.out.below B_q.out K_q.out.lt).cell 1
              have c_q2 : W25.cell? ⟨Gq, 2, none⟩ = some (.slice o3q n3q f3q) := (K_q.out.below B_q.out K_q.out.lt).cell 2
              have L := Mk.same_any' m_p m_q W25 (R_p.out.later B_p.out) (R_q.out.later B_q.out) S_p.out S_q.out
              rw [E_p.out, E_q.out, HQ.out, eqB_yes rfl] at L
              have L := Lib.hid L
              go_wp2_with fail
              refine L.out.mono ?_
              rintro e w26 ⟨rfl, hb⟩
              clear c_p0 c_p1 c_p2 c_q0 c_q1 c_q2 L
              have B_a := Lib.hid (B_a.out.trans (hb.mono B_a.out.size))
              have B_b := Lib.hid (B_b.out.trans (hb.mono B_b.out.size))
              have B_x := Lib.hid (B_x.out.trans (hb.mono B_x.out.size))
              have B_y := Lib.hid (B_y.out.trans (hb.mono B_y.out.size))
              have B_u := Lib.hid (B_u.out.trans (hb.mono B_u.out.size))
              have B_v := Lib.hid (B_v.out.trans (hb.mono B_v.out.size))
              have B_p := Lib.hid (B_p.out.trans (hb.mono B_p.out.size))
              have B_q := Lib.hid (B_q.out.trans (hb.mono B_q.out.size))
              have HW := Lib.hid (HW.out.trans (hb.mono HW.out.size))
              clear hb
              have c_a0 : w26.cell? ⟨B, 0, none⟩ = some (.slice o1a n1a f1a) := (K_a.out.below B_a.out K_a.out.lt).cell 0
              have c_a1 : w26.cell? ⟨B, 1, none⟩ = some (.slice o2a n2a f2a) := (K_a.out.below B_a.out K_a.out.lt).cell 1
              have c_a2 : w26.cell? ⟨B, 2, none⟩ = some (.slice o3a n3a f3a) := (K_a.out.below B_a.out K_a.out.lt).cell 2
              have c_p0 : w26.cell? ⟨Gp, 0, none⟩ = some (.slice o1p n1p f1p) := (K_p.out.below B_p.out K_p.out.lt).cell 0
              have c_p1 : w26.cell? ⟨Gp, 1, none⟩ = some (.slice o2p n2p f2p) := (K_p.out.below B_p.out K_p.out.lt).cell 1
              have c_p2 : w26.cell? ⟨Gp, 2, none⟩ = some (.slice o3p n3p f3p) := (K_p.out.below B_p.out K_p.out.lt).cell 2
              have L := below_any a m_p w26 (R_a.out.later B_a.out) (R_p.out.later B_p.out) S_a.out S_p.out
              rw [E_a.out, E_p.out, show belowB a.mk_ m_p.mk_ = true from by rw [HP.out.1]; exact belowB_iff.2 (ack_le _ _)] at L
              have L := Lib.hid L
              go_wp2_with fail
              refine L.out.mono ?_
              rintro e w27 ⟨rfl, hb⟩
              clear c_a0 c_a1 c_a2 c_p0 c_p1 c_p2 L
              have B_a := Lib.hid (B_a.out.trans (hb.mono B_a.out.size))
              have B_b := Lib.hid (B_b.out.trans (hb.mono B_b.out.size))
              have B_x := Lib.hid (B_x.out.trans (hb.mono B_x.out.size))
              have B_y := Lib.hid (B_y.out.trans (hb.mono B_y.out.size))
              have B_u := Lib.hid (B_u.out.trans (hb.mono B_u.out.size))
              have B_v := Lib.hid (B_v.out.trans (hb.mono B_v.out.size))
              have B_p := Lib.hid (B_p.out.trans (hb.mono B_p.out.size))
              have B_q := Lib.hid (B_q.out.trans (hb.mono B_q.out.size))
              have HW := Lib.hid (HW.out.trans (hb.mono HW.out.size))
              clear hb
              have c_p0 : w27.cell? ⟨Gp, 0, none⟩ = some (.slice o1p n1p f1p) := (K_p.out.below B_p.out K_p.out.lt).cell 0
              have c_p1 : w27.cell? ⟨Gp, 1, none⟩ = some (.slice o2p n2p f2p) := (K_p.out.below B_p.out K_p.out.lt).cell 1
              have c_p2 : w27.cell? ⟨Gp, 2, none⟩ = some (.slice o3p n3p f3p) := (K_p.out.below B_p.out K_p.out.lt).cell 2
              have L := Mk.good_any m_p w27 (R_p.out.later B_p.out) S_p.out.2.2.2
              rw [E_p.out, HGP.out] at L
              have L := Lib.hid L
              go_wp2_with fail
              refine L.out.mono ?_
              rintro e w28 ⟨rfl, hb⟩
              clear c_p0 c_p1 c_p2 L
              have B_a := Lib.hid (B_a.out.trans (hb.mono B_a.out.size))
              have B_b := Lib.hid (B_b.out.trans (hb.mono B_b.out.size))
              have B_x := Lib.hid (B_x.out.trans (hb.mono B_x.out.size))
              have B_y := Lib.hid (B_y.out.trans (hb.mono B_y.out.size))
              have B_u := Lib.hid (B_u.out.trans (hb.mono B_u.out.size))
              have B_v := Lib.hid (B_v.out.trans (hb.mono B_v.out.size))
              have B_p := Lib.hid (B_p.out.trans (hb.mono B_p.out.size))
              have B_q := Lib.hid (B_q.out.trans (hb.mono B_q.out.size))
              have HW := Lib.hid (HW.out.trans (hb.mono HW.out.size))
              clear hb
              go_wp2_with fail
              go_ret
              exact ⟨rfl, HW.out⟩
end Go.Proofs.YtbmknmjcoeinkaaGreat.Mg
