/- The law MergeSure, walked: what is sure stays so. Printed by gen_mglaws.py. (Layer 13.) -/
import Derived.Test.YtbmknmjcoeinkaaGreatMgLaw2
import Derived.Test.YtbmknmjcoeinkaaGreatMgLv
namespace Go.Proofs.YtbmknmjcoeinkaaGreat.Mg
set_option linter.unusedVariables false
set_option linter.unusedSimpArgs false
open Go.RowKit Go.Lib
open Mk (Rf Tok Tb TbR Mks MkR aMk aTb vTok vTb eqB eqB_yes eqB_no goodB sureB covB liveL)
open Set (El)
theorem node_in (node : Int) : 1 ≤ wrap64 (1 + wrap64 ((IntKind.u64.wrap node).tmod 7)) ∧ wrap64 (1 + wrap64 ((IntKind.u64.wrap node).tmod 7)) ≤ 7 := by
  have h : 0 ≤ IntKind.u64.wrap node := by
    show 0 ≤ node % _
    exact Int.emod_nonneg _ (by decide)
  rw [Int.tmod_eq_emod_of_nonneg h]
  unfold wrap64
  omega
theorem len_sub : ∀ {l m : List Int}, l.Pairwise El.lt → (∀ x ∈ l, x ∈ m) → l.length ≤ m.length
  | [], m, _, _ => Nat.zero_le _
  | x :: l, m, hp, hs => by
    obtain ⟨h1, h2⟩ := List.pairwise_cons.1 hp
    have hx : x ∈ m := hs x (List.mem_cons_self)
    have h3 := len_sub (m := m.erase x) h2 fun y hy => (List.mem_erase_of_ne (fun e => by have := h1 y hy; rw [e] at this; exact El.irr _ this)).2 (hs y (List.mem_cons_of_mem _ hy))
    rw [List.length_erase_of_mem hx] at h3
    have := List.length_pos_of_mem hx
    rw [List.length_cons]
    omega
theorem tb_trans {a b c : List Tb} (h : Bl lTb a b) (k : Bl lTb b c) : Bl lTb a c := fun x hx => by
  obtain ⟨y, hy, h1, h2, h3, h4⟩ := h x hx
  obtain ⟨z, hz, k1, k2, k3, k4⟩ := k y hy
  exact ⟨z, hz, h1.trans k1, h2.trans k2, h3.trans k3, fun n hn => k4 n (h4 n hn)⟩
/-- What is sure stays so. -/
theorem sure_stays {a m : Mks} (ga : goodB a = true) (h : Bl lTb a.tombs m.tombs) {x : Tb} (hx : x ∈ a.tombs) {n : Int} (hs : sureB x n = true) : ∃ y ∈ m.tombs, y.node = x.node ∧ y.n = x.n ∧ y.cov = x.cov ∧ sureB y n = true := by
  obtain ⟨y, hy, h1, h2, h3, h4⟩ := h x hx
  obtain ⟨e1, e2⟩ := Prod.mk.inj h1
  refine ⟨y, hy, e1.symm, e2.symm, h3.symm, ?_⟩
  have hl := len_sub (good_acks ga hx) h4
  unfold sureB at hs ⊢
  rw [decide_eq_true_iff] at hs ⊢
  omega
theorem not_live {m : Mks} {x : Tb} {n : Int} (h : ∃ y ∈ m.tombs, y.node = x.node ∧ y.n = x.n ∧ y.cov = x.cov ∧ sureB y n = true) {c : Tok} (hc : c ∈ x.cov) {q : Tok} (hq : q ∈ liveL m n) : q ≠ c := by
  rintro rfl
  obtain ⟨y, hy, -, -, e3, e4⟩ := h
  unfold liveL at hq
  have h1 := (List.mem_filter.1 hq).2
  have h2 : covB m.tombs n q = true := by
    unfold covB
    rw [List.any_eq_true]
    refine ⟨y, hy, ?_⟩
    rw [e4, Bool.true_and, List.any_eq_true]
    exact ⟨q, by rw [e3]; exact hc, eqB_yes rfl⟩
  rw [h2] at h1
  cases h1
def hitB (x : Tb) (n : Int) (z : TbR) : Bool := z.t.node == x.node && (z.t.n == x.n && sureB z.t n)
theorem reads3s {w : World} {m : MkR} {g : Nat} {cs : Array Value} (h : m.Reads w) (hb : BlkIs w g 26 cs) (hs : Slices cs) (p1 p2 p3 : Option Addr) (n1 f1 n2 f2 n3 f3 : Nat) : m.Reads (((w.setCell ⟨g, 0, none⟩ (.slice p1 n1 f1)).setCell ⟨g, 1, none⟩ (.slice p2 n2 f2)).setCell ⟨g, 2, none⟩ (.slice p3 n3 f3)) := by
  have s1 := slices_put hs 0 p1 n1 f1
  have s2 := slices_put s1 1 p2 n2 f2
  exact reads_put (reads_put (reads_put h hb hs 0 _) (hb.put 0 _) s1 1 _) ((hb.put 0 _).put 1 _) s2 2 _
set_option maxRecDepth 100000 in
set_option maxHeartbeats 8000000 in
theorem sure_law (a b : MkR) (t0 t1 : Int) (w : World) (ha : a.Reads w ∧ a.Sized) (hb : b.Reads w ∧ b.Sized) : Calls Tryz.prog 8 #[aMk a, aMk b, .agg #[.int .i64 t0, .int .i64 t1]] w fun e w' => e = .returned (.bool true) ∧ Below w.heap.size w w' := by
  obtain ⟨o1a, n1a, f1a, o2a, n2a, f2a, o3a, n3a, f3a, ea⟩ := mk_form ha.1
  obtain ⟨o1b, n1b, f1b, o2b, n2b, f2b, o3b, n3b, f3b, eb⟩ := mk_form hb.1
  have hta : a.bv = .slice o3a n3a f3a := by
    unfold aMk at ea
    injection ea with h
    simp at h
    exact h.2.2
  obtain ⟨B, hB⟩ : ∃ B, B = w.heap.size := ⟨_, rfl⟩
  obtain ⟨W0, hW0⟩ : ∃ W0, W0 = (((w.alloc (.cells #[.slice o1a n1a f1a, .slice o2a n2a f2a, .slice o3a n3a f3a] 26)).alloc (.cells #[.slice o1b n1b f1b, .slice o2b n2b f2b, .slice o3b n3b f3b] 26)).alloc (.cells #[.int .i64 t0, .int .i64 t1] 38)) := ⟨_, rfl⟩
  have K_a := Lib.hid (show BlkIs W0 (B) 26 #[.slice o1a n1a f1a, .slice o2a n2a f2a, .slice o3a n3a f3a] by rw [hW0, hB]; exact BlkIs.alloc (BlkIs.alloc (blk_newAt (by simp) _ _) _) _)
  have K_b := Lib.hid (show BlkIs W0 (B + 1) 26 #[.slice o1b n1b f1b, .slice o2b n2b f2b, .slice o3b n3b f3b] by rw [hW0, hB]; exact BlkIs.alloc (blk_newAt (by simp) _ _) _)
  have K_t := Lib.hid (show BlkIs W0 (B + 1 + 1) 38 #[.int .i64 t0, .int .i64 t1] by rw [hW0, hB]; exact blk_newAt (by simp) _ _)
  have HW := Lib.hid (show Below w.heap.size w W0 by rw [hW0]; exact (((Below.refl _ _).alloc (Nat.le_refl _) _).alloc (by simp) _).alloc (by simp; omega) _)
  have B_t := Lib.hid (Below.refl W0.heap.size W0)
  have HWZ := Lib.hid HW.out
  have TA := Lib.hid hta
  have R_a := Lib.hid (ha.1.later HW.out)
  have Z_a := Lib.hid ha.2
  have B_a := Lib.hid (Below.refl W0.heap.size W0)
  have E_a := Lib.hid ea
  have R_b := Lib.hid (hb.1.later HW.out)
  have Z_b := Lib.hid hb.2
  have B_b := Lib.hid (Below.refl W0.heap.size W0)
  have E_b := Lib.hid eb
  rw [ea, eb]
  have H0 := Lib.hid (And.intro hW0 hB)
  clear hW0 hB ea eb ha hb hta
  go_enter Tryz.func8, Tryz.ntmps8
  go_upto_region 1 with (fail)
  rw [← H0.out.2, ← H0.out.1]
  clear H0
  have L := Lib.hid (awake_any W0)
  go_wp2_with fail
  refine L.out.mono ?_
  rintro e w1 ⟨rfl, hb⟩
  clear L
  have B_a := Lib.hid (B_a.out.trans (hb.mono B_a.out.size))
  have B_b := Lib.hid (B_b.out.trans (hb.mono B_b.out.size))
  have B_t := Lib.hid (B_t.out.trans (hb.mono B_t.out.size))
  have HW := Lib.hid (HW.out.trans (hb.mono HW.out.size))
  clear hb
  have c_a0 : w1.cell? ⟨B, 0, none⟩ = some (.slice o1a n1a f1a) := (K_a.out.below B_a.out K_a.out.lt).cell 0
  have c_a1 : w1.cell? ⟨B, 1, none⟩ = some (.slice o2a n2a f2a) := (K_a.out.below B_a.out K_a.out.lt).cell 1
  have c_a2 : w1.cell? ⟨B, 2, none⟩ = some (.slice o3a n3a f3a) := (K_a.out.below B_a.out K_a.out.lt).cell 2
  have L := Mk.great_any a w1 (R_a.out.later B_a.out) Z_a.out
  rw [E_a.out] at L
  have L := Lib.hid L
  go_wp2_with fail
  refine L.out.mono ?_
  rintro e w2 ⟨⟨v, rfl, hv⟩, hb⟩
  clear c_a0 c_a1 c_a2 L
  have B_a := Lib.hid (B_a.out.trans (hb.mono B_a.out.size))
  have B_b := Lib.hid (B_b.out.trans (hb.mono B_b.out.size))
  have B_t := Lib.hid (B_t.out.trans (hb.mono B_t.out.size))
  have HW := Lib.hid (HW.out.trans (hb.mono HW.out.size))
  clear hb
  cases v with
  | true =>
    clear hv
    go_wp2_with fail
    go_ret
    exact ⟨rfl, HW.out⟩
  | false =>
    have S_a := Lib.hid (hv rfl).small
    clear hv
    have c_b0 : w2.cell? ⟨B + 1, 0, none⟩ = some (.slice o1b n1b f1b) := (K_b.out.below B_b.out K_b.out.lt).cell 0
    have c_b1 : w2.cell? ⟨B + 1, 1, none⟩ = some (.slice o2b n2b f2b) := (K_b.out.below B_b.out K_b.out.lt).cell 1
    have c_b2 : w2.cell? ⟨B + 1, 2, none⟩ = some (.slice o3b n3b f3b) := (K_b.out.below B_b.out K_b.out.lt).cell 2
    have L := Mk.great_any b w2 (R_b.out.later B_b.out) Z_b.out
    rw [E_b.out] at L
    have L := Lib.hid L
    go_wp2_with fail
    refine L.out.mono ?_
    rintro e w3 ⟨⟨v, rfl, hv⟩, hb⟩
    clear c_b0 c_b1 c_b2 L
    have B_a := Lib.hid (B_a.out.trans (hb.mono B_a.out.size))
    have B_b := Lib.hid (B_b.out.trans (hb.mono B_b.out.size))
    have B_t := Lib.hid (B_t.out.trans (hb.mono B_t.out.size))
    have HW := Lib.hid (HW.out.trans (hb.mono HW.out.size))
    clear hb
    cases v with
    | true =>
      clear hv
      go_wp2_with fail
      go_ret
      exact ⟨rfl, HW.out⟩
    | false =>
      have S_b := Lib.hid (hv rfl).small
      clear hv
      have c_t0 : w3.cell? ⟨B + 1 + 1, 0, none⟩ = some (.int .i64 t0) := (K_t.out.below B_t.out K_t.out.lt).cell 0
      obtain ⟨nd, hnd⟩ : ∃ nd : Int, nd = wrap64 (1 + wrap64 ((IntKind.u64.wrap t0).tmod 7)) := ⟨_, rfl⟩
      go_upto_region 6 with (fail)
      rw [← hnd]
      clear hnd
      clear c_t0
      have c_a0 : w3.cell? ⟨B, 0, none⟩ = some (.slice o1a n1a f1a) := (K_a.out.below B_a.out K_a.out.lt).cell 0
      have c_a1 : w3.cell? ⟨B, 1, none⟩ = some (.slice o2a n2a f2a) := (K_a.out.below B_a.out K_a.out.lt).cell 1
      have c_a2 : w3.cell? ⟨B, 2, none⟩ = some (.slice o3a n3a f3a) := (K_a.out.below B_a.out K_a.out.lt).cell 2
      have c_b0 : w3.cell? ⟨B + 1, 0, none⟩ = some (.slice o1b n1b f1b) := (K_b.out.below B_b.out K_b.out.lt).cell 0
      have c_b1 : w3.cell? ⟨B + 1, 1, none⟩ = some (.slice o2b n2b f2b) := (K_b.out.below B_b.out K_b.out.lt).cell 1
      have c_b2 : w3.cell? ⟨B + 1, 2, none⟩ = some (.slice o3b n3b f3b) := (K_b.out.below B_b.out K_b.out.lt).cell 2
      have J := join_any a b w3 (R_a.out.later B_a.out) (R_b.out.later B_b.out) S_a.out S_b.out
      rw [E_a.out, E_b.out] at J
      have J := Lib.hid J
      go_wp2_with fail
      refine J.out.mono ?_
      rintro e w4 ⟨m_m, c_m, rfl, hr, hb, hj⟩
      clear c_a0 c_a1 c_a2 c_b0 c_b1 c_b2 J
      have B_a := Lib.hid (B_a.out.trans (hb.mono B_a.out.size))
      have B_b := Lib.hid (B_b.out.trans (hb.mono B_b.out.size))
      have B_t := Lib.hid (B_t.out.trans (hb.mono B_t.out.size))
      have HW := Lib.hid (HW.out.trans (hb.mono HW.out.size))
      have J_m := Lib.hid hj
      have R_m := Lib.hid hr
      obtain ⟨o1m, n1m, f1m, o2m, n2m, f2m, o3m, n3m, f3m, eM⟩ := mk_form hr
      rw [eM]
      have E_m := Lib.hid eM
      clear hr hb hj eM
      obtain ⟨W5, hWW⟩ : ∃ X, X = w4.alloc (.cells #[.slice o1m n1m f1m, .slice o2m n2m f2m, .slice o3m n3m f3m] 26) := ⟨_, rfl⟩
      obtain ⟨Gm, hGG⟩ : ∃ X, X = w4.heap.size := ⟨_, rfl⟩
      have B_m0 := Lib.hid (show W0.heap.size ≤ Gm by rw [hGG]; exact B_a.out.size)
      have HW0 := Lib.hid (show w.heap.size ≤ W0.heap.size from HWZ.out.size)
      have hba : Below w4.heap.size w4 W5 := by rw [hWW]; exact (Below.refl _ _).alloc (Nat.le_refl _) _
      have K_m := Lib.hid (show BlkIs W5 Gm 26 #[.slice o1m n1m f1m, .slice o2m n2m f2m, .slice o3m n3m f3m] by rw [hWW, hGG]; exact BlkIs.new _ _ _)
      have R_m := Lib.hid (show MkR.Reads W5 m_m from R_m.out.later hba)
      have HWW := Lib.hid (And.intro hWW hGG)
      have B_a := Lib.hid (B_a.out.trans (hba.mono B_a.out.size))
      have B_b := Lib.hid (B_b.out.trans (hba.mono B_b.out.size))
      have B_t := Lib.hid (B_t.out.trans (hba.mono B_t.out.size))
      have HW := Lib.hid (HW.out.trans (hba.mono HW.out.size))
      have B_m := Lib.hid (Below.refl W5.heap.size W5)
      clear hWW hGG hba
      go_upto_region 7 with (fail)
      rw [← HWW.out.1, ← HWW.out.2]
      clear HWW
      by_cases he : c_m = 0
      case neg =>
        have he2 : (c_m == 0) = false := by simpa using he
        have he3 : (c_m != 0) = true := by simpa using he
        go_wp2_with fail
        go_ret
        exact ⟨rfl, HW.out⟩
      subst he
      have HO := Lib.hid (jout_ok J_m.out)
      have HGM := Lib.hid (jm_good HO.out.1.1 HO.out.1.2 HO.out.2.1 HO.out.2.2)
      have S_m := Lib.hid (good_small' HGM.out)
      go_upto_region 8 with (fail)
      obtain ⟨nd2, hnd2⟩ : ∃ nd : Int, nd = wrap64 (1 + wrap64 ((IntKind.u64.wrap t1).tmod 7)) := ⟨_, rfl⟩
      have hnd2' := hnd2.symm
      have HND := Lib.hid (show 1 ≤ nd2 ∧ nd2 ≤ 7 from by rw [hnd2]; exact node_in t1)
      clear hnd2
      have c_m0 : W5.cell? ⟨Gm, 0, none⟩ = some (.slice o1m n1m f1m) := (K_m.out.below B_m.out K_m.out.lt).cell 0
      have c_m1 : W5.cell? ⟨Gm, 1, none⟩ = some (.slice o2m n2m f2m) := (K_m.out.below B_m.out K_m.out.lt).cell 1
      have c_m2 : W5.cell? ⟨Gm, 2, none⟩ = some (.slice o3m n3m f3m) := (K_m.out.below B_m.out K_m.out.lt).cell 2
      have c_t1 : W5.cell? ⟨B + 1 + 1, 1, none⟩ = some (.int .i64 t1) := (K_t.out.below B_t.out K_t.out.lt).cell 1
      have J := ack_any m_m nd2 W5 (R_m.out.later B_m.out) S_m.out
      rw [E_m.out] at J
      have J := Lib.hid J
      go_wp2_with fail
      refine J.out.mono ?_
      rintro e wp ⟨m_p, c_p, rfl, hr, hb, hj⟩
      clear c_m0 c_m1 c_m2 c_t1 J hnd2'
      have B_a := Lib.hid (B_a.out.trans (hb.mono B_a.out.size))
      have B_b := Lib.hid (B_b.out.trans (hb.mono B_b.out.size))
      have B_t := Lib.hid (B_t.out.trans (hb.mono B_t.out.size))
      have B_m := Lib.hid (B_m.out.trans (hb.mono B_m.out.size))
      have HW := Lib.hid (HW.out.trans (hb.mono HW.out.size))
      obtain ⟨hp, rfl⟩ := aout_ok hj HGM.out HND.out
      have HP := Lib.hid hp
      have HGP := Lib.hid (show goodB m_p.mk_ = true from by rw [hp]; exact ack_good HGM.out HND.out)
      have S_p := Lib.hid (good_small' HGP.out)
      obtain ⟨o1p, n1p, f1p, o2p, n2p, f2p, o3p, n3p, f3p, eM⟩ := mk_form hr
      rw [eM]
      have htp : m_p.bv = .slice o3p n3p f3p := by
        have e2 := eM
        unfold aMk at e2
        injection e2 with h
        simp at h
        exact h.2.2
      have E_p := Lib.hid eM
      have TP := Lib.hid htp
      have kM := K_m.out.below B_m.out K_m.out.lt
      have z0 : wp.cell? ⟨Gm, 0, none⟩ = some (.slice o1m n1m f1m) := kM.cell 0
      have z1 : wp.cell? ⟨Gm, 1, none⟩ = some (.slice o2m n2m f2m) := kM.cell 1
      have z2 : wp.cell? ⟨Gm, 2, none⟩ = some (.slice o3m n3m f3m) := kM.cell 2
      have zf : ∀ i, wp.frozen? ⟨Gm, i, none⟩ = false := fun i => kM.free i
      obtain ⟨Wq, hWq⟩ : ∃ X, X = ((wp.setCell ⟨Gm, 0, none⟩ (.slice o1p n1p f1p)).setCell ⟨Gm, 1, none⟩ (.slice o2p n2p f2p)).setCell ⟨Gm, 2, none⟩ (.slice o3p n3p f3p) := ⟨_, rfl⟩
      have hgm : W0.heap.size ≤ Gm := Nat.le_trans B_m0.out (Nat.le_refl _)
      have hgw : w.heap.size ≤ Gm := Nat.le_trans HW0.out hgm
      have K_p := Lib.hid (show BlkIs Wq Gm 26 #[.slice o1p n1p f1p, .slice o2p n2p f2p, .slice o3p n3p f3p] from by rw [hWq]; exact mk_put _ _ _ kM ⟨_, _, _, rfl⟩)
      have R_p := Lib.hid (show m_p.Reads Wq from by rw [hWq]; exact reads3s hr kM (slices3 _ _ _ _ _ _ _ _ _) _ _ _ _ _ _ _ _ _)
      have B_a := Lib.hid (show Below W0.heap.size W0 Wq from by rw [hWq]; exact below3 B_a.out hgm _ _ _)
      have HW := Lib.hid (show Below w.heap.size w Wq from by rw [hWq]; exact below3 HW.out hgw _ _ _)
      have B_p := Lib.hid (Below.refl Wq.heap.size Wq)
      have HWq := Lib.hid hWq
      clear hr hb hj hp eM htp hgm hgw hWq kM
      go_upto_region 9 with (fail)
      rw [← HWq.out]
      clear z0 z1 z2 zf
      clear B_b B_t B_m K_m K_b K_t
      go_upto_region 11 with (fail)
      have c_p0 : Wq.cell? ⟨Gm, 0, none⟩ = some (.slice o1p n1p f1p) := (K_p.out.below B_p.out K_p.out.lt).cell 0
      have c_p1 : Wq.cell? ⟨Gm, 1, none⟩ = some (.slice o2p n2p f2p) := (K_p.out.below B_p.out K_p.out.lt).cell 1
      have c_p2 : Wq.cell? ⟨Gm, 2, none⟩ = some (.slice o3p n3p f3p) := (K_p.out.below B_p.out K_p.out.lt).cell 2
      have L := Mk.live_any m_p nd Wq (R_p.out.later B_p.out) S_p.out
      rw [E_p.out] at L
      have L := Lib.hid L
      go_wp2_with fail
      refine L.out.mono ?_
      rintro e wl ⟨vl, rfl, hrl, hb, -⟩
      clear c_p0 c_p1 c_p2 L
      have B_a := Lib.hid (B_a.out.trans (hb.mono B_a.out.size))
      have B_p := Lib.hid (B_p.out.trans (hb.mono B_p.out.size))
      have HW := Lib.hid (HW.out.trans (hb.mono HW.out.size))
      obtain ⟨ol, fl, rfl, -, -⟩ := hrl.form
      obtain ⟨nl, hnl⟩ : ∃ n, n = (liveL m_p.mk_ nd).length := ⟨_, rfl⟩
      rw [← hnl] at hrl ⊢
      have HLV := Lib.hid (And.intro hrl hnl)
      have KA := Lib.hid (K_a.out.below B_a.out K_a.out.lt)
      have KP := Lib.hid (K_p.out.below B_p.out K_p.out.lt)
      have RA := Lib.hid (R_a.out.later B_a.out)
      have RP := Lib.hid (R_p.out.later B_p.out)
      have hna : n3a = a.tombs.length := by
        obtain ⟨o, f, e, -, -⟩ := RA.out.2.2.1.form
        rw [TA.out] at e
        injection e
      have hnp : n3p = m_p.tombs.length := by
        obtain ⟨o, f, e, -, -⟩ := RP.out.2.2.1.form
        rw [TP.out] at e
        injection e
      have hra : RowAt 5 vTb wl (.slice o3a n3a f3a) a.tombs := by rw [← TA.out]; exact RA.out.2.2.1
      have hrp : RowAt 5 vTb wl (.slice o3p n3p f3p) m_p.tombs := by rw [← TP.out]; exact RP.out.2.2.1
      have HN := Lib.hid (And.intro hna hnp)
      have HR := Lib.hid (And.intro hra hrp)
      have hnam : n3a ≤ 64 := by
        have h1 := (Mk.goodB_at HO.out.1.1).2.1.1
        have : a.mk_.tombs.length = a.tombs.length := by unfold MkR.mk_; rw [List.length_map]
        omega
      have hnpm : n3p ≤ 64 := by
        have h1 := (Mk.goodB_at HGP.out).2.1.1
        have : m_p.mk_.tombs.length = m_p.tombs.length := by unfold MkR.mk_; rw [List.length_map]
        omega
      have hnlm : nl ≤ 256 := by
        have h1 := (Mk.tokensB_at (Mk.goodB_at HGP.out).2.2).1
        have h2 : (liveL m_p.mk_ nd).length ≤ m_p.mk_.toks.length := List.length_filter_le _ _
        omega
      have HBL := Lib.hid (show Bl lTb a.mk_.tombs m_p.mk_.tombs from by
        rw [HP.out]
        exact tb_trans (jm_left HO.out.1.1 HO.out.2.1).2.2 (ack_le _ _).2.2)
      have HGA := Lib.hid HO.out.1.1
      clear hb hrl hnl hna hnp hra hrp
      go_wp2_with fail
      go_loopw [11] (fun i wr => ∃ j : Nat, i = .int .i64 (j : Int) ∧ j ≤ n3a ∧ Hid (Below wl.heap.size wl wr)) (fun i _ => ((n3a : Int) - intOf i).toNat)
      case atStart => exact ⟨0, rfl, Nat.zero_le _, Lib.hid (Below.refl _ _)⟩
      case round =>
        obtain ⟨j, rfl, hj, HL⟩ := hrel
        have ca : wr.cell? ⟨B, 2, none⟩ = some (.slice o3a n3a f3a) := (KA.out.below HL.out KA.out.lt).cell 2
        rcases Nat.lt_or_ge j n3a with hlt | hge
        · have ji : (j : Int) < n3a := by omega
          have jw : IntKind.i64.wrap ((j : Int) + 1) = ((j + 1 : Nat) : Int) := IntWalk.i64_in _ (by omega)
          have hja : j < a.tombs.length := by have := HN.out.1; omega
          obtain ⟨g, off, hag, hgl, hc⟩ := HR.out.1.at_ (by omega)
          subst hag
          obtain ⟨x, hx⟩ : ∃ x, x = a.tombs[j] := ⟨_, rfl⟩
          have hxm : x ∈ a.tombs := by rw [hx]; exact List.getElem_mem hja
          have hxr := RA.out.2.2.2 x hxm
          have hxs := good_small HGA.out (t := x.t) (List.mem_map_of_mem hxm)
          obtain ⟨xp3, xm3, ex3, -, -⟩ := hxr.1.form
          obtain ⟨xl3, fx3⟩ : ∃ q, q = x.t.cov.length := ⟨_, rfl⟩
          rw [← fx3] at ex3
          have HU0 := Lib.hid (show wl.cell? ⟨g, off + j * 5, none⟩ = some (.int .i64 x.t.node) from by rw [hx]; exact hc j hja 0 _ rfl)
          have HU1 := Lib.hid (show wl.cell? ⟨g, off + j * 5 + 1, none⟩ = some (.int .i64 x.t.n) from by rw [hx]; exact hc j hja 1 _ rfl)
          have HU2 := Lib.hid (show wl.cell? ⟨g, off + j * 5 + 2, none⟩ = some (.string x.t.id) from by rw [hx]; exact hc j hja 2 _ rfl)
          have HU3 := Lib.hid (show wl.cell? ⟨g, off + j * 5 + 3, none⟩ = some (.slice xp3 xl3 xm3) from by rw [← ex3, hx]; exact hc j hja 3 _ rfl)
          have HU4 := Lib.hid (show wl.cell? ⟨g, off + j * 5 + 4, none⟩ = some (x.av) from by rw [hx]; exact hc j hja 4 _ rfl)
          have HGL := Lib.hid hgl
          have HX := Lib.hid (And.intro hxm hxr)
          have hcr : RowAt 3 vTok wl (.slice xp3 xl3 xm3) x.t.cov := by rw [← ex3]; exact hxr.1
          have HCR := Lib.hid (And.intro hcr fx3)
          have hxl : xl3 ≤ 256 := by rw [fx3]; exact hxs.1
          have eX : aTb x = .agg #[.int .i64 x.t.node, .int .i64 x.t.n, .string x.t.id, .slice xp3 xl3 xm3, x.av] := by unfold aTb; rw [ex3]
          have T := Mk.sure_any x nd wr ⟨hxr.1.later HL.out, hxr.2.later HL.out⟩ (by omega)
          rw [eX] at T
          obtain ⟨qs, hqs⟩ : ∃ q, q = sureB x.t nd := ⟨_, rfl⟩
          rw [← hqs] at T
          have T := Lib.hid T
          have HQS := Lib.hid hqs
          have u0 : wr.cell? ⟨g, off + j * 5, none⟩ = some (.int .i64 x.t.node) := (HL.out.cell (p := ⟨g, off + j * 5, none⟩) HGL.out).trans HU0.out
          have u1 : wr.cell? ⟨g, off + j * 5 + 1, none⟩ = some (.int .i64 x.t.n) := (HL.out.cell (p := ⟨g, off + j * 5 + 1, none⟩) HGL.out).trans HU1.out
          have u2 : wr.cell? ⟨g, off + j * 5 + 2, none⟩ = some (.string x.t.id) := (HL.out.cell (p := ⟨g, off + j * 5 + 2, none⟩) HGL.out).trans HU2.out
          have u3 : wr.cell? ⟨g, off + j * 5 + 3, none⟩ = some (.slice xp3 xl3 xm3) := (HL.out.cell (p := ⟨g, off + j * 5 + 3, none⟩) HGL.out).trans HU3.out
          have u4 : wr.cell? ⟨g, off + j * 5 + 4, none⟩ = some (x.av) := (HL.out.cell (p := ⟨g, off + j * 5 + 4, none⟩) HGL.out).trans HU4.out
          clear hc hx hxm hxr hxs hgl ex3 fx3 hcr eX hqs
          go_wp2_with fail
          refine T.out.mono ?_
          rintro e w1 ⟨rfl, hb⟩
          have HL1 := Lib.hid (HL.out.trans (hb.mono HL.out.size))
          clear u0 u1 u2 u3 u4 ca hb T
          cases qs with
          | false =>
            go_wp2_with fail
            exact ⟨⟨j + 1, by simp, by omega, HL1⟩, by simp [intOf]; omega⟩
          | true =>
            have HS := Lib.hid (sure_stays HGA.out HBL.out (List.mem_map_of_mem HX.out.1) HQS.out.symm)
            go_wp2_with fail
            go_loopw [12, 13] (fun p i wr => ∃ (k : Nat) (b : Bool), p = .bool b ∧ i = .int .i64 (k : Int) ∧ k ≤ n3p ∧ Hid (b = (m_p.tombs.take k).any (hitB x.t nd)) ∧ Hid (Below wl.heap.size wl wr)) (fun _ i _ => ((n3p : Int) - intOf i).toNat)
            case atStart => exact ⟨0, false, rfl, rfl, Nat.zero_le _, Lib.hid (by simp), HL1⟩
            case round =>
              obtain ⟨k, b, rfl, rfl, hk, HBB, HL2⟩ := hrel
              have cp : wr.cell? ⟨Gm, 2, none⟩ = some (.slice o3p n3p f3p) := (KP.out.below HL2.out KP.out.lt).cell 2
              rcases Nat.lt_or_ge k n3p with hlt2 | hge2
              · have ki : (k : Int) < n3p := by omega
                have kw : IntKind.i64.wrap ((k : Int) + 1) = ((k + 1 : Nat) : Int) := IntWalk.i64_in _ (by omega)
                have hkp : k < m_p.tombs.length := by have := HN.out.2; omega
                obtain ⟨g4, off4, hag, hgl4, hc⟩ := HR.out.2.at_ (by omega)
                subst hag
                obtain ⟨z, hz⟩ : ∃ z, z = m_p.tombs[k] := ⟨_, rfl⟩
                have hzm : z ∈ m_p.tombs := by rw [hz]; exact List.getElem_mem hkp
                have hzr := RP.out.2.2.2 z hzm
                have hzs := good_small HGP.out (t := z.t) (List.mem_map_of_mem hzm)
                have HV0 := Lib.hid (show wl.cell? ⟨g4, off4 + k * 5, none⟩ = some (.int .i64 z.t.node) from by rw [hz]; exact hc k hkp 0 _ rfl)
                have HV1 := Lib.hid (show wl.cell? ⟨g4, off4 + k * 5 + 1, none⟩ = some (.int .i64 z.t.n) from by rw [hz]; exact hc k hkp 1 _ rfl)
                have HV2 := Lib.hid (show wl.cell? ⟨g4, off4 + k * 5 + 2, none⟩ = some (.string z.t.id) from by rw [hz]; exact hc k hkp 2 _ rfl)
                have HV3 := Lib.hid (show wl.cell? ⟨g4, off4 + k * 5 + 3, none⟩ = some (z.cv) from by rw [hz]; exact hc k hkp 3 _ rfl)
                have HV4 := Lib.hid (show wl.cell? ⟨g4, off4 + k * 5 + 4, none⟩ = some (z.av) from by rw [hz]; exact hc k hkp 4 _ rfl)
                have HGL4 := Lib.hid hgl4
                have hbx : ∀ X : LaterOf wr, Below wl.heap.size wl X.w := fun X => HL2.out.trans (X.h.mono HL2.out.size)
                have u0 : ∀ X : LaterOf wr, X.w.cell? ⟨g, off + j * 5, none⟩ = some (.int .i64 x.t.node) := fun X => ((hbx X).cell (p := ⟨g, off + j * 5, none⟩) HGL.out).trans HU0.out
                have u1 : ∀ X : LaterOf wr, X.w.cell? ⟨g, off + j * 5 + 1, none⟩ = some (.int .i64 x.t.n) := fun X => ((hbx X).cell (p := ⟨g, off + j * 5 + 1, none⟩) HGL.out).trans HU1.out
                have v0 : ∀ X : LaterOf wr, X.w.cell? ⟨g4, off4 + k * 5, none⟩ = some (.int .i64 z.t.node) := fun X => ((hbx X).cell (p := ⟨g4, off4 + k * 5, none⟩) HGL4.out).trans HV0.out
                have v1 : ∀ X : LaterOf wr, X.w.cell? ⟨g4, off4 + k * 5 + 1, none⟩ = some (.int .i64 z.t.n) := fun X => ((hbx X).cell (p := ⟨g4, off4 + k * 5 + 1, none⟩) HGL4.out).trans HV1.out
                have v2 : ∀ X : LaterOf wr, X.w.cell? ⟨g4, off4 + k * 5 + 2, none⟩ = some (.string z.t.id) := fun X => ((hbx X).cell (p := ⟨g4, off4 + k * 5 + 2, none⟩) HGL4.out).trans HV2.out
                have v3 : ∀ X : LaterOf wr, X.w.cell? ⟨g4, off4 + k * 5 + 3, none⟩ = some (z.cv) := fun X => ((hbx X).cell (p := ⟨g4, off4 + k * 5 + 3, none⟩) HGL4.out).trans HV3.out
                have v4 : ∀ X : LaterOf wr, X.w.cell? ⟨g4, off4 + k * 5 + 4, none⟩ = some (z.av) := fun X => ((hbx X).cell (p := ⟨g4, off4 + k * 5 + 4, none⟩) HGL4.out).trans HV4.out
                have ca : ∀ X : LaterOf wr, X.w.cell? ⟨B, 2, none⟩ = some (.slice (some ⟨g, off, none⟩) n3a f3a) := fun X => (KA.out.below (hbx X) KA.out.lt).cell 2
                have cq : ∀ X : LaterOf wr, X.w.cell? ⟨Gm, 2, none⟩ = some (.slice (some ⟨g4, off4, none⟩) n3p f3p) := fun X => (KP.out.below (hbx X) KP.out.lt).cell 2
                obtain ⟨q1, hq1⟩ : ∃ q, q = (z.t.node == x.t.node) := ⟨_, rfl⟩
                obtain ⟨q2, hq2⟩ : ∃ q, q = (z.t.n == x.t.n) := ⟨_, rfl⟩
                obtain ⟨q3, hq3⟩ : ∃ q, q = sureB z.t nd := ⟨_, rfl⟩
                have HH := Lib.hid (show hitB x.t nd z = (q1 && (q2 && q3)) from by unfold hitB; rw [hq1, hq2, hq3])
                have T := Lib.hid (show ∀ X : LaterOf wr, Calls Tryz.prog 20 #[.agg #[.int .i64 z.t.node, .int .i64 z.t.n, .string z.t.id, z.cv, z.av], .int .i64 nd] X.w fun e w' => e = .returned (.bool q3) ∧ Below X.w.heap.size X.w w' from fun X => by
                  rw [hq3]
                  exact Mk.sure_any z nd X.w ⟨hzr.1.later (hbx X), hzr.2.later (hbx X)⟩ (by omega))
                have hq1' := hq1.symm
                have hq2' := hq2.symm
                have HZ := Lib.hid hz
                clear hc hz hzm hzr hzs hgl4 hbx hq1 hq2 hq3
                go_upto_region 20 with (fail)
                clear cp
                refine wp_region_all (fun w' => ∃ X : LaterOf wr, w' = X.w) (by kernel_rfl) (by kernel_rfl) ⟨LaterOf.start wr, rfl⟩ ?_
                cases b with
                | true =>
                  repeat (go_big_quiet_step (first | with_reducible rfl | with_reducible exact LaterOf.call _ (T.out _)))
                  refine wpQuiet_nil ?_
                  intro ww hw
                  obtain ⟨X, rfl⟩ := hw
                  have HL3 := Lib.hid (HL2.out.trans (X.h.mono HL2.out.size))
                  obtain ⟨w3, hx3⟩ := X
                  dsimp only at HL3
                  clear u0 u1 v0 v1 v2 v3 v4 ca cq T hq1' hq2'
                  go_wp2_with fail
                  exact ⟨⟨k + 1, true, rfl, by simp, by omega, Lib.hid (by rw [Mk.take_snoc' hkp, List.any_append, ← HBB.out, List.any_cons, List.any_nil, ← HZ.out, HH.out]; simp), HL3⟩, by simp [intOf]; omega⟩
                | false =>
                  cases q1 with
                  | false =>
                    repeat (go_big_quiet_step (first | with_reducible rfl | with_reducible exact LaterOf.call _ (T.out _)))
                    refine wpQuiet_nil ?_
                    intro ww hw
                    obtain ⟨X, rfl⟩ := hw
                    have HL3 := Lib.hid (HL2.out.trans (X.h.mono HL2.out.size))
                    obtain ⟨w3, hx3⟩ := X
                    dsimp only at HL3
                    clear u0 u1 v0 v1 v2 v3 v4 ca cq T hq1' hq2'
                    go_wp2_with fail
                    exact ⟨⟨k + 1, false, rfl, by simp, by omega, Lib.hid (by rw [Mk.take_snoc' hkp, List.any_append, ← HBB.out, List.any_cons, List.any_nil, ← HZ.out, HH.out]; simp), HL3⟩, by simp [intOf]; omega⟩
                  | true =>
                    cases q2 with
                    | false =>
                      repeat (go_big_quiet_step (first | with_reducible rfl | with_reducible exact LaterOf.call _ (T.out _)))
                      refine wpQuiet_nil ?_
                      intro ww hw
                      obtain ⟨X, rfl⟩ := hw
                      have HL3 := Lib.hid (HL2.out.trans (X.h.mono HL2.out.size))
                      obtain ⟨w3, hx3⟩ := X
                      dsimp only at HL3
                      clear u0 u1 v0 v1 v2 v3 v4 ca cq T hq1' hq2'
                      go_wp2_with fail
                      exact ⟨⟨k + 1, false, rfl, by simp, by omega, Lib.hid (by rw [Mk.take_snoc' hkp, List.any_append, ← HBB.out, List.any_cons, List.any_nil, ← HZ.out, HH.out]; simp), HL3⟩, by simp [intOf]; omega⟩
                    | true =>
                      repeat (go_big_quiet_step (first | with_reducible rfl | with_reducible exact LaterOf.call _ (T.out _)))
                      refine wpQuiet_nil ?_
                      intro ww hw
                      obtain ⟨X, rfl⟩ := hw
                      have HL3 := Lib.hid (HL2.out.trans (X.h.mono HL2.out.size))
                      obtain ⟨w3, hx3⟩ := X
                      dsimp only at HL3
                      clear u0 u1 v0 v1 v2 v3 v4 ca cq T hq1' hq2'
                      go_wp2_with fail
                      exact ⟨⟨k + 1, q3, rfl, by simp, by omega, Lib.hid (by rw [Mk.take_snoc' hkp, List.any_append, ← HBB.out, List.any_cons, List.any_nil, ← HZ.out, HH.out]; simp), HL3⟩, by simp [intOf]; omega⟩
              · have ki : ¬ ((k : Int) < n3p) := by omega
                have ki2 : decide ((k : Int) < n3p) = false := decide_eq_false ki
                obtain rfl : k = n3p := Nat.le_antisymm hk hge2
                have hbt : b = true := by
                  rw [HBB.out, HN.out.2, List.take_length]
                  obtain ⟨y, hy, e1, e2, -, e4⟩ := HS.out
                  obtain ⟨z, hz, rfl⟩ := List.mem_map.1 hy
                  rw [List.any_eq_true]
                  refine ⟨z, hz, ?_⟩
                  unfold hitB
                  rw [e1, e2, e4]
                  simp
                subst hbt
                clear ki
                have HBN := Lib.hid hnpm
                go_wp2_with fail
                clear cp ki2
                go_loopw [14] (fun i wr => ∃ c : Nat, i = .int .i64 (c : Int) ∧ c ≤ xl3 ∧ Hid (Below wl.heap.size wl wr)) (fun i _ => ((xl3 : Int) - intOf i).toNat)
                case atStart => exact ⟨0, rfl, Nat.zero_le _, HL2⟩
                case round =>
                  obtain ⟨c, rfl, hcl, HL4⟩ := hrel
                  have ca : wr.cell? ⟨B, 2, none⟩ = some (.slice (some ⟨g, off, none⟩) n3a f3a) := (KA.out.below HL4.out KA.out.lt).cell 2
                  have u3 : wr.cell? ⟨g, off + j * 5 + 3, none⟩ = some (.slice xp3 xl3 xm3) := (HL4.out.cell (p := ⟨g, off + j * 5 + 3, none⟩) HGL.out).trans HU3.out
                  rcases Nat.lt_or_ge c xl3 with hlt3 | hge3
                  · have ci : (c : Int) < xl3 := by omega
                    have cw : IntKind.i64.wrap ((c : Int) + 1) = ((c + 1 : Nat) : Int) := IntWalk.i64_in _ (by omega)
                    have hcc : c < x.t.cov.length := by have := HCR.out.2; omega
                    obtain ⟨g5, off5, hag5, hgl5, hc5⟩ := HCR.out.1.at_ (by omega)
                    subst hag5
                    obtain ⟨y, hy⟩ : ∃ y, y = x.t.cov[c] := ⟨_, rfl⟩
                    have HYM := Lib.hid (show y ∈ x.t.cov by rw [hy]; exact List.getElem_mem hcc)
                    have HY0 := Lib.hid (show wl.cell? ⟨g5, off5 + c * 3, none⟩ = some (.int .i64 y.node) from by rw [hy]; exact hc5 c hcc 0 _ rfl)
                    have HY1 := Lib.hid (show wl.cell? ⟨g5, off5 + c * 3 + 1, none⟩ = some (.int .i64 y.n) from by rw [hy]; exact hc5 c hcc 1 _ rfl)
                    have HY2 := Lib.hid (show wl.cell? ⟨g5, off5 + c * 3 + 2, none⟩ = some (.string y.id) from by rw [hy]; exact hc5 c hcc 2 _ rfl)
                    have HGL5 := Lib.hid hgl5
                    clear hc5 hy hgl5
                    go_wp2_with fail
                    clear ca u3
                    go_loopw [15] (fun i wr => ∃ l : Nat, i = .int .i64 (l : Int) ∧ l ≤ nl ∧ Hid (Below wl.heap.size wl wr)) (fun i _ => ((nl : Int) - intOf i).toNat)
                    case atStart => exact ⟨0, rfl, Nat.zero_le _, HL4⟩
                    case round =>
                      clear HL4
                      obtain ⟨l, rfl, hl, HL4⟩ := hrel
                      rcases Nat.lt_or_ge l nl with hlt4 | hge4
                      · have li : (l : Int) < nl := by omega
                        have lw : IntKind.i64.wrap ((l : Int) + 1) = ((l + 1 : Nat) : Int) := IntWalk.i64_in _ (by omega)
                        have hll : l < (liveL m_p.mk_ nd).length := by have := HLV.out.2; omega
                        obtain ⟨g6, off6, hag6, hgl6, hc6⟩ := HLV.out.1.at_ (by omega)
                        subst hag6
                        obtain ⟨q, hq⟩ : ∃ q, q = (liveL m_p.mk_ nd)[l] := ⟨_, rfl⟩
                        have hqm : q ∈ liveL m_p.mk_ nd := by rw [hq]; exact List.getElem_mem hll
                        have hbx : ∀ X : LaterOf wr, Below wl.heap.size wl X.w := fun X => HL4.out.trans (X.h.mono HL4.out.size)
                        have p0 : ∀ X : LaterOf wr, X.w.cell? ⟨g6, off6 + l * 3, none⟩ = some (.int .i64 q.node) := fun X => ((hbx X).cell (p := ⟨g6, off6 + l * 3, none⟩) hgl6).trans (by rw [hq]; exact hc6 l hll 0 _ rfl)
                        have p1 : ∀ X : LaterOf wr, X.w.cell? ⟨g6, off6 + l * 3 + 1, none⟩ = some (.int .i64 q.n) := fun X => ((hbx X).cell (p := ⟨g6, off6 + l * 3 + 1, none⟩) hgl6).trans (by rw [hq]; exact hc6 l hll 1 _ rfl)
                        have p2 : ∀ X : LaterOf wr, X.w.cell? ⟨g6, off6 + l * 3 + 2, none⟩ = some (.string q.id) := fun X => ((hbx X).cell (p := ⟨g6, off6 + l * 3 + 2, none⟩) hgl6).trans (by rw [hq]; exact hc6 l hll 2 _ rfl)
                        have y0 : ∀ X : LaterOf wr, X.w.cell? ⟨g5, off5 + c * 3, none⟩ = some (.int .i64 y.node) := fun X => ((hbx X).cell (p := ⟨g5, off5 + c * 3, none⟩) HGL5.out).trans HY0.out
                        have y1 : ∀ X : LaterOf wr, X.w.cell? ⟨g5, off5 + c * 3 + 1, none⟩ = some (.int .i64 y.n) := fun X => ((hbx X).cell (p := ⟨g5, off5 + c * 3 + 1, none⟩) HGL5.out).trans HY1.out
                        have y2 : ∀ X : LaterOf wr, X.w.cell? ⟨g5, off5 + c * 3 + 2, none⟩ = some (.string y.id) := fun X => ((hbx X).cell (p := ⟨g5, off5 + c * 3 + 2, none⟩) HGL5.out).trans HY2.out
                        have ca : ∀ X : LaterOf wr, X.w.cell? ⟨B, 2, none⟩ = some (.slice (some ⟨g, off, none⟩) n3a f3a) := fun X => (KA.out.below (hbx X) KA.out.lt).cell 2
                        have u3 : ∀ X : LaterOf wr, X.w.cell? ⟨g, off + j * 5 + 3, none⟩ = some (.slice (some ⟨g5, off5, none⟩) xl3 xm3) := fun X => ((hbx X).cell (p := ⟨g, off + j * 5 + 3, none⟩) HGL.out).trans HU3.out
                        have heq := fun w => Mk.eql_tok q y w
                        rw [eqB_no (show q ≠ y from not_live HS.out HYM.out hqm)] at heq
                        have hg : Tryz.prog.eqGuardType Tryz.prog.depth 45 = false := by kernel_rfl
                        clear hc6 hq hqm hbx
                        go_upto_region 29 with (fail)
                        refine wp_region_all (fun w' => ∃ X : LaterOf wr, w' = X.w) (by kernel_rfl) (by kernel_rfl) ⟨LaterOf.start wr, rfl⟩ ?_
                        repeat (go_big_quiet_step (with_reducible rfl))
                        refine wpQuiet_nil ?_
                        intro ww hw
                        obtain ⟨X, rfl⟩ := hw
                        have HL5 := Lib.hid (HL4.out.trans (X.h.mono HL4.out.size))
                        obtain ⟨w3, hx3⟩ := X
                        dsimp only at HL5
                        clear p0 p1 p2 y0 y1 y2 ca u3 heq hg hgl6
                        go_wp2_with fail
                        exact ⟨⟨l + 1, by simp, by omega, HL5⟩, by simp [intOf]; omega⟩
                      · have li : ¬ ((l : Int) < nl) := by omega
                        have li2 : decide ((l : Int) < nl) = false := decide_eq_false li
                        clear li
                        go_wp2_with fail
                        exact ⟨⟨c + 1, by simp, by omega, HL4⟩, by simp [intOf]; omega⟩
                  · have ci : ¬ ((c : Int) < xl3) := by omega
                    have ci2 : decide ((c : Int) < xl3) = false := decide_eq_false ci
                    clear ci
                    go_wp2_with fail
                    exact ⟨⟨j + 1, by simp, by omega, HL4⟩, by simp [intOf]; omega⟩
        · have ji : ¬ ((j : Int) < n3a) := by omega
          have ji2 : decide ((j : Int) < n3a) = false := decide_eq_false ji
          clear ji
          go_wp2_with fail
          go_ret
          exact ⟨rfl, HW.out.trans (HL.out.mono HW.out.size)⟩
end Go.Proofs.YtbmknmjcoeinkaaGreat.Mg
