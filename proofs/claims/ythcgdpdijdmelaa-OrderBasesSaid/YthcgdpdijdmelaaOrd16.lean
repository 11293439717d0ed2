/- The reference's Log, walked. Conditions: at most 1,000,000 facts of 1,000,000 parents, readable. (Layer 11.) -/
import Derived.Test.YthcgdpdijdmelaaOrd15
namespace Go.Proofs.Ythcgdpdijdmelaa.Ord
set_option linter.unusedVariables false
open Go.RowKit Go.Sort Go.Lib
theorem size_drewN (w : World) (n : Nat) : (w.drewN n).heap.size = w.heap.size := rfl
theorem place_is (n : Nat) (f : Nat → Fv) (hd : Dist n f) (k : Nat) (hk : k < n) : placeV f n (f k).id = (k : Int) := by
  unfold placeV
  rw [place_dist hd hk, if_pos hk]
set_option maxRecDepth 100000 in
set_option maxHeartbeats 4000000 in
theorem rlog_dist (ao : Option Addr) (n cap : Nat) (f : Nat → Fv) (s : ByteArray) (w : World) (hF : FactsAt w ao n f) (hn : n ≤ 1000000) (hnp : ∀ i, i < n → (f i).np ≤ 1000000) (hd : Dist n f) :
    Calls Try.prog 17 #[.slice ao n cap, .string s] w fun e w' => LogOut n f s w w' e := by
  have HF := Lib.hid hF
  have HD := Lib.hid (And.intro hd hnp)
  have hm := hF.1
  have PS := Lib.hid (place_any ao n cap f s w hF)
  clear hF hd hnp
  go_enter Try.func17, Try.ntmps17
  go_wp2_with fail
  go_loopw [6] (fun i wr => ∃ k : Nat, i = .int .i64 (k : Int) ∧ k ≤ n ∧ w = wr) (fun i _ => ((n : Int) - intOf i).toNat)
  case atStart => exact ⟨0, rfl, by omega, rfl⟩
  case round =>
    obtain ⟨k, rfl, hk, rfl⟩ := hrel
    rcases Nat.lt_or_ge k n with hk1 | hk1
    · obtain ⟨b, off, rfl, hlt, hcell⟩ := HF.out.2.1 (by omega)
      have c0 := (hcell k hk1).1
      have ki : (k : Int) < n := by omega
      obtain ⟨q, hq⟩ : ∃ q, q = (f k).id := ⟨_, rfl⟩
      rw [← hq] at c0
      have P := Lib.hid (place_any (some ⟨b, off, none⟩) n cap f q w HF.out)
      rw [show placeV f n q = (k : Int) from by rw [hq]; exact place_is n f HD.out.1 k hk1] at P
      clear hcell hq PS
      go_wp2_with fail
      refine P.out.mono ?_
      rintro e w1 ⟨rfl, rfl⟩
      clear P
      go_wp2_with fail
      refine ⟨⟨k + 1, rfl, hk1, trivial⟩, ?_⟩
      simp [intOf]
      omega
    · have ki : (n : Int) ≤ (k : Int) := by omega
      by_cases hs : Here n f s
      · have hp := place_here.2 hs
        have hpv : placeV f n s = (place f s n : Int) := by unfold placeV; rw [if_pos hp]
        rw [hpv] at PS
        have hpi := place_at f s n hp
        obtain ⟨at0, hat0⟩ : ∃ a, a = place f s n := ⟨_, rfl⟩
        rw [← hat0] at PS hp hpi
        have HM := Lib.hid (rmet_any ao n cap f s at0 w HF.out hn hp hpi)
        have HS := Lib.hid hs
        clear hs hpv hpi hat0
        go_wp2_with fail
        refine PS.out.mono ?_
        rintro e w0 ⟨rfl, rfl⟩
        clear PS
        go_wp2_with fail
        refine HM.out.mono ?_
        rintro e w1 ⟨seen, whole, rfl, hbk, hinv, hb1⟩
        clear HM
        cases whole
        case false =>
          have H1 := Lib.hid (And.intro (hinv.open_ rfl) hb1)
          clear hbk hinv hb1
          go_wp2_with fail
          go_ret2
          exact log_refused (.open_ HD.out.1 HS.out H1.out.1) H1.out.2
        case true =>
          have H1 := Lib.hid (And.intro hbk (And.intro hinv (And.intro hb1 (HF.out.later hb1))))
          have hgs : w.heap.size < w1.heap.size := hbk.lt
          clear hbk hinv hb1
          go_wp2_with fail
          have H2 := Lib.hid (show ∃ W, W = w1.alloc (.cells #[] 24) ∧ RLog w1 n f seen 0 [] (.slice (some ⟨w1.heap.size, 0, none⟩) 0 0) W from
            ⟨_, rfl, SlIs.made (BlkIs.new _ _ _) (Nat.le_refl _) rfl (by decide), List.Pairwise.nil, fun x => ⟨fun h => (by cases h), fun ⟨j, h, _⟩ => (by omega)⟩, fun j h => by omega, (Below.refl _ _).alloc (Nat.le_refl _) _, Nat.le_refl _⟩)
          obtain ⟨W, hW, H2⟩ := H2.out
          rw [← hW]
          have H2 := Lib.hid H2
          clear hW
          go_loopw [10, 11] (fun v i w' => ∃ (k : Nat) (O : List Fv), i = .int .i64 (k : Int) ∧ k ≤ n ∧ Hid (RLog w1 n f seen k O v w')) (fun _ i _ => ((n : Int) - intOf i).toNat)
          case atStart => exact ⟨0, [], rfl, by omega, H2⟩
          case round =>
            obtain ⟨k, O, rfl, hk, HR⟩ := hrel
            clear H2
            have hbw := HR.out.below.size
            have hlenO := HR.out.len
            obtain ⟨ao3, cap3, hv3, hnc3, hcm3, hao3⟩ := HR.out.sl.form
            subst hv3
            rcases Nat.lt_or_ge k n with hk1 | hk1
            · have ki : (k : Int) < n := by omega
              have bk : wr.cell? ⟨w.heap.size, k, none⟩ = some (.bool (seen k)) := by rw [HR.out.below.cell hgs, H1.out.1.cell, boolCells_get _ _ _ hk1]
              obtain ⟨sk, hsk⟩ : ∃ sk, sk = seen k := ⟨_, rfl⟩
              rw [← hsk] at bk
              have HSK := Lib.hid hsk
              clear hsk hao3
              cases sk
              case false =>
                go_wp2_with fail
                refine ⟨⟨k + 1, O, rfl, hk1, Lib.hid (HR.out.skip HSK.out.symm)⟩, ?_⟩
                simp [intOf]
                omega
              case true =>
                obtain ⟨bl, offl, rfl, hltl, hcell⟩ := H1.out.2.2.2.2.1 (by omega)
                have hstx := H1.out.2.2.2.2.2 k hk1
                have hpx : (∀ m, m < (f k).np → Here n f ((f k).p m)) ∧ (f k).np ≤ 1000000 := ⟨fun m hm => H1.out.2.1.closed HD.out.1 _ (Met.step hk1 (H1.out.2.1.met k hk1 HSK.out.symm) hm), HD.out.2 k hk1⟩
                have hcx := hcell k hk1
                obtain ⟨x, hx⟩ : ∃ x, x = f k := ⟨_, rfl⟩
                rw [← hx] at hstx hpx hcx
                have HX := Lib.hid (fun (W' : World) (hb : Below w1.heap.size w1 W') => show W'.cell? ⟨bl, offl + k * 3, none⟩ = some (.string x.id) ∧ W'.cell? ⟨bl, offl + k * 3 + 1, none⟩ = some (.int .i64 x.h) ∧ W'.cell? ⟨bl, offl + k * 3 + 2, none⟩ = some (.slice x.pa x.np x.pc) from by
                  rw [hb.cell hltl, hb.cell hltl, hb.cell hltl]; exact hcx)
                have HXE := Lib.hid hx
                have C := Lib.hid (right_any (some ⟨bl, offl, none⟩) n cap f x wr (H1.out.2.2.2.later HR.out.below) (hstx.later HR.out.below) hpx.1 hpx.2)
                obtain ⟨c0, c1, c2⟩ := HX.out wr HR.out.below
                clear hcell hstx hpx hcx hx
                by_cases hr : x.h = rightH n f x
                · rw [decide_eq_true hr] at C
                  have HRX := Lib.hid hr
                  clear hr
                  go_wp2_with fail
                  refine C.out.mono ?_
                  rintro e w4 ⟨rfl, hb4⟩
                  have HR4 := Lib.hid (show RLog w1 n f seen k O (.slice ao3 O.length cap3) w4 from ⟨HR.out.sl.later hb4, HR.out.falls, HR.out.mem, HR.out.right, HR.out.below.trans (hb4.mono hbw), HR.out.len⟩)
                  have hbw4 := HR4.out.below.size
                  clear C c0 c1 c2 bk hb4 HR
                  go_wp2_with fail
                  have H5 := Lib.hid (show ∃ W4, W4 = w4.alloc (.cells #[] 24) ∧ SlIs W4 w4.heap.size 24 3 (.slice (some ⟨w4.heap.size, 0, none⟩) 0 0) ([] : List Fv).length (fcells []) ∧ InsAt x O 0 false [] ∧ Below w4.heap.size w4 W4 from
                    ⟨_, rfl, SlIs.made (BlkIs.new _ _ _) (Nat.le_refl _) rfl (by decide), InsAt.start x O, (Below.refl _ _).alloc (Nat.le_refl _) _⟩)
                  obtain ⟨W4, hW4, H5⟩ := H5.out
                  rw [← hW4]
                  have H5 := Lib.hid H5
                  clear hW4
                  go_loopw [12, 13, 14] (fun v2 p i wr => ∃ (m : Nat) (put : Bool) (N : List Fv), p = .bool put ∧ i = .int .i64 (m : Int) ∧ m ≤ O.length ∧ Hid (SlIs wr w4.heap.size 24 3 v2 N.length (fcells N) ∧ InsAt x O m put N ∧ Below w4.heap.size w4 wr)) (fun _ _ i _ => ((O.length : Int) - intOf i).toNat)
                  case atStart => exact ⟨0, false, [], rfl, rfl, by omega, H5⟩
                  case round =>
                    obtain ⟨m, put, N, rfl, rfl, hm5, HI⟩ := hrel
                    clear H5
                    have hnl := HI.out.2.1.2.2
                    have hbw5 := HI.out.2.2.size
                    obtain ⟨ao2, cap2, hv2, hnc2, hcm2, hao2⟩ := HI.out.1.form
                    subst hv2
                    have hb51 := HR4.out.below.trans (HI.out.2.2.mono hbw4)
                    have HB51 := Lib.hid hb51
                    clear hb51
                    rcases Nat.lt_or_ge m O.length with hm6 | hm6
                    · have mi : (m : Int) < O.length := by omega
                      obtain ⟨bo, oo, co, hvo, hblt, hcy⟩ := row_cells HR4.out.sl hm6
                      cases hvo
                      obtain ⟨y, hy⟩ : ∃ y, y = O[m] := ⟨_, rfl⟩
                      rw [← hy] at hcy
                      have HY := Lib.hid hy
                      have HCY := Lib.hid hcy
                      clear hy hcy
                      cases put
                      case true =>
                        obtain ⟨g0, g1, g2⟩ := HCY.out wr HI.out.2.2
                        go_upto_region 24 with (fail)
                        go_quiet (fail)
                        go_wp2_with (at_builtin
                                     refine wpList_append_sl rfl _ _ _ 25 rfl el_fact (.slice ao2 N.length cap2) N.length (fcells N) rfl ((HI.out.1.drewN _).alloc _) _ 1 (encF y) rfl (SrcIs.own Try.underlying25 (SlIs.made (base := 0) (BlkIs.new _ _ _) (Nat.zero_le _) rfl (by decide))) (enc_one y) (by unfold maxLen; omega) (by omega) (by simp only [World.size_alloc, size_drewN]; omega) ?_
                                     intro v6 w6 hs1 hg1 hat1
                                     have hb1 := ((below_drewN HI.out.2.2 _).alloc (by simp only [size_drewN]; omega) _).grown hg1 (by simp only [World.size_alloc, size_drewN]; omega) fun j hj => (HI.out.1.lt j hj).1
                                     rw [fcells_snoc] at hs1
                                     have H6 := Lib.hid (And.intro hs1 hb1)
                                     clear hs1 hb1 hg1 hat1 hao2)
                        refine ⟨⟨m + 1, true, N ++ [y], rfl, rfl, hm6, Lib.hid ⟨by simpa using H6.out.1, by rw [HY.out]; exact HI.out.2.1.past hm6, H6.out.2⟩⟩, ?_⟩
                        simp [intOf]
                        omega
                      case false =>
                        have e0 : ∀ u : LaterOf wr, u.w.cell? ⟨bl, offl + k * 3, none⟩ = some (.string x.id) := fun u => (HX.out u.w (HB51.out.trans (u.h.mono HB51.out.size))).1
                        have e1 : ∀ u : LaterOf wr, u.w.cell? ⟨bl, offl + k * 3 + 1, none⟩ = some (.int .i64 x.h) := fun u => (HX.out u.w (HB51.out.trans (u.h.mono HB51.out.size))).2.1
                        have e2 : ∀ u : LaterOf wr, u.w.cell? ⟨bl, offl + k * 3 + 2, none⟩ = some (.slice x.pa x.np x.pc) := fun u => (HX.out u.w (HB51.out.trans (u.h.mono HB51.out.size))).2.2
                        have g0 : ∀ u : LaterOf wr, u.w.cell? ⟨bo, oo + m * 3, none⟩ = some (.string y.id) := fun u => (HCY.out u.w (HI.out.2.2.trans (u.h.mono hbw5))).1
                        have g1 : ∀ u : LaterOf wr, u.w.cell? ⟨bo, oo + m * 3 + 1, none⟩ = some (.int .i64 y.h) := fun u => (HCY.out u.w (HI.out.2.2.trans (u.h.mono hbw5))).2.1
                        have g2 : ∀ u : LaterOf wr, u.w.cell? ⟨bo, oo + m * 3 + 2, none⟩ = some (.slice y.pa y.np y.pc) := fun u => (HCY.out u.w (HI.out.2.2.trans (u.h.mono hbw5))).2.2
                        have C := Lib.hid (fun u : LaterOf wr => ref_compare x y u.w)
                        obtain ⟨c, hcc⟩ : ∃ c, c = cmpF x y := ⟨_, rfl⟩
                        rw [← hcc] at C
                        have HC := Lib.hid hcc
                        clear hcc
                        go_upto_region 24 with (fail)
                        refine wp_region_all (fun w' => ∃ u : LaterOf wr, w' = u.w) (by kernel_rfl) (by kernel_rfl) ⟨LaterOf.start wr, rfl⟩ ?_
                        repeat (go_big_quiet_step (first | exact LaterOf.call _ (C.out _)))
                        refine wpQuiet_nil ?_
                        intro w8 hw8
                        obtain ⟨u, rfl⟩ := hw8
                        have K := Lib.hid (show SlIs u.w w4.heap.size 24 3 (.slice ao2 N.length cap2) N.length (fcells N) ∧ Below w4.heap.size w4 u.w ∧ Below w1.heap.size w1 u.w from ⟨HI.out.1.later u.h, HI.out.2.2.trans (u.h.mono hbw5), HB51.out.trans (u.h.mono HB51.out.size)⟩)
                        obtain ⟨w8, hw8⟩ : ∃ w8, w8 = u.w := ⟨_, rfl⟩
                        rw [← hw8] at K ⊢
                        clear hw8 e0 e1 e2 g0 g1 g2 C
                        have hbw8 := K.out.2.1.size
                        obtain ⟨e0, e1, e2⟩ := HX.out w8 K.out.2.2
                        obtain ⟨g0, g1, g2⟩ := HCY.out w8 K.out.2.1
                        by_cases hc : 0 < c
                        · have HCC := Lib.hid hc
                          go_upto_region 27 with (at_builtin
                                                  refine wpList_append_sl rfl _ _ _ 25 rfl el_fact (.slice ao2 N.length cap2) N.length (fcells N) rfl (K.out.1.alloc _) _ 1 (encF x) rfl (SrcIs.own Try.underlying25 (SlIs.made (base := 0) (BlkIs.new _ _ _) (Nat.zero_le _) rfl (by decide))) (enc_one x) (by unfold maxLen; omega) (by omega) (by simp only [World.size_alloc]; omega) ?_
                                                  intro v6 w6 hs1 hg1 hat1
                                                  have hb1 := (K.out.2.1.alloc (by omega) _).grown hg1 (by simp only [World.size_alloc]; omega) fun j hj => (K.out.1.lt j hj).1
                                                  rw [fcells_snoc] at hs1
                                                  have H6 := Lib.hid (And.intro hs1 hb1)
                                                  clear hs1 hb1 hg1 hat1 hao2)
                          obtain ⟨ao6, cap6, hv6, hnc6, hcm6, hao6⟩ := H6.out.1.form
                          subst hv6
                          have hbw6 := H6.out.2.size
                          obtain ⟨k0, k1, k2⟩ := HCY.out w6 H6.out.2
                          have hs6 := H6.out.1
                          have HS6 := Lib.hid (show SlIs w6 w4.heap.size 24 3 (.slice ao6 (N.length + 1) cap6) (N ++ [x]).length (fcells (N ++ [x])) from by simpa using hs6)
                          clear e0 e1 e2 g0 g1 g2 hs6 hc
                          go_wp2_with (at_builtin
                                       refine wpList_append_sl rfl _ _ _ 25 rfl el_fact (.slice ao6 (N.length + 1) cap6) (N.length + 1) (fcells (N ++ [x])) rfl (H6.out.1.alloc _) _ 1 (encF y) rfl (SrcIs.own Try.underlying25 (SlIs.made (base := 0) (BlkIs.new _ _ _) (Nat.zero_le _) rfl (by decide))) (enc_one y) (by unfold maxLen; omega) (by omega) (by simp only [World.size_alloc]; omega) ?_
                                       intro v7 w7 hs1 hg1 hat1
                                       have hb1 := (H6.out.2.alloc (by omega) _).grown hg1 (by simp only [World.size_alloc]; omega) fun j hj => (H6.out.1.lt j hj).1
                                       rw [fcells_snoc] at hs1
                                       have H7 := Lib.hid (And.intro hs1 hb1)
                                       clear hs1 hb1 hg1 hat1 hao6)
                          refine ⟨⟨m + 1, true, N ++ [x] ++ [y], rfl, rfl, hm6, Lib.hid ⟨by simpa using H7.out.1, by rw [HY.out]; exact HI.out.2.1.here hm6 (by rw [← HY.out, ← HC.out]; exact HCC.out), H7.out.2⟩⟩, ?_⟩
                          simp [intOf]
                          omega
                        · have HCC := Lib.hid hc
                          have hc0 : decide (0 < c) = false := by simpa using hc
                          clear hc
                          go_wp2_with (at_builtin
                                       refine wpList_append_sl rfl _ _ _ 25 rfl el_fact (.slice ao2 N.length cap2) N.length (fcells N) rfl (K.out.1.alloc _) _ 1 (encF y) rfl (SrcIs.own Try.underlying25 (SlIs.made (base := 0) (BlkIs.new _ _ _) (Nat.zero_le _) rfl (by decide))) (enc_one y) (by unfold maxLen; omega) (by omega) (by simp only [World.size_alloc]; omega) ?_
                                       intro v6 w6 hs1 hg1 hat1
                                       have hb1 := (K.out.2.1.alloc (by omega) _).grown hg1 (by simp only [World.size_alloc]; omega) fun j hj => (K.out.1.lt j hj).1
                                       rw [fcells_snoc] at hs1
                                       have H6 := Lib.hid (And.intro hs1 hb1)
                                       clear hs1 hb1 hg1 hat1 hao2)
                          refine ⟨⟨m + 1, false, N ++ [y], rfl, rfl, hm6, Lib.hid ⟨by simpa using H6.out.1, by rw [HY.out]; exact HI.out.2.1.pass hm6 (by rw [← HY.out, ← HC.out]; exact HCC.out), H6.out.2⟩⟩, ?_⟩
                          simp [intOf]
                          omega
                    · have mi : (O.length : Int) ≤ (m : Int) := by omega
                      obtain rfl : m = O.length := by omega
                      cases put
                      case true =>
                        go_wp2_with fail
                        refine ⟨⟨k + 1, N, rfl, hk1, Lib.hid (HR4.out.next HD.out.1 hk1 HSK.out.symm (by rw [← HXE.out]; exact HRX.out) (by rw [← HXE.out]; exact HI.out.2.1.endT) HI.out.1 hbw4 HB51.out)⟩, ?_⟩
                        simp [intOf]
                        omega
                      case false =>
                        obtain ⟨e0, e1, e2⟩ := HX.out wr HB51.out
                        go_wp2_with (at_builtin
                                     refine wpList_append_sl rfl _ _ _ 25 rfl el_fact (.slice ao2 N.length cap2) N.length (fcells N) rfl (HI.out.1.alloc _) _ 1 (encF x) rfl (SrcIs.own Try.underlying25 (SlIs.made (base := 0) (BlkIs.new _ _ _) (Nat.zero_le _) rfl (by decide))) (enc_one x) (by unfold maxLen; omega) (by omega) (by simp only [World.size_alloc]; omega) ?_
                                     intro v6 w6 hs1 hg1 hat1
                                     have hb1 := (HI.out.2.2.alloc (by omega) _).grown hg1 (by simp only [World.size_alloc]; omega) fun j hj => (HI.out.1.lt j hj).1
                                     rw [fcells_snoc] at hs1
                                     have H6 := Lib.hid (And.intro hs1 hb1)
                                     clear hs1 hb1 hg1 hat1 hao2)
                        refine ⟨⟨k + 1, N ++ [x], rfl, hk1, Lib.hid (HR4.out.next (W := w4) HD.out.1 hk1 HSK.out.symm (by rw [← HXE.out]; exact HRX.out) (by rw [← HXE.out]; exact HI.out.2.1.endF) (by simpa using H6.out.1) hbw4 (HR4.out.below.trans (H6.out.2.mono hbw4)))⟩, ?_⟩
                        simp [intOf]
                        omega
                · rw [decide_eq_false hr] at C
                  have HRX := Lib.hid hr
                  clear hr
                  go_wp2_with fail
                  refine C.out.mono ?_
                  rintro e w4 ⟨rfl, hb4⟩
                  have H4 := Lib.hid (H1.out.2.2.1.trans ((HR.out.below.trans (hb4.mono hbw)).mono H1.out.2.2.1.size))
                  clear C hb4
                  go_wp2_with fail
                  go_ret2
                  exact log_refused (.order HD.out.1 HS.out (H1.out.2.1.closed HD.out.1) ⟨k, hk1, H1.out.2.1.met k hk1 HSK.out.symm, by rw [← HXE.out]; exact HRX.out⟩) H4.out
            · have ki : (n : Int) ≤ (k : Int) := by omega
              obtain rfl : k = n := by omega
              obtain ⟨w9, hw9⟩ : ∃ w9, w9 = wr := ⟨_, rfl⟩
              subst hw9
              have HR' := HR
              clear hao3
              go_wp2_with fail
              have H5 := Lib.hid (show ∃ W4, W4 = w9.alloc (.cells #[] 9) ∧ SlIs W4 w9.heap.size 9 1 (.slice (some ⟨w9.heap.size, 0, none⟩) 0 0) 0 (scells (fun i => O[i]!.id) 0) ∧ Below w9.heap.size w9 W4 from
                ⟨_, rfl, SlIs.made (BlkIs.new _ _ _) (Nat.le_refl _) rfl (by decide), (Below.refl _ _).alloc (Nat.le_refl _) _⟩)
              obtain ⟨W4, hW4, H5⟩ := H5.out
              rw [← hW4]
              have H5 := Lib.hid H5
              clear hW4
              go_loopw [15, 16] (fun v2 i wr => ∃ m : Nat, i = .int .i64 (m : Int) ∧ m ≤ O.length ∧ Hid (SlIs wr w9.heap.size 9 1 v2 m (scells (fun i => O[i]!.id) m) ∧ Below w9.heap.size w9 wr)) (fun _ i _ => ((O.length : Int) - intOf i).toNat)
              case atStart => exact ⟨0, rfl, by omega, H5⟩
              case round =>
                obtain ⟨m, rfl, hm5, HI⟩ := hrel
                clear H5
                have hbw5 := HI.out.2.size
                rcases Nat.lt_or_ge m O.length with hm6 | hm6
                · have mi : (m : Int) < O.length := by omega
                  obtain ⟨bo, oo, co, hvo, hblt, hcy⟩ := row_cells HR.out.sl hm6
                  cases hvo
                  have g0 := (hcy wr HI.out.2).1
                  obtain ⟨ao2, cap2, hv2, hnc2, hcm2, hao2⟩ := HI.out.1.form
                  subst hv2
                  obtain ⟨y, hy⟩ : ∃ y, y = O[m].id := ⟨_, rfl⟩
                  rw [← hy] at g0
                  have HY := Lib.hid (show y = O[m]!.id from by rw [hy, getElem!_pos O m hm6])
                  clear hy hcy
                  go_wp2_with (at_builtin
                               refine wpList_append_sl rfl _ _ _ 22 rfl el_str (.slice ao2 m cap2) m (scells (fun i => O[i]!.id) m) rfl (HI.out.1.alloc _) _ 1 [.string y] rfl (SrcIs.own Try.underlying22 (SlIs.made (base := 0) (BlkIs.new _ _ _) (Nat.zero_le _) rfl (by decide))) (by intro u hu; rcases List.mem_singleton.1 hu with rfl; rfl) (by unfold maxLen; omega) (by omega) (by simp only [World.size_alloc]; omega) ?_
                               intro v6 w6 hs1 hg1 hat1
                               have hb1 := (HI.out.2.alloc hbw5 (.cells #[.string y] 9)).grown hg1 (by simp only [World.size_alloc]; omega) fun j hj => (HI.out.1.lt j hj).1
                               rw [HY.out, scells_snoc (fun i => O[i]!.id)] at hs1
                               have H6 := Lib.hid (And.intro hs1 hb1)
                               clear hs1 hb1 hg1 hat1 hao2)
                  refine ⟨⟨m + 1, rfl, hm6, H6⟩, ?_⟩
                  simp [intOf]
                  omega
                · have mi : (O.length : Int) ≤ (m : Int) := by omega
                  obtain rfl : m = O.length := by omega
                  go_wp2_with fail
                  go_ret2
                  obtain ⟨h1, h2⟩ := HR.out.final HD.out.1 H1.out.2.1
                  exact log_ok HD.out.1 HS.out (H1.out.2.1.closed HD.out.1) h1 HR.out.falls h2 HI.out.1 (H1.out.2.2.1.trans ((HR.out.below.trans (HI.out.2.mono HR.out.below.size)).mono H1.out.2.2.1.size))
      · have hp : ¬ place f s n < n := fun h => hs (place_here.1 h)
        have hpv : placeV f n s = -1 := by unfold placeV; rw [if_neg hp]
        rw [hpv] at PS
        have HS := Lib.hid hs
        clear hs hp hpv
        go_wp2_with fail
        refine PS.out.mono ?_
        rintro e w1 ⟨rfl, rfl⟩
        clear PS
        go_wp2_with fail
        go_ret2
        exact log_refused (.none_ HD.out.1 HS.out) (Below.refl _ _)
/-- The reference's Log, of all facts. -/
theorem rlog_any (ao : Option Addr) (n cap : Nat) (f : Nat → Fv) (s : ByteArray) (w : World) (h : FactsAt w ao n f) (hn : n ≤ 1000000) (hnp : ∀ i, i < n → (f i).np ≤ 1000000) :
    Calls Try.prog 17 #[.slice ao n cap, .string s] w fun e w' => LogOut n f s w w' e := by
  by_cases hd : Dist n f
  · exact rlog_dist ao n cap f s w h hn hnp hd
  · exact rlog_twice ao n cap f s w h hd
end Go.Proofs.Ythcgdpdijdmelaa.Ord
