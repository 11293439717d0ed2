/- The reference's Decode, walked: the same marks as the program's own. (Layer 12.) -/
import Derived.Test.YtljenganlknhbaaGreatMk29
import Derived.Deep.CutBlock
import Derived.Deep.CutRange
namespace Go.Proofs.YtljenganlknhbaaGreat.Mk
set_option linter.unusedVariables false
open Go.RowKit Oct
set_option maxRecDepth 100000 in
set_option maxHeartbeats 8000000 in
theorem rdecode_own (s : ByteArray) (w : World) (hs : (s.size : Int) ≤ 140737488355328) : Calls Tryz.prog 62 #[.string s] w fun e w' => DecOwn s w e w' := by
  obtain ⟨W1, hW1⟩ : ∃ W1, W1 = w.alloc (.cells #[.slice none 0 0, .slice none 0 0, .slice none 0 0] 28) := ⟨_, rfl⟩
  have k0 : BlkIs W1 w.heap.size 28 #[.slice none 0 0, .slice none 0 0, .slice none 0 0] := by rw [hW1]; exact BlkIs.new _ _ _
  have hb0 : Below w.heap.size w W1 := by rw [hW1]; exact (Below.refl _ _).alloc (Nat.le_refl _) _
  have HW := Lib.hid hW1
  have H1 := Lib.hid (And.intro k0 hb0)
  clear hW1 k0 hb0
  generalize hDO : DecOwn s w = DO
  have HDO := Lib.hid hDO
  clear hDO
  go_enter Tryz.func62, Tryz.ntmps62
  go_wp2_with fail
  rw [← HW.out]
  refine (rrd_new s W1 hs).mono ?_
  rintro e w2 ⟨rfl, hr2, hb2⟩
  obtain ⟨g, hg⟩ : ∃ g, g = W1.heap.size := ⟨_, rfl⟩
  rw [← hg] at hr2 ⊢
  obtain ⟨M, hM⟩ : ∃ M, M = w2.heap.size := ⟨_, rfl⟩
  have hwW : w.heap.size < W1.heap.size := H1.out.1.lt
  obtain ⟨W3, hW3⟩ : ∃ W3, W3 = w2.alloc (.cells #[.slice none 0 0, .slice none 0 0, .slice none 0 0] 28) := ⟨_, rfl⟩
  have HS := Lib.hid (show RD w g M (s, false) #[.slice none 0 0, .slice none 0 0, .slice none 0 0] W3 from by
    have hgl : g < w2.heap.size := hr2.lt
    refine ⟨⟨by rw [hW3]; exact hr2.alloc _, ?_, by rw [hW3, hM]; exact BlkIs.new _ _ _, ?_⟩, by omega, by omega⟩
    · rw [hW3]; exact (BlkIs.below H1.out.1 hb2 hwW).alloc _
    · rw [hW3]; exact (H1.out.2.trans (hb2.mono (by omega))).alloc (by have := hb2.size; omega) _)
  have HM := Lib.hid (And.intro hM hW3)
  clear hg hb2 hM hwW hW3 hr2 H1 HW hs
  go_wp2_with fail
  rw [← HM.out.2, ← HM.out.1]
  clear HM
  refine (rcount_any g (s, false) 64 W3 HS.out.1.1 (by decide)).mono ?_
  rintro e W1n ⟨N1, t1, rfl, hN, hr, hm, hM⟩
  have HN0 := Lib.hid hN
  have HM1 := Lib.hid hM
  have HC1 := Lib.hid (HS.out.call hr hm)
  clear hN hr hm hM
  go_upto_block 0 with (fail)
  go_cut [7, 8] from 23 to 51 (fun y7 y8 wx => Hid (∃ (l : List Rf) (ao : Option Addr) (n c : Nat) (st : RS), rList rRf N1 t1 = (l, st) ∧ n = l.length ∧ SlIs wx (M + 1) 51 3 (.slice ao n c) n (rowCells vRf l) ∧ RD w g M st #[.slice ao n c, .slice none 0 0, .slice none 0 0] wx))
  case first =>
    go_wp2_with fail
    go_loopw [7] (fun i wr => ∃ (k c : Nat) (ao : Option Addr) (b : Bool) (r : ByteArray) (l : List Rf), i = .int .i64 (k : Int) ∧ k ≤ N1 ∧ Hid (RD w g M (r, b) #[.slice ao k c, .slice none 0 0, .slice none 0 0] wr ∧ SlIs wr (M + 1) 51 3 (.slice ao k c) k (rowCells vRf l) ∧ l.length = k ∧ (rList rRf N1 t1 = (l ++ (rList rRf (N1 - k) (r, b)).1, (rList rRf (N1 - k) (r, b)).2)))) (fun i _ => N1 - (intOf i).toNat)
    case atStart => exact ⟨0, 0, none, t1.2, t1.1, [], rfl, Nat.zero_le _, Lib.hid ⟨HC1.out, SlIs.nil_ _ _ _ _, rfl, rfl⟩⟩
    case round =>
      obtain ⟨k, c, ao, b, r, l, rfl, hkN, HL⟩ := hrel
      have d2 : wr.cell? ⟨g, 2, none⟩ = some (.bool b) := HL.out.1.1.1.flag.1
      have e0 : wr.cell? ⟨M, 0, none⟩ = some (.slice ao k c) := HL.out.1.1.2.2.1.cell 0
      rcases Nat.lt_or_ge k N1 with hlt | hge
      · have ki : (k : Int) < N1 := by omega
        cases b
        · have hsn := rList_snoc rRf (N1 - (k + 1)) (r, false) rfl
          rw [show N1 - (k + 1) + 1 = N1 - k by omega] at hsn
          obtain ⟨x1, s1, hq1⟩ : ∃ x s', rText 255 (r, false) = (x, s') := ⟨_, _, rfl⟩
          obtain ⟨x2, s2, hq2⟩ : ∃ x s', rTake 32 s1 = (x, s') := ⟨_, _, rfl⟩
          obtain ⟨x3, s3, hq3⟩ : ∃ x s', rNum s2 = (x, s') := ⟨_, _, rfl⟩
          have ho : rRf (r, false) = (⟨x1, x2, x3⟩, s3) := by unfold rRf; simp only [hq1, hq2, hq3]
          rw [ho] at hsn
          have HSN := Lib.hid hsn
          have HQ := Lib.hid (And.intro hq1 (And.intro hq2 hq3))
          clear hsn ho hq1 hq2 hq3
          obtain ⟨X, hX⟩ : ∃ X, X = wr.heap.size := ⟨_, rfl⟩
          obtain ⟨V0, hV0⟩ : ∃ V, V = wr.alloc (.cells #[.string ⟨#[]⟩, .string ⟨#[]⟩, .int .i64 0] 51) := ⟨_, rfl⟩
          have F0 := Lib.hid (show FS w g M (r, false) #[.slice ao k c, .slice none 0 0, .slice none 0 0] wr X 51 #[.string ⟨#[]⟩, .string ⟨#[]⟩, .int .i64 0] V0 from by rw [hX, hV0]; exact FS.start HL.out.1 _ _)
          have HXV := Lib.hid (And.intro hX hV0)
          clear hX hV0
          go_wp2_with fail
          rw [← HXV.out.2, ← HXV.out.1]
          clear d2 e0
          refine (rr_text g (r, false) s1 255 x1 HQ.out.1 V0 F0.out.1.1.1).mono ?_
          rintro e V0c1 ⟨rfl, hr, hm⟩
          have F0c1 := Lib.hid (F0.out.call hr hm)
          have g1 : V0c1.cell? ⟨X, 0, none⟩ = some (.string ⟨#[]⟩) := F0c1.out.2.2.1.cell 0
          have f1 : V0c1.frozen? ⟨X, 0, none⟩ = false := F0c1.out.2.2.1.free 0
          clear hr hm
          go_wp2_with fail
          obtain ⟨V0p1, hV⟩ : ∃ V, V = V0c1.setCell ⟨X, 0, none⟩ (.string x1) := ⟨_, rfl⟩
          have hp := F0c1.out.put 0 (.string x1)
          rw [← hV] at hp ⊢
          have F0p1 := Lib.hid (show FS w g M s1 #[.slice ao k c, .slice none 0 0, .slice none 0 0] wr X 51 #[.string x1, .string ⟨#[]⟩, .int .i64 0] V0p1 from hp)
          clear hp hV g1 f1 F0c1
          refine (rr_take g s1 s2 32 (by decide) x2 HQ.out.2.1 V0p1 F0p1.out.1.1.1).mono ?_
          rintro e V0c2 ⟨rfl, hr, hm⟩
          have F0c2 := Lib.hid (F0p1.out.call hr hm)
          have g2 : V0c2.cell? ⟨X, 1, none⟩ = some (.string ⟨#[]⟩) := F0c2.out.2.2.1.cell 1
          have f2 : V0c2.frozen? ⟨X, 1, none⟩ = false := F0c2.out.2.2.1.free 1
          clear hr hm
          go_wp2_with fail
          obtain ⟨V0p2, hV⟩ : ∃ V, V = V0c2.setCell ⟨X, 1, none⟩ (.string x2) := ⟨_, rfl⟩
          have hp := F0c2.out.put 1 (.string x2)
          rw [← hV] at hp ⊢
          have F0p2 := Lib.hid (show FS w g M s2 #[.slice ao k c, .slice none 0 0, .slice none 0 0] wr X 51 #[.string x1, .string x2, .int .i64 0] V0p2 from hp)
          clear hp hV g2 f2 F0c2
          clear F0p1
          refine (rr_num g s2 s3 x3 HQ.out.2.2 V0p2 F0p2.out.1.1.1).mono ?_
          rintro e V0c3 ⟨rfl, hr, hm⟩
          have F0c3 := Lib.hid (F0p2.out.call hr hm)
          have g3 : V0c3.cell? ⟨X, 2, none⟩ = some (.int .i64 0) := F0c3.out.2.2.1.cell 2
          have f3 : V0c3.frozen? ⟨X, 2, none⟩ = false := F0c3.out.2.2.1.free 2
          clear hr hm
          have w3 := num_wrap HQ.out.2.2
          go_upto_region 11 with (fail)
          obtain ⟨V0p3, hV⟩ : ∃ V, V = V0c3.setCell ⟨X, 2, none⟩ (.int .i64 x3) := ⟨_, rfl⟩
          have hp := F0c3.out.put 2 (.int .i64 x3)
          rw [← hV] at hp ⊢
          have F0p3 := Lib.hid (show FS w g M s3 #[.slice ao k c, .slice none 0 0, .slice none 0 0] wr X 51 #[.string x1, .string x2, .int .i64 x3] V0p3 from hp)
          clear hp hV g3 f3 F0c3 w3
          clear F0p2
          have hs1 := Lib.hid (sl_chg HL.out.2.1 F0p3.out.2.1 (by have := F0p3.out.1.2; omega))
          have e0 : V0p3.cell? ⟨M, 0, none⟩ = some (.slice ao k c) := F0p3.out.1.1.2.2.1.cell 0
          have e1 : V0p3.frozen? ⟨M, 0, none⟩ = false := F0p3.out.1.1.2.2.1.free 0
          have g0 : V0p3.cell? ⟨X, 0, none⟩ = some (.string x1) := F0p3.out.2.2.1.cell 0
          have g1 : V0p3.cell? ⟨X, 1, none⟩ = some (.string x2) := F0p3.out.2.2.1.cell 1
          have g2 : V0p3.cell? ⟨X, 2, none⟩ = some (.int .i64 x3) := F0p3.out.2.2.1.cell 2
          have hNN := HN0.out
          have hMl : M + 1 ≤ V0p3.heap.size := F0p3.out.1.1.2.2.1.lt
          have hMM : M < V0p3.heap.size := hMl
          go_wp2_with (at_builtin; refine wpList_append_sl rfl _ _ _ 24 (by rfl) el_rf (base := M + 1) (.slice ao k c) k (rowCells vRf l) (by rfl) (hs1.out.alloc _) _ 1 [Value.string x1, Value.string x2, Value.int .i64 x3] (by rfl) (SrcIs.own Tryz.underlying24 (SlIs.made (base := 0) (BlkIs.new _ _ _) (Nat.zero_le _) rfl (by decide))) (by intro u hu; simp at hu; rcases hu with rfl | rfl | rfl <;> rfl) (by unfold maxLen; omega) (by omega) (by simp; omega) ?_)
          intro v5 w5 hs5 hg5 hat5
          obtain ⟨ao5, c5, rfl, -, -, -⟩ := hs5.form
          have hrow : ∀ j, (Value.slice ao k c).ownBlock = some j → M < j := fun j hj => (hs1.out.lt j hj).1
          have R5 := (F0p3.out.1.alloc (.cells #[Value.string x1, Value.string x2, Value.int .i64 x3] 51)).app hg5 hrow
          have e5 : w5.cell? ⟨M, 0, none⟩ = some (.slice ao k c) := R5.1.2.2.1.cell 0
          have f5 : w5.frozen? ⟨M, 0, none⟩ = false := R5.1.2.2.1.free 0
          have R6 := Lib.hid (show RD w g M s3 #[.slice ao5 (k + 1) c5, .slice none 0 0, .slice none 0 0] (w5.setCell ⟨M, 0, none⟩ (.slice ao5 (k + 1) c5)) from R5.put 0 (.slice ao5 (k + 1) c5))
          have hs6 := Lib.hid (sl_farB hs5 (p := ⟨M, 0, none⟩) (Nat.lt_succ_self M) (.slice ao5 (k + 1) c5))
          clear hs5 hg5 hat5 hrow R5 e0 e1 g0 g1 g2 hMl hMM
          have kw : IntKind.i64.wrap ((k : Int) + 1) = ((k + 1 : Nat) : Int) := IntWalk.i64_in _ (by omega)
          clear hNN
          go_wp2_with fail
          refine ⟨⟨k + 1, c5, ao5, s3.2, s3.1, l ++ [⟨x1, x2, x3⟩], by simp, by omega, Lib.hid ⟨R6.out, ?_, by simp [HL.out.2.2.1], ?_⟩⟩, by simp [intOf]; omega⟩
          · rw [rowCells_app, rowCells_one]; exact hs6.out
          · rw [HL.out.2.2.2, HSN.out.1, HSN.out.2, List.append_assoc]
        · have hrb := rList_bad rRf (N1 - k) (r, true) rfl
          have HRB := Lib.hid hrb
          clear hrb
          go_wp2_with fail
          go_meet
          case rel =>
            refine Lib.hid ⟨l, ao, k, c, (r, true), ?_, HL.out.2.2.1.symm, HL.out.2.1, HL.out.1⟩
            rw [HL.out.2.2.2, HRB.out, List.append_nil]
      · have ki : decide (k < N1) = false := decide_eq_false (by omega)
        obtain rfl : N1 = k := by omega
        clear hge
        go_wp2_with fail
        go_meet
        case rel =>
          refine Lib.hid ⟨l, ao, N1, c, (r, b), ?_, HL.out.2.2.1.symm, HL.out.2.1, HL.out.1⟩
          rw [HL.out.2.2.2, Nat.sub_self]
          show (l ++ [], (r, b)) = _
          rw [List.append_nil]
  case rest =>
    obtain ⟨l0, o0, n0, c0, q0, hl0, hn0, hs0, hR⟩ := hcut.out
    clear HC1 HS hcut
    have HL0 := Lib.hid (show rMany rRf 64 (s, false) = (l0, q0) by rw [HM1.out Rf rRf]; exact hl0)
    have Hs0 := Lib.hid hs0
    have Hn0 := Lib.hid hn0
    have HR0 := Lib.hid hR
    clear hl0 hn0 hs0 hR HM1
    go_wp2_with fail
    refine (rcount_any g q0 256 wc HR0.out.1.1 (by decide)).mono ?_
    rintro e W2n ⟨N2, t2, rfl, hN, hr, hm, hM⟩
    have HN2 := Lib.hid hN
    have HM2 := Lib.hid hM
    have HC2 := Lib.hid (HR0.out.call hr hm)
    have kk0 := hm.sl Hs0.out (by have := HR0.out.2; omega)
    have Kk0 := Lib.hid kk0
    clear hN hr hm hM kk0
    go_upto_block 2 with (fail)
    go_cut [9, 10] from 54 to 83 (fun y9 y10 wx => Hid (∃ (l : List Tok) (ao : Option Addr) (n c : Nat) (st : RS), rList rTok N2 t2 = (l, st) ∧ n = l.length ∧ SlIs wx (M + 1) 102 3 (.slice ao n c) n (rowCells vTok l) ∧ RD w g M st #[.slice o0 n0 c0, .slice ao n c, .slice none 0 0] wx ∧ SlIs wx (M + 1) 51 3 (.slice o0 n0 c0) n0 (rowCells vRf l0)))
    case first =>
      go_wp2_with fail
      go_loopw [9] (fun i wr => ∃ (k c : Nat) (ao : Option Addr) (b : Bool) (r : ByteArray) (l : List Tok), i = .int .i64 (k : Int) ∧ k ≤ N2 ∧ Hid (RD w g M (r, b) #[.slice o0 n0 c0, .slice ao k c, .slice none 0 0] wr ∧ SlIs wr (M + 1) 102 3 (.slice ao k c) k (rowCells vTok l) ∧ l.length = k ∧ (rList rTok N2 t2 = (l ++ (rList rTok (N2 - k) (r, b)).1, (rList rTok (N2 - k) (r, b)).2)) ∧ SlIs wr (M + 1) 51 3 (.slice o0 n0 c0) n0 (rowCells vRf l0))) (fun i _ => N2 - (intOf i).toNat)
      case atStart => exact ⟨0, 0, none, t2.2, t2.1, [], rfl, Nat.zero_le _, Lib.hid ⟨HC2.out, SlIs.nil_ _ _ _ _, rfl, rfl, Kk0.out⟩⟩
      case round =>
        obtain ⟨k, c, ao, b, r, l, rfl, hkN, HL⟩ := hrel
        have d2 : wr.cell? ⟨g, 2, none⟩ = some (.bool b) := HL.out.1.1.1.flag.1
        have e0 : wr.cell? ⟨M, 1, none⟩ = some (.slice ao k c) := HL.out.1.1.2.2.1.cell 1
        rcases Nat.lt_or_ge k N2 with hlt | hge
        · have ki : (k : Int) < N2 := by omega
          cases b
          · have hsn := rList_snoc rTok (N2 - (k + 1)) (r, false) rfl
            rw [show N2 - (k + 1) + 1 = N2 - k by omega] at hsn
            obtain ⟨x1, s1, hq1⟩ : ∃ x s', rNum (r, false) = (x, s') := ⟨_, _, rfl⟩
            obtain ⟨x2, s2, hq2⟩ : ∃ x s', rNum s1 = (x, s') := ⟨_, _, rfl⟩
            obtain ⟨x3, s3, hq3⟩ : ∃ x s', rTake 32 s2 = (x, s') := ⟨_, _, rfl⟩
            have ho : rTok (r, false) = (⟨x1, x2, x3⟩, s3) := by unfold rTok; simp only [hq1, hq2, hq3]
            rw [ho] at hsn
            have HSN := Lib.hid hsn
            have HQ := Lib.hid (And.intro hq1 (And.intro hq2 hq3))
            clear hsn ho hq1 hq2 hq3
            obtain ⟨X, hX⟩ : ∃ X, X = wr.heap.size := ⟨_, rfl⟩
            obtain ⟨V0, hV0⟩ : ∃ V, V = wr.alloc (.cells #[.int .i64 0, .int .i64 0, .string ⟨#[]⟩] 102) := ⟨_, rfl⟩
            have F0 := Lib.hid (show FS w g M (r, false) #[.slice o0 n0 c0, .slice ao k c, .slice none 0 0] wr X 102 #[.int .i64 0, .int .i64 0, .string ⟨#[]⟩] V0 from by rw [hX, hV0]; exact FS.start HL.out.1 _ _)
            have HXV := Lib.hid (And.intro hX hV0)
            clear hX hV0
            go_wp2_with fail
            rw [← HXV.out.2, ← HXV.out.1]
            clear d2 e0
            refine (rr_num g (r, false) s1 x1 HQ.out.1 V0 F0.out.1.1.1).mono ?_
            rintro e V0c1 ⟨rfl, hr, hm⟩
            have F0c1 := Lib.hid (F0.out.call hr hm)
            have g1 : V0c1.cell? ⟨X, 0, none⟩ = some (.int .i64 0) := F0c1.out.2.2.1.cell 0
            have f1 : V0c1.frozen? ⟨X, 0, none⟩ = false := F0c1.out.2.2.1.free 0
            clear hr hm
            have w1 := num_wrap HQ.out.1
            go_wp2_with fail
            obtain ⟨V0p1, hV⟩ : ∃ V, V = V0c1.setCell ⟨X, 0, none⟩ (.int .i64 x1) := ⟨_, rfl⟩
            have hp := F0c1.out.put 0 (.int .i64 x1)
            rw [← hV] at hp ⊢
            have F0p1 := Lib.hid (show FS w g M s1 #[.slice o0 n0 c0, .slice ao k c, .slice none 0 0] wr X 102 #[.int .i64 x1, .int .i64 0, .string ⟨#[]⟩] V0p1 from hp)
            clear hp hV g1 f1 F0c1 w1
            refine (rr_num g s1 s2 x2 HQ.out.2.1 V0p1 F0p1.out.1.1.1).mono ?_
            rintro e V0c2 ⟨rfl, hr, hm⟩
            have F0c2 := Lib.hid (F0p1.out.call hr hm)
            have g2 : V0c2.cell? ⟨X, 1, none⟩ = some (.int .i64 0) := F0c2.out.2.2.1.cell 1
            have f2 : V0c2.frozen? ⟨X, 1, none⟩ = false := F0c2.out.2.2.1.free 1
            clear hr hm
            have w2 := num_wrap HQ.out.2.1
            go_wp2_with fail
            obtain ⟨V0p2, hV⟩ : ∃ V, V = V0c2.setCell ⟨X, 1, none⟩ (.int .i64 x2) := ⟨_, rfl⟩
            have hp := F0c2.out.put 1 (.int .i64 x2)
            rw [← hV] at hp ⊢
            have F0p2 := Lib.hid (show FS w g M s2 #[.slice o0 n0 c0, .slice ao k c, .slice none 0 0] wr X 102 #[.int .i64 x1, .int .i64 x2, .string ⟨#[]⟩] V0p2 from hp)
            clear hp hV g2 f2 F0c2 w2
            clear F0p1
            refine (rr_take g s2 s3 32 (by decide) x3 HQ.out.2.2 V0p2 F0p2.out.1.1.1).mono ?_
            rintro e V0c3 ⟨rfl, hr, hm⟩
            have F0c3 := Lib.hid (F0p2.out.call hr hm)
            have g3 : V0c3.cell? ⟨X, 2, none⟩ = some (.string ⟨#[]⟩) := F0c3.out.2.2.1.cell 2
            have f3 : V0c3.frozen? ⟨X, 2, none⟩ = false := F0c3.out.2.2.1.free 2
            clear hr hm
            go_upto_region 20 with (fail)
            obtain ⟨V0p3, hV⟩ : ∃ V, V = V0c3.setCell ⟨X, 2, none⟩ (.string x3) := ⟨_, rfl⟩
            have hp := F0c3.out.put 2 (.string x3)
            rw [← hV] at hp ⊢
            have F0p3 := Lib.hid (show FS w g M s3 #[.slice o0 n0 c0, .slice ao k c, .slice none 0 0] wr X 102 #[.int .i64 x1, .int .i64 x2, .string x3] V0p3 from hp)
            clear hp hV g3 f3 F0c3
            clear F0p2
            have hs1 := Lib.hid (sl_chg HL.out.2.1 F0p3.out.2.1 (by have := F0p3.out.1.2; omega))
            have e0 : V0p3.cell? ⟨M, 1, none⟩ = some (.slice ao k c) := F0p3.out.1.1.2.2.1.cell 1
            have e1 : V0p3.frozen? ⟨M, 1, none⟩ = false := F0p3.out.1.1.2.2.1.free 1
            have g0 : V0p3.cell? ⟨X, 0, none⟩ = some (.int .i64 x1) := F0p3.out.2.2.1.cell 0
            have g1 : V0p3.cell? ⟨X, 1, none⟩ = some (.int .i64 x2) := F0p3.out.2.2.1.cell 1
            have g2 : V0p3.cell? ⟨X, 2, none⟩ = some (.string x3) := F0p3.out.2.2.1.cell 2
            have hNN := HN2.out
            have hMl : M + 1 ≤ V0p3.heap.size := F0p3.out.1.1.2.2.1.lt
            have hMM : M < V0p3.heap.size := hMl
            go_wp2_with (at_builtin; refine wpList_append_sl rfl _ _ _ 25 (by rfl) el_tok (base := M + 1) (.slice ao k c) k (rowCells vTok l) (by rfl) (hs1.out.alloc _) _ 1 [Value.int .i64 x1, Value.int .i64 x2, Value.string x3] (by rfl) (SrcIs.own Tryz.underlying25 (SlIs.made (base := 0) (BlkIs.new _ _ _) (Nat.zero_le _) rfl (by decide))) (by intro u hu; simp at hu; rcases hu with rfl | rfl | rfl <;> rfl) (by unfold maxLen; omega) (by omega) (by simp; omega) ?_)
            intro v5 w5 hs5 hg5 hat5
            obtain ⟨ao5, c5, rfl, -, -, -⟩ := hs5.form
            have hrow : ∀ j, (Value.slice ao k c).ownBlock = some j → M < j := fun j hj => (hs1.out.lt j hj).1
            have R5 := (F0p3.out.1.alloc (.cells #[Value.int .i64 x1, Value.int .i64 x2, Value.string x3] 102)).app hg5 hrow
            have e5 : w5.cell? ⟨M, 1, none⟩ = some (.slice ao k c) := R5.1.2.2.1.cell 1
            have f5 : w5.frozen? ⟨M, 1, none⟩ = false := R5.1.2.2.1.free 1
            have R6 := Lib.hid (show RD w g M s3 #[.slice o0 n0 c0, .slice ao5 (k + 1) c5, .slice none 0 0] (w5.setCell ⟨M, 1, none⟩ (.slice ao5 (k + 1) c5)) from R5.put 1 (.slice ao5 (k + 1) c5))
            have hs6 := Lib.hid (sl_farB hs5 (p := ⟨M, 1, none⟩) (Nat.lt_succ_self M) (.slice ao5 (k + 1) c5))
            have kp0 := Lib.hid (sl_farB (sl_kept ((sl_chg HL.out.2.2.2.2 F0p3.out.2.1 (by have := F0p3.out.1.2; omega)).alloc (.cells #[Value.int .i64 x1, Value.int .i64 x2, Value.string x3] 102)) (hs1.out.alloc (.cells #[Value.int .i64 x1, Value.int .i64 x2, Value.string x3] 102)) (by decide) hg5) (p := ⟨M, 1, none⟩) (Nat.lt_succ_self M) (.slice ao5 (k + 1) c5))
            clear hs5 hg5 hat5 hrow R5 e0 e1 g0 g1 g2 hMl hMM
            have kw : IntKind.i64.wrap ((k : Int) + 1) = ((k + 1 : Nat) : Int) := IntWalk.i64_in _ (by omega)
            clear hNN
            go_wp2_with fail
            refine ⟨⟨k + 1, c5, ao5, s3.2, s3.1, l ++ [⟨x1, x2, x3⟩], by simp, by omega, Lib.hid ⟨R6.out, ?_, by simp [HL.out.2.2.1], ?_, kp0.out⟩⟩, by simp [intOf]; omega⟩
            · rw [rowCells_app, rowCells_one]; exact hs6.out
            · rw [HL.out.2.2.2.1, HSN.out.1, HSN.out.2, List.append_assoc]
          · have hrb := rList_bad rTok (N2 - k) (r, true) rfl
            have HRB := Lib.hid hrb
            clear hrb
            go_wp2_with fail
            go_meet
            case rel =>
              refine Lib.hid ⟨l, ao, k, c, (r, true), ?_, HL.out.2.2.1.symm, HL.out.2.1, HL.out.1, HL.out.2.2.2.2⟩
              rw [HL.out.2.2.2.1, HRB.out, List.append_nil]
        · have ki : decide (k < N2) = false := decide_eq_false (by omega)
          obtain rfl : N2 = k := by omega
          clear hge
          go_wp2_with fail
          go_meet
          case rel =>
            refine Lib.hid ⟨l, ao, N2, c, (r, b), ?_, HL.out.2.2.1.symm, HL.out.2.1, HL.out.1, HL.out.2.2.2.2⟩
            rw [HL.out.2.2.2.1, Nat.sub_self]
            show (l ++ [], (r, b)) = _
            rw [List.append_nil]
    case rest =>
      obtain ⟨l1, o1, n1, c1, q1, hl1, hn1, hs1, hR, hk0⟩ := hcut.out
      clear HC2 hcut Kk0 Hs0
      have HL1 := Lib.hid (show rMany rTok 256 q0 = (l1, q1) by rw [HM2.out Tok rTok]; exact hl1)
      have Hs0 := Lib.hid hk0
      have Hs1 := Lib.hid hs1
      have Hn1 := Lib.hid hn1
      have HR1 := Lib.hid hR
      clear hl1 hn1 hs1 hR hk0 HM2 HR0
      go_wp2_with fail
      refine (rcount_any g q1 64 wc HR1.out.1.1 (by decide)).mono ?_
      rintro e W3n ⟨N3, t3, rfl, hN, hr, hm, hM⟩
      have HN4 := Lib.hid hN
      have HM3 := Lib.hid hM
      have HC3 := Lib.hid (HR1.out.call hr hm)
      have Kk0 := Lib.hid (hm.sl Hs0.out (by have := HR1.out.2; omega))
      have Kk1 := Lib.hid (hm.sl Hs1.out (by have := HR1.out.2; omega))
      clear hN hr hm hM
      go_upto_block 4 with (fail)
      go_cut [11, 12, 13, 14, 15, 16, 17] from 86 to 170 (fun y11 y12 y13 y14 y15 y16 y17 wx => Hid (∃ (l : List TbR) (ao : Option Addr) (n c : Nat) (st : RS), rList rTb N3 t3 = (l.map (·.t), st) ∧ n = l.length ∧ SlIs wx (M + 1) 54 5 (.slice ao n c) n (rowCells vTb l) ∧ RD w g M st #[.slice o0 n0 c0, .slice o1 n1 c1, .slice ao n c] wx ∧ (∀ z ∈ l, z.Own (M + 1) wx) ∧ SlIs wx (M + 1) 51 3 (.slice o0 n0 c0) n0 (rowCells vRf l0) ∧ SlIs wx (M + 1) 102 3 (.slice o1 n1 c1) n1 (rowCells vTok l1)))
      case first =>
        go_wp2_with fail
        go_loopw [11] (fun i wr => ∃ (k c : Nat) (ao : Option Addr) (b : Bool) (r : ByteArray) (l : List TbR), i = .int .i64 (k : Int) ∧ k ≤ N3 ∧ Hid (RD w g M (r, b) #[.slice o0 n0 c0, .slice o1 n1 c1, .slice ao k c] wr ∧ SlIs wr (M + 1) 54 5 (.slice ao k c) k (rowCells vTb l) ∧ l.length = k ∧ (rList rTb N3 t3 = (l.map (·.t) ++ (rList rTb (N3 - k) (r, b)).1, (rList rTb (N3 - k) (r, b)).2)) ∧ (∀ z ∈ l, z.Own (M + 1) wr) ∧ SlIs wr (M + 1) 51 3 (.slice o0 n0 c0) n0 (rowCells vRf l0) ∧ SlIs wr (M + 1) 102 3 (.slice o1 n1 c1) n1 (rowCells vTok l1))) (fun i _ => N3 - (intOf i).toNat)
        case atStart => exact ⟨0, 0, none, t3.2, t3.1, [], rfl, Nat.zero_le _, Lib.hid ⟨HC3.out, SlIs.nil_ _ _ _ _, rfl, rfl, (fun z hz => by cases hz), Kk0.out, Kk1.out⟩⟩
        case round =>
          obtain ⟨k, c, ao, b, r, l, rfl, hkN, HL⟩ := hrel
          obtain ⟨wo, rfl⟩ : ∃ wo, wo = wr := ⟨_, rfl⟩
          have d2 : wo.cell? ⟨g, 2, none⟩ = some (.bool b) := HL.out.1.1.1.flag.1
          have e0 : wo.cell? ⟨M, 2, none⟩ = some (.slice ao k c) := HL.out.1.1.2.2.1.cell 2
          rcases Nat.lt_or_ge k N3 with hlt | hge
          · have ki : (k : Int) < N3 := by omega
            cases b
            · have hsn := rList_snoc rTb (N3 - (k + 1)) (r, false) rfl
              rw [show N3 - (k + 1) + 1 = N3 - k by omega] at hsn
              obtain ⟨x1, s1, hq1⟩ : ∃ x s', rNum (r, false) = (x, s') := ⟨_, _, rfl⟩
              obtain ⟨x2, s2, hq2⟩ : ∃ x s', rNum s1 = (x, s') := ⟨_, _, rfl⟩
              obtain ⟨x3, s3, hq3⟩ : ∃ x s', rTake 32 s2 = (x, s') := ⟨_, _, rfl⟩
              have ho : rTok (r, false) = (⟨x1, x2, x3⟩, s3) := by unfold rTok; simp only [hq1, hq2, hq3]
              have HO := Lib.hid ho
              have HSN := Lib.hid hsn
              have HQ := Lib.hid (And.intro hq1 (And.intro hq2 hq3))
              clear hsn ho hq1 hq2 hq3
              obtain ⟨T, hX⟩ : ∃ X, X = wo.heap.size := ⟨_, rfl⟩
              obtain ⟨V0, hV0⟩ : ∃ V, V = wo.alloc (.cells #[.int .i64 0, .int .i64 0, .string ⟨#[]⟩, .slice none 0 0, .slice none 0 0] 54) := ⟨_, rfl⟩
              have F0 := Lib.hid (show FS w g M (r, false) #[.slice o0 n0 c0, .slice o1 n1 c1, .slice ao k c] wo T 54 #[.int .i64 0, .int .i64 0, .string ⟨#[]⟩, .slice none 0 0, .slice none 0 0] V0 from by rw [hX, hV0]; exact FS.start HL.out.1 _ _)
              have HXV := Lib.hid (And.intro hX hV0)
              clear hX hV0
              go_wp2_with fail
              rw [← HXV.out.2, ← HXV.out.1]
              clear d2 e0
              refine (rr_num g (r, false) s1 x1 HQ.out.1 V0 F0.out.1.1.1).mono ?_
              rintro e V0c1 ⟨rfl, hr, hm⟩
              have F0c1 := Lib.hid (F0.out.call hr hm)
              have g1 : V0c1.cell? ⟨T, 0, none⟩ = some (.int .i64 0) := F0c1.out.2.2.1.cell 0
              have f1 : V0c1.frozen? ⟨T, 0, none⟩ = false := F0c1.out.2.2.1.free 0
              clear hr hm
              have w1 := num_wrap HQ.out.1
              go_wp2_with fail
              obtain ⟨V0p1, hV⟩ : ∃ V, V = V0c1.setCell ⟨T, 0, none⟩ (.int .i64 x1) := ⟨_, rfl⟩
              have hp := F0c1.out.put 0 (.int .i64 x1)
              rw [← hV] at hp ⊢
              have F0p1 := Lib.hid (show FS w g M s1 #[.slice o0 n0 c0, .slice o1 n1 c1, .slice ao k c] wo T 54 #[.int .i64 x1, .int .i64 0, .string ⟨#[]⟩, .slice none 0 0, .slice none 0 0] V0p1 from hp)
              clear hp hV g1 f1 F0c1 w1
              refine (rr_num g s1 s2 x2 HQ.out.2.1 V0p1 F0p1.out.1.1.1).mono ?_
              rintro e V0c2 ⟨rfl, hr, hm⟩
              have F0c2 := Lib.hid (F0p1.out.call hr hm)
              have g2 : V0c2.cell? ⟨T, 1, none⟩ = some (.int .i64 0) := F0c2.out.2.2.1.cell 1
              have f2 : V0c2.frozen? ⟨T, 1, none⟩ = false := F0c2.out.2.2.1.free 1
              clear hr hm
              have w2 := num_wrap HQ.out.2.1
              go_wp2_with fail
              obtain ⟨V0p2, hV⟩ : ∃ V, V = V0c2.setCell ⟨T, 1, none⟩ (.int .i64 x2) := ⟨_, rfl⟩
              have hp := F0c2.out.put 1 (.int .i64 x2)
              rw [← hV] at hp ⊢
              have F0p2 := Lib.hid (show FS w g M s2 #[.slice o0 n0 c0, .slice o1 n1 c1, .slice ao k c] wo T 54 #[.int .i64 x1, .int .i64 x2, .string ⟨#[]⟩, .slice none 0 0, .slice none 0 0] V0p2 from hp)
              clear hp hV g2 f2 F0c2 w2
              clear F0p1
              refine (rr_take g s2 s3 32 (by decide) x3 HQ.out.2.2 V0p2 F0p2.out.1.1.1).mono ?_
              rintro e V0c3 ⟨rfl, hr, hm⟩
              have F0c3 := Lib.hid (F0p2.out.call hr hm)
              have g3 : V0c3.cell? ⟨T, 2, none⟩ = some (.string ⟨#[]⟩) := F0c3.out.2.2.1.cell 2
              have f3 : V0c3.frozen? ⟨T, 2, none⟩ = false := F0c3.out.2.2.1.free 2
              clear hr hm
              go_wp2_with fail
              obtain ⟨V0p3, hV⟩ : ∃ V, V = V0c3.setCell ⟨T, 2, none⟩ (.string x3) := ⟨_, rfl⟩
              have hp := F0c3.out.put 2 (.string x3)
              rw [← hV] at hp ⊢
              have F0p3 := Lib.hid (show FS w g M s3 #[.slice o0 n0 c0, .slice o1 n1 c1, .slice ao k c] wo T 54 #[.int .i64 x1, .int .i64 x2, .string x3, .slice none 0 0, .slice none 0 0] V0p3 from hp)
              clear hp hV g3 f3 F0c3
              clear F0p2
              refine (rcount_any g s3 256 V0p3 F0p3.out.1.1.1 (by decide)).mono ?_
              rintro e W4n ⟨N4, t4, rfl, hN, hr, hm, hM⟩
              have HN6 := Lib.hid hN
              have HM4 := Lib.hid (hM Tok (rCov x3))
              have HC4 := Lib.hid (F0p3.out.call hr hm)
              clear hN hr hm hM F0p3
              go_upto_block 6 with (fail)
              go_cut [14, 15] from 112 to 141 (fun y14 y15 wx => Hid (∃ (lc : List Tok) (oc : Option Addr) (nc cc : Nat) (st : RS), rList (rCov x3) N4 t4 = (lc, st) ∧ nc = lc.length ∧ SlIs wx (T + 1) 102 3 (.slice oc nc cc) nc (rowCells vTok lc) ∧ FS w g M st #[.slice o0 n0 c0, .slice o1 n1 c1, .slice ao k c] wo T 54 #[.int .i64 x1, .int .i64 x2, .string x3, .slice oc nc cc, .slice none 0 0] wx))
              case first =>
                go_wp2_with fail
                go_loopw [14] (fun i wr => ∃ (j cc : Nat) (oc : Option Addr) (b2 : Bool) (r2 : ByteArray) (lc : List Tok), i = .int .i64 (j : Int) ∧ j ≤ N4 ∧ Hid (FS w g M (r2, b2) #[.slice o0 n0 c0, .slice o1 n1 c1, .slice ao k c] wo T 54 #[.int .i64 x1, .int .i64 x2, .string x3, .slice oc j cc, .slice none 0 0] wr ∧ SlIs wr (T + 1) 102 3 (.slice oc j cc) j (rowCells vTok lc) ∧ lc.length = j ∧ (rList (rCov x3) N4 t4 = (lc ++ (rList (rCov x3) (N4 - j) (r2, b2)).1, (rList (rCov x3) (N4 - j) (r2, b2)).2)))) (fun i _ => N4 - (intOf i).toNat)
                case atStart => exact ⟨0, 0, none, t4.2, t4.1, [], rfl, Nat.zero_le _, Lib.hid ⟨HC4.out, SlIs.nil_ _ _ _ _, rfl, rfl⟩⟩
                case round =>
                  obtain ⟨j, cc, oc, b2, r2, lc, rfl, hjN, HI⟩ := hrel
                  have d2 : wr.cell? ⟨g, 2, none⟩ = some (.bool b2) := HI.out.1.1.1.1.flag.1
                  rcases Nat.lt_or_ge j N4 with hlt2 | hge2
                  · have ji : (j : Int) < N4 := by omega
                    cases b2
                    · have hsn := rList_snoc (rCov x3) (N4 - (j + 1)) (r2, false) rfl
                      rw [show N4 - (j + 1) + 1 = N4 - j by omega] at hsn
                      obtain ⟨a1, i1, hq1⟩ : ∃ x s', rNum (r2, false) = (x, s') := ⟨_, _, rfl⟩
                      obtain ⟨a2, i2, hq2⟩ : ∃ x s', rNum i1 = (x, s') := ⟨_, _, rfl⟩
                      have ho2 : rCov x3 (r2, false) = (⟨a1, a2, x3⟩, i2) := by unfold rCov; simp only [hq1, hq2]
                      rw [ho2] at hsn
                      have HSM := Lib.hid hsn
                      have HQ2 := Lib.hid (And.intro hq1 hq2)
                      clear hsn ho2 hq1 hq2
                      obtain ⟨X, hX⟩ : ∃ X, X = wr.heap.size := ⟨_, rfl⟩
                      obtain ⟨U0, hV0⟩ : ∃ V, V = wr.alloc (.cells #[.int .i64 0, .int .i64 0, .string ⟨#[]⟩] 102) := ⟨_, rfl⟩
                      have HTX := Lib.hid (show T < X from by rw [hX]; exact HI.out.1.2.2.1.lt)
                      have G0 := Lib.hid (show FS w g M (r2, false) #[.slice o0 n0 c0, .slice o1 n1 c1, .slice ao k c] wo T 54 #[.int .i64 x1, .int .i64 x2, .string x3, .slice oc j cc, .slice none 0 0] U0 ∧ BlkIs U0 X 102 #[.int .i64 0, .int .i64 0, .string ⟨#[]⟩] ∧ SlIs U0 (T + 1) 102 3 (.slice oc j cc) j (rowCells vTok lc) ∧ (∀ q, (Value.slice oc j cc).ownBlock = some q → q ≠ X) from by
                        rw [hX, hV0]
                        exact ⟨HI.out.1.alloc _, BlkIs.new _ _ _, HI.out.2.1.alloc _, fun q hq => by have := (HI.out.2.1.lt q hq).2; omega⟩)
                      have HXW := Lib.hid (And.intro hX hV0)
                      clear hX hV0
                      go_wp2_with fail
                      rw [← HXW.out.2, ← HXW.out.1]
                      clear d2
                      refine (rr_num g (r2, false) i1 a1 HQ2.out.1 U0 G0.out.1.1.1.1).mono ?_
                      rintro e U1c ⟨rfl, hr, hm⟩
                      have G1c := Lib.hid (show FS w g M i1 #[.slice o0 n0 c0, .slice o1 n1 c1, .slice ao k c] wo T 54 #[.int .i64 x1, .int .i64 x2, .string x3, .slice oc j cc, .slice none 0 0] U1c ∧ BlkIs U1c X 102 #[.int .i64 0, .int .i64 0, .string ⟨#[]⟩] ∧ SlIs U1c (T + 1) 102 3 (.slice oc j cc) j (rowCells vTok lc) ∧ (∀ q, (Value.slice oc j cc).ownBlock = some q → q ≠ X) from
                        ⟨G0.out.1.call hr hm, hm.blk G0.out.2.1 (by have := HTX.out; have := G0.out.1.1.2; have := G0.out.1.2.2.2; omega), hm.sl G0.out.2.2.1 (by have := G0.out.1.1.2; have := G0.out.1.2.2.2; omega), G0.out.2.2.2⟩)
                      have g1 : U1c.cell? ⟨X, 0, none⟩ = some (.int .i64 0) := G1c.out.2.1.cell 0
                      have f1 : U1c.frozen? ⟨X, 0, none⟩ = false := G1c.out.2.1.free 0
                      have w1 := num_wrap HQ2.out.1
                      clear hr hm G0
                      go_wp2_with fail
                      obtain ⟨U1, hV⟩ : ∃ V, V = U1c.setCell ⟨X, 0, none⟩ (.int .i64 a1) := ⟨_, rfl⟩
                      have G1 := Lib.hid (show FS w g M i1 #[.slice o0 n0 c0, .slice o1 n1 c1, .slice ao k c] wo T 54 #[.int .i64 x1, .int .i64 x2, .string x3, .slice oc j cc, .slice none 0 0] U1 ∧ BlkIs U1 X 102 #[.int .i64 a1, .int .i64 0, .string ⟨#[]⟩] ∧ SlIs U1 (T + 1) 102 3 (.slice oc j cc) j (rowCells vTok lc) ∧ (∀ q, (Value.slice oc j cc).ownBlock = some q → q ≠ X) from by
                        rw [hV]
                        exact ⟨G1c.out.1.far (p := ⟨X, 0, none⟩) HTX.out _, G1c.out.2.1.put 0 _, G1c.out.2.2.1.far (p := ⟨X, 0, none⟩) (fun e => G1c.out.2.2.2 X e rfl) _, G1c.out.2.2.2⟩)
                      rw [← hV]
                      clear hV g1 f1 w1 G1c
                      refine (rr_num g i1 i2 a2 HQ2.out.2 U1 G1.out.1.1.1.1).mono ?_
                      rintro e U2c ⟨rfl, hr, hm⟩
                      have G2c := Lib.hid (show FS w g M i2 #[.slice o0 n0 c0, .slice o1 n1 c1, .slice ao k c] wo T 54 #[.int .i64 x1, .int .i64 x2, .string x3, .slice oc j cc, .slice none 0 0] U2c ∧ BlkIs U2c X 102 #[.int .i64 a1, .int .i64 0, .string ⟨#[]⟩] ∧ SlIs U2c (T + 1) 102 3 (.slice oc j cc) j (rowCells vTok lc) ∧ (∀ q, (Value.slice oc j cc).ownBlock = some q → q ≠ X) from
                        ⟨G1.out.1.call hr hm, hm.blk G1.out.2.1 (by have := HTX.out; have := G1.out.1.1.2; have := G1.out.1.2.2.2; omega), hm.sl G1.out.2.2.1 (by have := G1.out.1.1.2; have := G1.out.1.2.2.2; omega), G1.out.2.2.2⟩)
                      have g1 : U2c.cell? ⟨X, 1, none⟩ = some (.int .i64 0) := G2c.out.2.1.cell 1
                      have f1 : U2c.frozen? ⟨X, 1, none⟩ = false := G2c.out.2.1.free 1
                      have w1 := num_wrap HQ2.out.2
                      clear hr hm G1
                      go_upto_region 36 with (fail)
                      obtain ⟨U2, hV⟩ : ∃ V, V = U2c.setCell ⟨X, 1, none⟩ (.int .i64 a2) := ⟨_, rfl⟩
                      have G2 := Lib.hid (show FS w g M i2 #[.slice o0 n0 c0, .slice o1 n1 c1, .slice ao k c] wo T 54 #[.int .i64 x1, .int .i64 x2, .string x3, .slice oc j cc, .slice none 0 0] U2 ∧ BlkIs U2 X 102 #[.int .i64 a1, .int .i64 a2, .string ⟨#[]⟩] ∧ SlIs U2 (T + 1) 102 3 (.slice oc j cc) j (rowCells vTok lc) ∧ (∀ q, (Value.slice oc j cc).ownBlock = some q → q ≠ X) from by
                        rw [hV]
                        exact ⟨G2c.out.1.far (p := ⟨X, 1, none⟩) HTX.out _, G2c.out.2.1.put 1 _, G2c.out.2.2.1.far (p := ⟨X, 1, none⟩) (fun e => G2c.out.2.2.2 X e rfl) _, G2c.out.2.2.2⟩)
                      rw [← hV]
                      clear hV g1 f1 w1 G2c
                      have t2_ : U2.cell? ⟨T, 2, none⟩ = some (.string x3) := G2.out.1.2.2.1.cell 2
                      have g1 : U2.cell? ⟨X, 2, none⟩ = some (.string ⟨#[]⟩) := G2.out.2.1.cell 2
                      have f1 : U2.frozen? ⟨X, 2, none⟩ = false := G2.out.2.1.free 2
                      go_upto_region 37 with (fail)
                      obtain ⟨U3, hV⟩ : ∃ V, V = U2.setCell ⟨X, 2, none⟩ (.string x3) := ⟨_, rfl⟩
                      have G3 := Lib.hid (show FS w g M i2 #[.slice o0 n0 c0, .slice o1 n1 c1, .slice ao k c] wo T 54 #[.int .i64 x1, .int .i64 x2, .string x3, .slice oc j cc, .slice none 0 0] U3 ∧ BlkIs U3 X 102 #[.int .i64 a1, .int .i64 a2, .string x3] ∧ SlIs U3 (T + 1) 102 3 (.slice oc j cc) j (rowCells vTok lc) from by
                        rw [hV]
                        exact ⟨G2.out.1.far (p := ⟨X, 2, none⟩) HTX.out _, G2.out.2.1.put 2 _, G2.out.2.2.1.far (p := ⟨X, 2, none⟩) (fun e => G2.out.2.2.2 X e rfl) _⟩)
                      rw [← hV]
                      clear hV g1 f1 t2_ G2
                      have e0 : U3.cell? ⟨T, 3, none⟩ = some (.slice oc j cc) := G3.out.1.2.2.1.cell 3
                      have e1 : U3.frozen? ⟨T, 3, none⟩ = false := G3.out.1.2.2.1.free 3
                      have g0 : U3.cell? ⟨X, 0, none⟩ = some (.int .i64 a1) := G3.out.2.1.cell 0
                      have g1 : U3.cell? ⟨X, 1, none⟩ = some (.int .i64 a2) := G3.out.2.1.cell 1
                      have g2 : U3.cell? ⟨X, 2, none⟩ = some (.string x3) := G3.out.2.1.cell 2
                      have hNN := HN6.out
                      have hTl : T + 1 ≤ U3.heap.size := G3.out.1.2.2.1.lt
                      have hTT : T < U3.heap.size := hTl
                      go_wp2_with (at_builtin; refine wpList_append_sl rfl _ _ _ 25 (by rfl) el_tok (base := T + 1) (.slice oc j cc) j (rowCells vTok lc) (by rfl) (G3.out.2.2.alloc _) _ 1 [Value.int .i64 a1, Value.int .i64 a2, Value.string x3] (by rfl) (SrcIs.own Tryz.underlying25 (SlIs.made (base := 0) (BlkIs.new _ _ _) (Nat.zero_le _) rfl (by decide))) (by intro u hu; simp at hu; rcases hu with rfl | rfl | rfl <;> rfl) (by unfold maxLen; omega) (by omega) (by simp; omega) ?_)
                      intro v5 w5 hs5 hg5 hat5
                      obtain ⟨oc5, cc5, rfl, -, -, -⟩ := hs5.form
                      have hrow : ∀ q, (Value.slice oc j cc).ownBlock = some q → T < q := fun q hq => (G3.out.2.2.lt q hq).1
                      have R5 := (G3.out.1.alloc (.cells #[Value.int .i64 a1, Value.int .i64 a2, Value.string x3] 102)).app hg5 hrow
                      have e5 : w5.cell? ⟨T, 3, none⟩ = some (.slice oc j cc) := R5.2.2.1.cell 3
                      have f5 : w5.frozen? ⟨T, 3, none⟩ = false := R5.2.2.1.free 3
                      have R6 := Lib.hid (show FS w g M i2 #[.slice o0 n0 c0, .slice o1 n1 c1, .slice ao k c] wo T 54 #[.int .i64 x1, .int .i64 x2, .string x3, .slice oc5 (j + 1) cc5, .slice none 0 0] (w5.setCell ⟨T, 3, none⟩ (.slice oc5 (j + 1) cc5)) from R5.put 3 (.slice oc5 (j + 1) cc5))
                      have hs6 := Lib.hid (sl_farB hs5 (p := ⟨T, 3, none⟩) (Nat.lt_succ_self T) (.slice oc5 (j + 1) cc5))
                      clear hs5 hg5 hat5 hrow R5 e0 e1 g0 g1 g2 hTl hTT
                      have jw : IntKind.i64.wrap ((j : Int) + 1) = ((j + 1 : Nat) : Int) := IntWalk.i64_in _ (by omega)
                      clear hNN
                      go_wp2_with fail
                      refine ⟨⟨j + 1, cc5, oc5, i2.2, i2.1, lc ++ [⟨a1, a2, x3⟩], by simp, by omega, Lib.hid ⟨R6.out, ?_, by simp [HI.out.2.2.1], ?_⟩⟩, by simp [intOf]; omega⟩
                      · rw [rowCells_app, rowCells_one]; exact hs6.out
                      · rw [HI.out.2.2.2, HSM.out.1, HSM.out.2, List.append_assoc]
                    · have hrb := rList_bad (rCov x3) (N4 - j) (r2, true) rfl
                      have HRB := Lib.hid hrb
                      clear hrb
                      go_wp2_with fail
                      go_meet
                      case rel =>
                        refine Lib.hid ⟨lc, oc, j, cc, (r2, true), ?_, HI.out.2.2.1.symm, HI.out.2.1, HI.out.1⟩
                        rw [HI.out.2.2.2, HRB.out, List.append_nil]
                  · have ji : decide (j < N4) = false := decide_eq_false (by omega)
                    obtain rfl : N4 = j := by omega
                    clear hge2
                    go_wp2_with fail
                    go_meet
                    case rel =>
                      refine Lib.hid ⟨lc, oc, N4, cc, (r2, b2), ?_, HI.out.2.2.1.symm, HI.out.2.1, HI.out.1⟩
                      rw [HI.out.2.2.2, Nat.sub_self]
                      show (lc ++ [], (r2, b2)) = _
                      rw [List.append_nil]
              case rest =>
                obtain ⟨lc, oc, nc, cc, qc, hlc, hnc, hsc, hR⟩ := hcut.out
                clear HC4 hcut
                have HLC := Lib.hid (show rMany (rCov x3) 256 s3 = (lc, qc) by rw [HM4.out]; exact hlc)
                have Hsc := Lib.hid hsc
                have Hnc := Lib.hid hnc
                have HRC := Lib.hid hR
                clear hlc hnc hsc hR HM4
                go_wp2_with fail
                refine (rcount_any g qc 7 wc HRC.out.1.1.1 (by decide)).mono ?_
                rintro e W5n ⟨N5, t5, rfl, hN, hr, hm, hM⟩
                have HN8 := Lib.hid hN
                have HM5 := Lib.hid (hM Int rNum)
                have HC5 := Lib.hid (HRC.out.call hr hm)
                have Kc := Lib.hid (hm.sl Hsc.out (by have := HRC.out.1.2; have := HRC.out.2.2.2; omega))
                clear hN hr hm hM HRC Hsc
                go_upto_block 8 with (fail)
                go_cut [16, 17] from 144 to 164 (fun y16 y17 wx => Hid (∃ (la : List Int) (oa : Option Addr) (na ca : Nat) (st : RS), rList rNum N5 t5 = (la, st) ∧ na = la.length ∧ SlIs wx (T + 1) 3 1 (.slice oa na ca) na (rowCells vInt la) ∧ FS w g M st #[.slice o0 n0 c0, .slice o1 n1 c1, .slice ao k c] wo T 54 #[.int .i64 x1, .int .i64 x2, .string x3, .slice oc nc cc, .slice oa na ca] wx ∧ SlIs wx (T + 1) 102 3 (.slice oc nc cc) nc (rowCells vTok lc)))
                case first =>
                  go_wp2_with fail
                  go_loopw [16] (fun i wr => ∃ (j ca : Nat) (oa : Option Addr) (b2 : Bool) (r2 : ByteArray) (la : List Int), i = .int .i64 (j : Int) ∧ j ≤ N5 ∧ Hid (FS w g M (r2, b2) #[.slice o0 n0 c0, .slice o1 n1 c1, .slice ao k c] wo T 54 #[.int .i64 x1, .int .i64 x2, .string x3, .slice oc nc cc, .slice oa j ca] wr ∧ SlIs wr (T + 1) 3 1 (.slice oa j ca) j (rowCells vInt la) ∧ la.length = j ∧ (rList rNum N5 t5 = (la ++ (rList rNum (N5 - j) (r2, b2)).1, (rList rNum (N5 - j) (r2, b2)).2)) ∧ SlIs wr (T + 1) 102 3 (.slice oc nc cc) nc (rowCells vTok lc))) (fun i _ => N5 - (intOf i).toNat)
                  case atStart => exact ⟨0, 0, none, t5.2, t5.1, [], rfl, Nat.zero_le _, Lib.hid ⟨HC5.out, SlIs.nil_ _ _ _ _, rfl, rfl, Kc.out⟩⟩
                  case round =>
                    obtain ⟨j, ca, oa, b2, r2, la, rfl, hjN, HI⟩ := hrel
                    have d2 : wr.cell? ⟨g, 2, none⟩ = some (.bool b2) := HI.out.1.1.1.1.flag.1
                    rcases Nat.lt_or_ge j N5 with hlt2 | hge2
                    · have ji : (j : Int) < N5 := by omega
                      cases b2
                      · have hsn := rList_snoc rNum (N5 - (j + 1)) (r2, false) rfl
                        rw [show N5 - (j + 1) + 1 = N5 - j by omega] at hsn
                        obtain ⟨a1, i1, hq1⟩ : ∃ x s', rNum (r2, false) = (x, s') := ⟨_, _, rfl⟩
                        rw [hq1] at hsn
                        have HSM := Lib.hid hsn
                        have HQ2 := Lib.hid hq1
                        clear hsn hq1
                        go_wp2_with fail
                        refine (rr_num g (r2, false) i1 a1 HQ2.out wr HI.out.1.1.1.1).mono ?_
                        rintro e U1 ⟨rfl, hr, hm⟩
                        have G1 := Lib.hid (show FS w g M i1 #[.slice o0 n0 c0, .slice o1 n1 c1, .slice ao k c] wo T 54 #[.int .i64 x1, .int .i64 x2, .string x3, .slice oc nc cc, .slice oa j ca] U1 ∧ SlIs U1 (T + 1) 3 1 (.slice oa j ca) j (rowCells vInt la) ∧ SlIs U1 (T + 1) 102 3 (.slice oc nc cc) nc (rowCells vTok lc) from
                          ⟨HI.out.1.call hr hm, hm.sl HI.out.2.1 (by have := HI.out.1.1.2; have := HI.out.1.2.2.2; omega), hm.sl HI.out.2.2.2.2 (by have := HI.out.1.1.2; have := HI.out.1.2.2.2; omega)⟩)
                        have w1 := num_wrap HQ2.out
                        have e0 : U1.cell? ⟨T, 4, none⟩ = some (.slice oa j ca) := G1.out.1.2.2.1.cell 4
                        have e1 : U1.frozen? ⟨T, 4, none⟩ = false := G1.out.1.2.2.1.free 4
                        have hNN := HN8.out
                        have hTl : T + 1 ≤ U1.heap.size := G1.out.1.2.2.1.lt
                        have hTT : T < U1.heap.size := hTl
                        clear hr hm d2
                        go_wp2_with (at_builtin; refine wpList_append_sl rfl _ _ _ 52 (by rfl) el_int (base := T + 1) (.slice oa j ca) j (rowCells vInt la) (by rfl) (G1.out.2.1.alloc _) _ 1 [Value.int .i64 a1] (by rfl) (SrcIs.own Tryz.underlying52 (SlIs.made (base := 0) (BlkIs.new _ _ _) (Nat.zero_le _) rfl (by decide))) (by intro u hu; simp at hu; rw [hu]; rfl) (by unfold maxLen; clear w1; omega) (by clear w1; omega) (by clear w1; simp; omega) ?_)
                        intro v5 w5 hs5 hg5 hat5
                        obtain ⟨oa5, ca5, rfl, -, -, -⟩ := hs5.form
                        have hrow : ∀ q, (Value.slice oa j ca).ownBlock = some q → T < q := fun q hq => (G1.out.2.1.lt q hq).1
                        have R5 := (G1.out.1.alloc (.cells #[Value.int .i64 a1] 3)).app hg5 hrow
                        have e5 : w5.cell? ⟨T, 4, none⟩ = some (.slice oa j ca) := R5.2.2.1.cell 4
                        have f5 : w5.frozen? ⟨T, 4, none⟩ = false := R5.2.2.1.free 4
                        have R6 := Lib.hid (show FS w g M i1 #[.slice o0 n0 c0, .slice o1 n1 c1, .slice ao k c] wo T 54 #[.int .i64 x1, .int .i64 x2, .string x3, .slice oc nc cc, .slice oa5 (j + 1) ca5] (w5.setCell ⟨T, 4, none⟩ (.slice oa5 (j + 1) ca5)) from R5.put 4 (.slice oa5 (j + 1) ca5))
                        have hs6 := Lib.hid (sl_farB hs5 (p := ⟨T, 4, none⟩) (Nat.lt_succ_self T) (.slice oa5 (j + 1) ca5))
                        have kc6 := Lib.hid (sl_farB (sl_kept (G1.out.2.2.alloc (.cells #[Value.int .i64 a1] 3)) (G1.out.2.1.alloc (.cells #[Value.int .i64 a1] 3)) (by decide) hg5) (p := ⟨T, 4, none⟩) (Nat.lt_succ_self T) (.slice oa5 (j + 1) ca5))
                        clear hs5 hg5 hat5 hrow R5 e0 e1 hTl hTT w1
                        have jw : IntKind.i64.wrap ((j : Int) + 1) = ((j + 1 : Nat) : Int) := IntWalk.i64_in _ (by omega)
                        clear hNN
                        go_wp2_with fail
                        refine ⟨⟨j + 1, ca5, oa5, i1.2, i1.1, la ++ [a1], by simp, by omega, Lib.hid ⟨R6.out, ?_, by simp [HI.out.2.2.1], ?_, kc6.out⟩⟩, by simp [intOf]; omega⟩
                        · rw [rowCells_app, rowCells_one]; exact hs6.out
                        · rw [HI.out.2.2.2.1, HSM.out.1, HSM.out.2, List.append_assoc]
                      · have hrb := rList_bad rNum (N5 - j) (r2, true) rfl
                        have HRB := Lib.hid hrb
                        clear hrb
                        go_wp2_with fail
                        go_meet
                        case rel =>
                          refine Lib.hid ⟨la, oa, j, ca, (r2, true), ?_, HI.out.2.2.1.symm, HI.out.2.1, HI.out.1, HI.out.2.2.2.2⟩
                          rw [HI.out.2.2.2.1, HRB.out, List.append_nil]
                    · have ji : decide (j < N5) = false := decide_eq_false (by omega)
                      obtain rfl : N5 = j := by omega
                      clear hge2
                      go_wp2_with fail
                      go_meet
                      case rel =>
                        refine Lib.hid ⟨la, oa, N5, ca, (r2, b2), ?_, HI.out.2.2.1.symm, HI.out.2.1, HI.out.1, HI.out.2.2.2.2⟩
                        rw [HI.out.2.2.2.1, Nat.sub_self]
                        show (la ++ [], (r2, b2)) = _
                        rw [List.append_nil]
                case rest =>
                  obtain ⟨la, oa, na, ca, qa, hla, hna, hsa, hR, hsc⟩ := hcut.out
                  clear HC5 hcut Kc
                  have HLA := Lib.hid (show rMany rNum 7 qc = (la, qa) by rw [HM5.out]; exact hla)
                  have HTB := Lib.hid (show rTb (r, false) = (⟨x1, x2, x3, lc, la⟩, qa) by unfold rTb; simp only [HO.out, HLC.out, HLA.out])
                  have Hsc := Lib.hid hsc
                  have Hsa := Lib.hid hsa
                  have Hna := Lib.hid hna
                  have HRA := Lib.hid hR
                  clear hla hna hsa hR hsc HM5
                  have hs1 := Lib.hid (sl_chg HL.out.2.1 HRA.out.2.1 (by have := HRA.out.1.2; omega))
                  have e0 : wc.cell? ⟨M, 2, none⟩ = some (.slice ao k c) := HRA.out.1.1.2.2.1.cell 2
                  have e1 : wc.frozen? ⟨M, 2, none⟩ = false := HRA.out.1.1.2.2.1.free 2
                  have g0 : wc.cell? ⟨T, 0, none⟩ = some (.int .i64 x1) := HRA.out.2.2.1.cell 0
                  have g1 : wc.cell? ⟨T, 1, none⟩ = some (.int .i64 x2) := HRA.out.2.2.1.cell 1
                  have g2 : wc.cell? ⟨T, 2, none⟩ = some (.string x3) := HRA.out.2.2.1.cell 2
                  have g3 : wc.cell? ⟨T, 3, none⟩ = some (.slice oc nc cc) := HRA.out.2.2.1.cell 3
                  have g4 : wc.cell? ⟨T, 4, none⟩ = some (.slice oa na ca) := HRA.out.2.2.1.cell 4
                  have hNN := HN4.out
                  have hMl : M + 1 ≤ wc.heap.size := HRA.out.1.1.2.2.1.lt
                  have hMM : M < wc.heap.size := hMl
                  go_wp2_with (at_builtin; refine wpList_append_sl rfl _ _ _ 26 (by rfl) el_tb (base := M + 1) (.slice ao k c) k (rowCells vTb l) (by rfl) (hs1.out.alloc _) _ 1 [Value.int .i64 x1, Value.int .i64 x2, Value.string x3, Value.slice oc nc cc, Value.slice oa na ca] (by rfl) (SrcIs.own Tryz.underlying26 (SlIs.made (base := 0) (BlkIs.new _ _ _) (Nat.zero_le _) rfl (by decide))) (by intro u hu; simp at hu; rcases hu with rfl | rfl | rfl | rfl | rfl <;> rfl) (by unfold maxLen; omega) (by omega) (by simp; omega) ?_)
                  intro v5 w5 hs5 hg5 hat5
                  obtain ⟨ao5, c5, rfl, -, -, -⟩ := hs5.form
                  have hrow : ∀ j, (Value.slice ao k c).ownBlock = some j → M < j := fun j hj => (hs1.out.lt j hj).1
                  have R5 := (HRA.out.1.alloc (.cells #[Value.int .i64 x1, Value.int .i64 x2, Value.string x3, Value.slice oc nc cc, Value.slice oa na ca] 54)).app hg5 hrow
                  have e5 : w5.cell? ⟨M, 2, none⟩ = some (.slice ao k c) := R5.1.2.2.1.cell 2
                  have f5 : w5.frozen? ⟨M, 2, none⟩ = false := R5.1.2.2.1.free 2
                  have R6 := Lib.hid (show RD w g M qa #[.slice o0 n0 c0, .slice o1 n1 c1, .slice ao5 (k + 1) c5] (w5.setCell ⟨M, 2, none⟩ (.slice ao5 (k + 1) c5)) from R5.put 2 (.slice ao5 (k + 1) c5))
                  have hs6 := Lib.hid (sl_farB hs5 (p := ⟨M, 2, none⟩) (Nat.lt_succ_self M) (.slice ao5 (k + 1) c5))
                  have kp0 := Lib.hid (sl_farB (sl_kept ((sl_chg HL.out.2.2.2.2.2.1 HRA.out.2.1 (by have := HRA.out.1.2; omega)).alloc (.cells #[Value.int .i64 x1, Value.int .i64 x2, Value.string x3, Value.slice oc nc cc, Value.slice oa na ca] 54)) (hs1.out.alloc (.cells #[Value.int .i64 x1, Value.int .i64 x2, Value.string x3, Value.slice oc nc cc, Value.slice oa na ca] 54)) (by decide) hg5) (p := ⟨M, 2, none⟩) (Nat.lt_succ_self M) (.slice ao5 (k + 1) c5))
                  have kp1 := Lib.hid (sl_farB (sl_kept ((sl_chg HL.out.2.2.2.2.2.2 HRA.out.2.1 (by have := HRA.out.1.2; omega)).alloc (.cells #[Value.int .i64 x1, Value.int .i64 x2, Value.string x3, Value.slice oc nc cc, Value.slice oa na ca] 54)) (hs1.out.alloc (.cells #[Value.int .i64 x1, Value.int .i64 x2, Value.string x3, Value.slice oc nc cc, Value.slice oa na ca] 54)) (by decide) hg5) (p := ⟨M, 2, none⟩) (Nat.lt_succ_self M) (.slice ao5 (k + 1) c5))
                  have kz := Lib.hid (show ∀ z ∈ l ++ [(⟨⟨x1, x2, x3, lc, la⟩, .slice oc nc cc, .slice oa na ca⟩ : TbR)], z.Own (M + 1) (w5.setCell ⟨M, 2, none⟩ (.slice ao5 (k + 1) c5)) from fun z hz => by
                    have hz1 : z.Own (M + 1) wc := by
                      rcases List.mem_append.1 hz with hz | hz
                      · exact (HL.out.2.2.2.2.1 z hz).chg HRA.out.2.1 (by have := HRA.out.1.2; omega)
                      · rw [List.mem_singleton.1 hz]
                        have h1 := Hsc.out
                        have h2 := Hsa.out
                        rw [Hnc.out] at h1
                        rw [Hna.out] at h2
                        have hle : M + 1 ≤ T + 1 := by have := HRA.out.2.2.2; omega
                        exact ⟨by show SlIs wc (M + 1) _ 3 (.slice oc nc cc) lc.length _; rw [Hnc.out]; exact h1.mono hle, by show SlIs wc (M + 1) _ 1 (.slice oa na ca) la.length _; rw [Hna.out]; exact h2.mono hle⟩
                    have hz2 : z.Own (M + 1) (wc.alloc (.cells #[Value.int .i64 x1, Value.int .i64 x2, Value.string x3, Value.slice oc nc cc, Value.slice oa na ca] 54)) := hz1.later ((Below.refl _ _).alloc (Nat.le_refl _) _)
                    exact (hz2.grown (hs1.out.alloc (.cells #[Value.int .i64 x1, Value.int .i64 x2, Value.string x3, Value.slice oc nc cc, Value.slice oa na ca] 54)) hg5).far' (p := ⟨M, 2, none⟩) (Nat.lt_succ_self M) _)
                  clear hs5 hg5 hat5 hrow R5 e0 e1 g0 g1 g2 g3 g4 hMl hMM
                  have kw : IntKind.i64.wrap ((k : Int) + 1) = ((k + 1 : Nat) : Int) := IntWalk.i64_in _ (by omega)
                  clear hNN
                  go_wp2_with fail
                  refine ⟨⟨k + 1, c5, ao5, qa.2, qa.1, l ++ [⟨⟨x1, x2, x3, lc, la⟩, .slice oc nc cc, .slice oa na ca⟩], by simp, by omega, Lib.hid ⟨R6.out, ?_, by simp [HL.out.2.2.1], ?_, kz.out, kp0.out, kp1.out⟩⟩, by simp [intOf]; omega⟩
                  · rw [rowCells_app, rowCells_one]; exact hs6.out
                  · rw [HL.out.2.2.2.1, HSN.out.1, HSN.out.2, HTB.out, List.map_append, List.append_assoc]
                    rfl
            · have hrb := rList_bad rTb (N3 - k) (r, true) rfl
              have HRB := Lib.hid hrb
              clear hrb
              go_wp2_with fail
              go_meet
              case rel =>
                refine Lib.hid ⟨l, ao, k, c, (r, true), ?_, HL.out.2.2.1.symm, HL.out.2.1, HL.out.1, HL.out.2.2.2.2⟩
                rw [HL.out.2.2.2.1, HRB.out, List.append_nil]
          · have ki : decide (k < N3) = false := decide_eq_false (by omega)
            obtain rfl : N3 = k := by omega
            clear hge
            go_wp2_with fail
            go_meet
            case rel =>
              refine Lib.hid ⟨l, ao, N3, c, (r, b), ?_, HL.out.2.2.1.symm, HL.out.2.1, HL.out.1, HL.out.2.2.2.2⟩
              rw [HL.out.2.2.2.1, Nat.sub_self]
              show (l.map _ ++ [], (r, b)) = _
              rw [List.append_nil]
      case rest =>
        obtain ⟨l2, o2, n2, c2, q2, hl2, hn2, hs2, hR, hz, hk0, hk1⟩ := hcut.out
        clear HC3 hcut Kk0 Kk1 Hs0 Hs1
        have HL2 := Lib.hid (show rMany rTb 64 q1 = (l2.map (·.t), q2) by rw [HM3.out Tb rTb]; exact hl2)
        have Hs0 := Lib.hid hk0
        have Hs1 := Lib.hid hk1
        have Hs2 := Lib.hid hs2
        have Hn2 := Lib.hid hn2
        have Hz := Lib.hid hz
        have HR2 := Lib.hid hR
        clear hl2 hn2 hs2 hR hz hk0 hk1 HM3 HR1
        have hO : MkR.Own (M + 1) wc ⟨l0, l1, l2, .slice o0 n0 c0, .slice o1 n1 c1, .slice o2 n2 c2⟩ := by
          have p0 := Hs0.out
          have p1 := Hs1.out
          have p2 := Hs2.out
          rw [Hn0.out] at p0 ⊢
          rw [Hn1.out] at p1 ⊢
          rw [Hn2.out] at p2 ⊢
          exact ⟨p0, p1, p2, Hz.out⟩
        obtain ⟨m, hm⟩ : ∃ m : MkR, m = ⟨l0, l1, l2, .slice o0 n0 c0, .slice o1 n1 c1, .slice o2 n2 c2⟩ := ⟨_, rfl⟩
        have hma : aMk m = .agg #[.slice o0 n0 c0, .slice o1 n1 c1, .slice o2 n2 c2] := by rw [hm]; rfl
        have hmk : rMk (s, false) = (m.mk_, q2) := by
          unfold rMk
          simp only [HL0.out, HL1.out, HL2.out]
          rw [hm]
          rfl
        have hmS : m.Small := by
          have a0 := rMany_len rRf 64 (s, false) (by decide)
          have a1 := rMany_len rTok 256 q0 (by decide)
          have a2 := rMany_len rTb 64 q1 (by decide)
          rw [HL0.out] at a0
          rw [HL1.out] at a1
          rw [HL2.out] at a2
          dsimp only at a0 a1 a2
          rw [List.length_map] at a2
          rw [hm]
          refine ⟨by show l0.length ≤ _; omega, by show l1.length ≤ _; omega, by show l2.length ≤ _; omega, fun z hz => ?_⟩
          have hz' : z.t ∈ (rMany rTb 64 q1).1 := by
            rw [HL2.out]
            exact List.mem_map.2 ⟨z, hz, rfl⟩
          exact rList_all (P := fun t : Tb => t.acks.length ≤ 1000000 ∧ t.cov.length ≤ 1000000) rTb_fit _ _ _ hz'
        rw [← hm] at hO
        have HD := Lib.hid (show dec s = if q2.2 = false ∧ q2.1.size = 0 ∧ goodB m.mk_ = true then some m.mk_ else none by unfold dec; rw [hmk])
        have HA := Lib.hid hma
        have HX := Lib.hid (And.intro hO hmS)
        clear hO hm hma hmk hmS Hs0 Hs1 Hs2 Hz HL0 HL1 HL2 Hn0 Hn1 Hn2
        obtain ⟨r, b⟩ := q2
        go_wp2_with fail
        refine (rrd_whole g r b wc HR2.out.1.1).mono ?_
        rintro e X2 ⟨rfl, hb2⟩
        have kM : BlkIs X2 M 28 #[.slice o0 n0 c0, .slice o1 n1 c1, .slice o2 n2 c2] := BlkIs.below HR2.out.1.2.2.1 hb2 HR2.out.1.2.2.1.lt
        have kR : BlkIs X2 w.heap.size 28 #[.slice none 0 0, .slice none 0 0, .slice none 0 0] := BlkIs.below HR2.out.1.2.1 hb2 HR2.out.1.2.1.lt
        have bB : Below w.heap.size w X2 := HR2.out.1.2.2.2.trans (hb2.mono HR2.out.1.2.2.2.size)
        have HY := Lib.hid (And.intro (HX.out.1.later hb2) HX.out.2)
        have HKM := Lib.hid kM
        have HKR := Lib.hid kR
        have HBB := Lib.hid bB
        have m0 : X2.cell? ⟨M, 0, none⟩ = some (.slice o0 n0 c0) := kM.cell 0
        have m1 : X2.cell? ⟨M, 1, none⟩ = some (.slice o1 n1 c1) := kM.cell 1
        have m2 : X2.cell? ⟨M, 2, none⟩ = some (.slice o2 n2 c2) := kM.cell 2
        have HRM := Lib.hid HR2.out.2
        clear kM kR bB hb2 HX HR2
        by_cases hw : b = false ∧ r.size = 0
        · have ew : (!b && decide (r.size = 0)) = true := by simp [hw.1, hw.2]
          rw [ew]
          have HW := Lib.hid hw
          clear hw ew
          go_wp2_with fail
          have GD := rgood_any m X2 HY.out.1.reads HY.out.2.2.2.2 HY.out.2.2.1
          rw [HA.out] at GD
          obtain ⟨q, hq⟩ : ∃ q, q = goodB m.mk_ := ⟨_, rfl⟩
          rw [← hq] at GD
          have HQ := Lib.hid hq
          clear hq
          refine GD.mono ?_
          rintro e X3 ⟨rfl, hb3⟩
          have kM : BlkIs X3 M 28 #[.slice o0 n0 c0, .slice o1 n1 c1, .slice o2 n2 c2] := BlkIs.below HKM.out hb3 HKM.out.lt
          have kR : BlkIs X3 w.heap.size 28 #[.slice none 0 0, .slice none 0 0, .slice none 0 0] := BlkIs.below HKR.out hb3 HKR.out.lt
          have bB : Below w.heap.size w X3 := HBB.out.trans (hb3.mono HBB.out.size)
          have r0 : X3.cell? ⟨w.heap.size, 0, none⟩ = some (.slice none 0 0) := kR.cell 0
          have r1 : X3.cell? ⟨w.heap.size, 1, none⟩ = some (.slice none 0 0) := kR.cell 1
          have r2 : X3.cell? ⟨w.heap.size, 2, none⟩ = some (.slice none 0 0) := kR.cell 2
          have z0 : X3.frozen? ⟨w.heap.size, 0, none⟩ = false := kR.free 0
          have z1 : X3.frozen? ⟨w.heap.size, 1, none⟩ = false := kR.free 1
          have z2 : X3.frozen? ⟨w.heap.size, 2, none⟩ = false := kR.free 2
          have p0 : X3.cell? ⟨M, 0, none⟩ = some (.slice o0 n0 c0) := kM.cell 0
          have p1 : X3.cell? ⟨M, 1, none⟩ = some (.slice o1 n1 c1) := kM.cell 1
          have p2 : X3.cell? ⟨M, 2, none⟩ = some (.slice o2 n2 c2) := kM.cell 2
          have HO3 := Lib.hid (HY.out.1.later hb3)
          have HB3 := Lib.hid bB
          have HK3 := Lib.hid kR
          clear GD kM kR bB hb3 m0 m1 m2
          cases q
          · go_wp2_with fail
            refine bodyPost_ret (v := .tuple #[.agg #[.slice none 0 0, .slice none 0 0, .slice none 0 0], .int .i64 4]) (by simp [results, Tryz.results62, go_sem, r0, r1, r2]) rfl ?_
            rw [← HDO.out]
            refine ⟨MkR.none_, 4, rfl, MkR.none_own _ _, MkR.none_small, ((HB3.out.setCell (p := ⟨w.heap.size, 0, none⟩) (Nat.le_refl _) _).setCell (p := ⟨w.heap.size, 1, none⟩) (Nat.le_refl _) _).setCell (p := ⟨w.heap.size, 2, none⟩) (Nat.le_refl _) _, .inr ⟨?_, rfl, rfl⟩⟩
            rw [HD.out, if_neg]
            intro h
            rw [← HQ.out] at h
            exact Bool.noConfusion h.2.2
          · go_wp2_with fail
            refine bodyPost_ret (v := .tuple #[.agg #[.slice o0 n0 c0, .slice o1 n1 c1, .slice o2 n2 c2], .int .i64 0]) (by simp [results, Tryz.results62, go_sem, r0, r1, r2]) rfl ?_
            rw [← HDO.out]
            refine ⟨m, 0, by rw [HA.out], ?_, HY.out.2, ((HB3.out.setCell (p := ⟨w.heap.size, 0, none⟩) (Nat.le_refl _) _).setCell (p := ⟨w.heap.size, 1, none⟩) (Nat.le_refl _) _).setCell (p := ⟨w.heap.size, 2, none⟩) (Nat.le_refl _) _, .inl ⟨?_, rfl⟩⟩
            · exact (((HO3.out.far HK3.out 0 _).far (HK3.out.put 0 _) 1 _).far ((HK3.out.put 0 _).put 1 _) 2 _).mono (by have := HRM.out; omega)
            · rw [HD.out, if_pos ⟨HW.out.1, HW.out.2, HQ.out.symm⟩]
        · have ew : (!b && decide (r.size = 0)) = false := by
            cases b
            · simpa using fun h => hw ⟨rfl, h⟩
            · rfl
          rw [ew]
          have r0 : X2.cell? ⟨w.heap.size, 0, none⟩ = some (.slice none 0 0) := HKR.out.cell 0
          have r1 : X2.cell? ⟨w.heap.size, 1, none⟩ = some (.slice none 0 0) := HKR.out.cell 1
          have r2 : X2.cell? ⟨w.heap.size, 2, none⟩ = some (.slice none 0 0) := HKR.out.cell 2
          have z0 : X2.frozen? ⟨w.heap.size, 0, none⟩ = false := HKR.out.free 0
          have z1 : X2.frozen? ⟨w.heap.size, 1, none⟩ = false := HKR.out.free 1
          have z2 : X2.frozen? ⟨w.heap.size, 2, none⟩ = false := HKR.out.free 2
          have HWN := Lib.hid hw
          clear hw ew
          go_wp2_with fail
          refine bodyPost_ret (v := .tuple #[.agg #[.slice none 0 0, .slice none 0 0, .slice none 0 0], .int .i64 4]) (by simp [results, Tryz.results62, go_sem, r0, r1, r2]) rfl ?_
          rw [← HDO.out]
          refine ⟨MkR.none_, 4, rfl, MkR.none_own _ _, MkR.none_small, ((HBB.out.setCell (p := ⟨w.heap.size, 0, none⟩) (Nat.le_refl _) _).setCell (p := ⟨w.heap.size, 1, none⟩) (Nat.le_refl _) _).setCell (p := ⟨w.heap.size, 2, none⟩) (Nat.le_refl _) _, .inr ⟨?_, rfl, rfl⟩⟩
          rw [HD.out, if_neg]
          intro h
          exact HWN.out ⟨h.1, h.2.1⟩
theorem rdecode_any (s : ByteArray) (w : World) (hs : (s.size : Int) ≤ 140737488355328) : Calls Tryz.prog 62 #[.string s] w fun e w' => DecOut s w e w' := (rdecode_own s w hs).mono fun _ _ h => h.out
end Go.Proofs.YtljenganlknhbaaGreat.Mk
