/- Several texts in one. (Layer 19.) -/
import Derived.Test.YtljenganlknhbaaGreatPkU
/- The reference's list and check, walked: in, Check. Conditions: at most 1,000,000 ids. (Layer 10.) -/
namespace Go.Proofs.YtljenganlknhbaaGreat.Tr
set_option linter.unusedVariables false
set_option linter.unusedSimpArgs false
open Go.RowKit Go.Lib
open Set (StrAt scells El Rise)
/-- A digit and texts of 32 bytes behind it: the text, its digest. -/
theorem joint (b : UInt8) {l : List ByteArray} (hs : ∀ x, x ∈ l → x.size = 32) (hn : l.length ≤ 100) :
    ∃ C E : ByteArray, C = ⟨(catL l).toArray⟩ ∧ (⟨#[b]⟩ : ByteArray) ++ C = E ∧ ¬ (9223372036854775807 < (⟨#[b]⟩ : ByteArray).size + C.size) ∧ ¬ (9223372036854775807 < 1 + C.size) ∧ C.size ≤ 1000000000 ∧
      ∀ w, Calls Tryz.prog 99 #[.string E] w fun e w' => e = .returned (.string ⟨(Sha.sum (b :: catL l)).toArray⟩) ∧ Below w.heap.size w w' := by
  have e : (⟨(catL l).toArray⟩ : ByteArray).size = (catL l).length := by simp [ByteArray.size]
  have h1 : (⟨#[b]⟩ : ByteArray).size = 1 := rfl
  have h2 := catL_length hs
  refine ⟨_, _, rfl, rfl, by rw [e, h1]; omega, by rw [e]; omega, by rw [e]; omega, fun w => ?_⟩
  have hEl : ((⟨#[b]⟩ : ByteArray) ++ ⟨(catL l).toArray⟩).data.toList = b :: catL l := by simp
  have S := Sha.refsum_any ((⟨#[b]⟩ : ByteArray) ++ ⟨(catL l).toArray⟩) w (by rw [ByteArray.size_append, e, h1]; omega)
  rw [hEl] at S
  exact S
end Go.Proofs.YtljenganlknhbaaGreat.Tr

/- The reference's Check, walked. Conditions: at most 1,000,000 ids. Printed by gen_trt.py. (Layer 10.) -/
namespace Go.Proofs.YtljenganlknhbaaGreat.Tr
set_option linter.unusedVariables false
set_option linter.unusedSimpArgs false
open Go.RowKit Go.Lib
open Set (StrAt scells El Rise)
set_option maxRecDepth 100000 in
set_option maxHeartbeats 8000000 in
theorem rcheck_any (c : Cp) (vi vk : Value) (w : World) (hi : StrAt w vi c.ids) (hk : StrAt w vk c.kids) (hn : c.ids.length ≤ 1000000) (hnk : c.kids.length ≤ 1000000) (hp : (c.pre.size : Int) ≤ 9223372036854775807) :
    Calls Tryz.prog 37 #[.agg #[.string c.pre, .int .i64 c.cnt, .string c.sum, vi, vk]] w fun e w' => e = .returned (.int .i64 (chk c)) ∧ Below w.heap.size w w' := by
  obtain ⟨oi, ci, rfl, hc1, hc2, -⟩ := id hi
  obtain ⟨ok, ck, rfl, hc3, hc4, -⟩ := id hk
  obtain ⟨pre, cnt, sum, ids, kids⟩ := c
  dsimp only at hi hk hn hnk hp hc1 hc2 hc3 hc4 ⊢
  obtain ⟨W0, hW0⟩ : ∃ W0, W0 = w.alloc (.cells #[.string pre, .int .i64 cnt, .string sum, .slice oi ids.length ci, .slice ok kids.length ck] 49) := ⟨_, rfl⟩
  obtain ⟨B, hB⟩ : ∃ B, B = w.heap.size := ⟨_, rfl⟩
  have K0 := Lib.hid (show BlkIs W0 B 49 #[.string pre, .int .i64 cnt, .string sum, .slice oi ids.length ci, .slice ok kids.length ck] by rw [hW0, hB]; exact BlkIs.new _ _ _)
  have HW := Lib.hid (show Below w.heap.size w W0 by rw [hW0]; exact (Below.refl _ _).alloc (Nat.le_refl _) _)
  have PX := Lib.hid (rdigits_any pre hp W0)
  have SI := Lib.hid (hi.later HW.out)
  have SK := Lib.hid (hk.later HW.out)
  have IS := Lib.hid (fun W (hb : Below W0.heap.size W0 W) => rset_any _ ids W (SI.out.later hb) hn)
  have BL := Lib.hid (fun W (hb : Below W0.heap.size W0 W) => rbelow_any _ ids pre W (SI.out.later hb) hn hp)
  have JI := Lib.hid (fun (hz : ∀ x, x ∈ ids → x.size = 32) W (hb : Below W0.heap.size W0 W) => rjoined_any _ ids W (SI.out.later hb) hn hz)
  have JK := Lib.hid (fun (hz : ∀ x, x ∈ kids → x.size = 32) W (hb : Below W0.heap.size W0 W) => rjoined_any _ kids W (SK.out.later hb) hnk hz)
  have H0 := Lib.hid (And.intro hW0 hB)
  obtain ⟨ni, hni⟩ : ∃ n, n = ids.length := ⟨_, rfl⟩
  obtain ⟨nk, hnk2⟩ : ∃ n, n = kids.length := ⟨_, rfl⟩
  rw [← hni] at K0 SI IS BL JI H0 hn hc1 ⊢
  rw [← hnk2] at K0 SK JK H0 hnk hc3 ⊢
  have HN := Lib.hid (And.intro hni hnk2)
  obtain ⟨q, hq⟩ : ∃ q, q = pfxB pre := ⟨_, rfl⟩
  rw [← hq] at PX
  have HQ := Lib.hid hq
  obtain ⟨q2, hq2⟩ : ∃ q, q = holds (IsSet ids) := ⟨_, rfl⟩
  rw [← hq2] at IS
  have HQ2 := Lib.hid hq2
  have ISX := Lib.hid (fun X : LaterOf W0 => IS.out X.w X.h)
  clear hW0 hB hi hk hni hnk2 hp hq hq2
  have HC := Lib.hid (show ∀ W, Below W0.heap.size W0 W → W.cell? ⟨B, 0, none⟩ = some (.string pre) ∧ W.cell? ⟨B, 1, none⟩ = some (.int .i64 cnt) ∧ W.cell? ⟨B, 2, none⟩ = some (.string sum) ∧ W.cell? ⟨B, 3, none⟩ = some (.slice oi ni ci) ∧ W.cell? ⟨B, 4, none⟩ = some (.slice ok nk ck) from fun W hb => by
    have K := K0.out.below hb K0.out.lt
    exact ⟨K.cell 0, K.cell 1, K.cell 2, K.cell 3, K.cell 4⟩)
  obtain ⟨d0, d1, d2, d3, d4⟩ := HC.out W0 (Below.refl _ _)
  obtain ⟨Z, hZ⟩ : ∃ Z, Z = chk ⟨pre, cnt, sum, ids, kids⟩ := ⟨_, rfl⟩
  rw [← hZ]
  have HZ := Lib.hid hZ
  clear hZ
  go_enter Tryz.func37, Tryz.ntmps37
  go_upto_region 1 with (fail)
  rw [← H0.out.1, ← H0.out.2]
  clear H0
  go_wp2_with fail
  refine PX.out.mono ?_
  rintro e _ ⟨rfl, rfl⟩
  clear PX
  have HF := HW
  cases q with
  | false =>
    go_wp2_with fail
    go_ret
    exact ⟨by rw [HZ.out, chk_form (Or.inl HQ.out.symm) rfl]; rfl, HF.out⟩
  | true =>
    by_cases g1 : cnt < 0
    · go_wp2_with fail
      go_ret
      exact ⟨by rw [HZ.out, chk_form (Or.inr (Or.inl g1)) rfl]; rfl, HF.out⟩
    have g1' : decide (cnt < 0) = false := decide_eq_false g1
    by_cases g2 : 1073741824 < cnt
    · have G := Lib.hid (And.intro g1 g2)
      clear g1
      go_wp2_with fail
      go_ret
      exact ⟨by rw [HZ.out, chk_form (Or.inr (Or.inr G.out.2)) rfl]; rfl, HF.out⟩
    have g2' : decide (1073741824 < cnt) = false := decide_eq_false g2
    have HT := Lib.hid (show ¬ (pfxB (⟨pre, cnt, sum, ids, kids⟩ : Cp).pre = false ∨ (⟨pre, cnt, sum, ids, kids⟩ : Cp).cnt < 0 ∨ 1073741824 < (⟨pre, cnt, sum, ids, kids⟩ : Cp).cnt) from by
      dsimp only
      rw [← HQ.out]
      rintro (h | h | h)
      · cases h
      · exact g1 h
      · exact g2 h)
    clear g1 g2
    have x0 : ∀ X : LaterOf W0, X.w.cell? ⟨B, 0, none⟩ = some (.string pre) := fun X => (HC.out X.w X.h).1
    have x1 : ∀ X : LaterOf W0, X.w.cell? ⟨B, 1, none⟩ = some (.int .i64 cnt) := fun X => (HC.out X.w X.h).2.1
    have x2 : ∀ X : LaterOf W0, X.w.cell? ⟨B, 2, none⟩ = some (.string sum) := fun X => (HC.out X.w X.h).2.2.1
    have x3 : ∀ X : LaterOf W0, X.w.cell? ⟨B, 3, none⟩ = some (.slice oi ni ci) := fun X => (HC.out X.w X.h).2.2.2.1
    have x4 : ∀ X : LaterOf W0, X.w.cell? ⟨B, 4, none⟩ = some (.slice ok nk ck) := fun X => (HC.out X.w X.h).2.2.2.2
    by_cases g3 : cnt ≤ 8
    · have hbd : Below W0.heap.size W0 W0.drew := ⟨rfl, rfl, rfl, Nat.le_refl _, fun _ _ => rfl⟩
      have HO := Lib.hid (show Z = leafChk ⟨pre, cnt, sum, ids, kids⟩ by rw [HZ.out, chk_leaf HT.out g3])
      by_cases h1 : (ni : Int) = cnt
      · have k1 : ((ni : Int) != cnt) = false := by simp [h1]
        rcases Nat.eq_zero_or_pos nk with h2 | h2
        · have k2 : decide ((0 : Int) < (nk : Int)) = false := decide_eq_false (by omega)
          have k2n : decide (0 < nk) = false := decide_eq_false (by omega)
          have HH := Lib.hid (And.intro h1 h2)
          have hni8 : ni ≤ 8 := by omega
          have HNI := Lib.hid hni8
          clear h1 h2 hni8
          cases q2 with
          | false =>
            go_upto_region 4 with (fail)
            refine wp_region_all (fun w' => ∃ z : LaterOf W0, w' = z.w) (by kernel_rfl) (by kernel_rfl) ⟨LaterOf.start W0, rfl⟩ ?_
            clear d0 d1 d2 d3 d4
            repeat (go_big_quiet_step (first | exact LaterOf.call _ (ISX.out _)))
            refine wpQuiet_nil ?_
            intro w12 hw12
            obtain ⟨X, rfl⟩ := hw12
            clear x0 x1 x2 x3 x4 ISX
            go_wp2_with fail
            go_ret
            exact ⟨by rw [HO.out, leafChk_form (Or.inr (Or.inr (Or.inl fun hs => by have := HQ2.out; rw [holds_true hs] at this; cases this))) rfl]; rfl, HF.out.trans (X.h.mono HF.out.size)⟩
          | true =>
            have hset : IsSet ids := holds_iff.1 HQ2.out.symm
            obtain ⟨m, hm⟩ : ∃ m, m = (belowL ids pre).length := ⟨_, rfl⟩
            have HM := Lib.hid hm
            have BL1 := Lib.hid (fun W (hb : Below W0.heap.size W0 W) => show Calls Tryz.prog 98 #[.slice oi ni ci, .string pre] W fun e w' => ∃ ao cap, e = .returned (.slice ao m cap) ∧ Below W.heap.size W w' from (BL.out W hb).mono fun e w' ⟨u, he, hs, hb⟩ => by
              obtain ⟨ao, cap, hu, -, -, -⟩ := hs.form
              exact ⟨ao, cap, by rw [he, hu, hm], hb⟩)
            have JI1 := Lib.hid (JI.out fun x hx => hset.size hx)
            have HSET := Lib.hid hset
            clear BL JI hset hm x0 x1 x2 x3 x4 ISX
            by_cases h3 : m = ni
            · have k3 : ((m : Int) != (ni : Int)) = false := by simp [h3]
              have k3n : (m != ni) = false := by simp [h3]
              have H3 := Lib.hid h3
              clear h3
              go_upto_region 4 with (fail)
              clear d0 d1 d2 d3 d4
              go_region_held (fun W => W.cell? ⟨B, 0, none⟩ = some (.string pre) ∧ W.cell? ⟨B, 1, none⟩ = some (.int .i64 cnt) ∧ W.cell? ⟨B, 2, none⟩ = some (.string sum) ∧ W.cell? ⟨B, 3, none⟩ = some (.slice oi ni ci) ∧ W.cell? ⟨B, 4, none⟩ = some (.slice ok nk ck))
                ((refine HC.out _ ?_; assumption))
                (first
                  | (go_at_call 38
                     refine (IS.out _ (by assumption)).mono ?_
                     rintro e w3 ⟨rfl, hb3⟩
                     have hbd3 : Below W0.heap.size W0 w3 := hbd.trans (hb3.mono hbd.size)
                     clear hb3)
                  | (go_at_call 98
                     refine (BL1.out _ (by assumption)).mono ?_
                     rintro e w4 ⟨ao4, cap4, rfl, hb4⟩
                     have hb5 : Below W0.heap.size W0 w4 := hbd3.trans (hb4.mono hbd3.size)
                     clear hb4))
              have H5 := Lib.hid hb5
              obtain ⟨C, E, hC, hE, hf1, hf2, hf3, hS⟩ := joint 108 (fun x hx => HSET.out.size hx) (by rw [← HN.out.1]; have := HNI.out; omega)
              rw [← hC] at JI1
              obtain ⟨S, hSd⟩ : ∃ S, S = leafS ids := ⟨_, rfl⟩
              have hSS : ∀ w, Calls Tryz.prog 99 #[.string E] w fun e w' => e = .returned (.string S) ∧ Below w.heap.size w w' := by rw [hSd]; exact hS
              have hnot : ¬ (((⟨pre, cnt, sum, ids, kids⟩ : Cp).ids.length : Int) ≠ (⟨pre, cnt, sum, ids, kids⟩ : Cp).cnt ∨ 0 < (⟨pre, cnt, sum, ids, kids⟩ : Cp).kids.length ∨ ¬ IsSet (⟨pre, cnt, sum, ids, kids⟩ : Cp).ids ∨ ((belowL (⟨pre, cnt, sum, ids, kids⟩ : Cp).ids (⟨pre, cnt, sum, ids, kids⟩ : Cp).pre).length : Int) ≠ (⟨pre, cnt, sum, ids, kids⟩ : Cp).cnt) := by
                dsimp only
                rw [← HN.out.1, ← HN.out.2, ← HM.out]
                have e1 := HH.out
                have e3 := H3.out
                rintro (h | h | h | h)
                · exact h e1.1
                · omega
                · exact h HSET.out
                · omega
              have c1 : ∀ X : LaterOf w4, X.w.cell? ⟨B, 2, none⟩ = some (.string sum) := fun X => (HC.out X.w (H5.out.trans (X.h.mono H5.out.size))).2.2.1
              have c2 : ∀ X : LaterOf w4, X.w.cell? ⟨B, 3, none⟩ = some (.slice oi ni ci) := fun X => (HC.out X.w (H5.out.trans (X.h.mono H5.out.size))).2.2.2.1
              have JX := Lib.hid (fun X : LaterOf w4 => JI1.out X.w (H5.out.trans (X.h.mono H5.out.size)))
              have SX := Lib.hid (fun X : LaterOf w4 => hSS X.w)
              have HO2 := Lib.hid (show Z = if sum ≠ S then 20 else 0 by
                rw [HO.out]
                unfold leafChk
                rw [if_neg hnot, hSd])
              have HF2 := Lib.hid (HF.out.trans (H5.out.mono HF.out.size))
              clear hnot hSd hb5 hbd hbd3 hC hS hSS
              go_upto_region 6 with (fail)
              refine wp_region_all (fun w' => ∃ z : LaterOf w4, w' = z.w) (by kernel_rfl) (by kernel_rfl) ⟨LaterOf.start w4, rfl⟩ ?_
              by_cases he : sum = S
              · have z : (sum.toList != S.toList) = false := by rw [he]; simp
                repeat (go_big_quiet_step (first | exact LaterOf.call_same _ (JX.out _) | exact LaterOf.call _ (SX.out _)))
                refine wpQuiet_nil ?_
                intro w12 hw12
                obtain ⟨X, rfl⟩ := hw12
                clear c1 c2 JX SX
                go_wp2_with fail
                go_ret
                refine ⟨?_, HF2.out.trans (X.h.mono HF2.out.size)⟩
                rw [HO2.out, if_neg (by simp [he])]
                rfl
              · have z0 := ne_list he
                have z : (sum.toList != S.toList) = true := by rw [bne, z0]; rfl
                repeat (go_big_quiet_step (first | exact LaterOf.call_same _ (JX.out _) | exact LaterOf.call _ (SX.out _)))
                refine wpQuiet_nil ?_
                intro w12 hw12
                obtain ⟨X, rfl⟩ := hw12
                clear c1 c2 JX SX
                go_wp2_with fail
                go_ret
                refine ⟨?_, HF2.out.trans (X.h.mono HF2.out.size)⟩
                rw [HO2.out, if_pos he]
                rfl
            · have k3 : ((m : Int) != (ni : Int)) = true := by simp; omega
              have k3n : (m != ni) = true := by simpa using h3
              have H3 := Lib.hid h3
              clear h3
              go_upto_region 4 with (fail)
              clear d0 d1 d2 d3 d4
              go_region_held (fun W => W.cell? ⟨B, 0, none⟩ = some (.string pre) ∧ W.cell? ⟨B, 1, none⟩ = some (.int .i64 cnt) ∧ W.cell? ⟨B, 2, none⟩ = some (.string sum) ∧ W.cell? ⟨B, 3, none⟩ = some (.slice oi ni ci) ∧ W.cell? ⟨B, 4, none⟩ = some (.slice ok nk ck))
                ((refine HC.out _ ?_; assumption))
                (first
                  | (go_at_call 38
                     refine (IS.out _ (by assumption)).mono ?_
                     rintro e w3 ⟨rfl, hb3⟩
                     have hbd3 : Below W0.heap.size W0 w3 := hbd.trans (hb3.mono hbd.size)
                     clear hb3)
                  | (go_at_call 98
                     refine (BL1.out _ (by assumption)).mono ?_
                     rintro e w4 ⟨ao4, cap4, rfl, hb4⟩
                     have hb5 : Below W0.heap.size W0 w4 := hbd3.trans (hb4.mono hbd3.size)
                     clear hb4))
              go_wp2_with fail
              go_ret
              exact ⟨by rw [HO.out, leafChk_form (Or.inr (Or.inr (Or.inr (by dsimp only; rw [← HM.out]; have := H3.out; have := HH.out; omega)))) rfl]; rfl, HF.out.trans (hb5.mono HF.out.size)⟩
        · have k2 : decide ((0 : Int) < (nk : Int)) = true := decide_eq_true (by omega)
          have k2n : decide (0 < nk) = true := decide_eq_true h2
          have HH := Lib.hid h2
          clear h1 h2
          go_upto_region 4 with (fail)
          refine wp_region_all (fun w' => ∃ z : LaterOf W0, w' = z.w) (by kernel_rfl) (by kernel_rfl) ⟨LaterOf.start W0, rfl⟩ ?_
          clear d0 d1 d2 d3 d4
          repeat (go_big_quiet_step (first | exact LaterOf.call _ (ISX.out _)))
          refine wpQuiet_nil ?_
          intro w12 hw12
          obtain ⟨X, rfl⟩ := hw12
          clear x0 x1 x2 x3 x4 ISX
          go_wp2_with fail
          go_ret
          exact ⟨by rw [HO.out, leafChk_form (Or.inr (Or.inl (by dsimp only; rw [← HN.out.2]; exact HH.out))) rfl]; rfl, HF.out.trans (X.h.mono HF.out.size)⟩
      · have k1 : ((ni : Int) != cnt) = true := by simpa using h1
        have HH := Lib.hid h1
        clear h1
        go_upto_region 4 with (fail)
        refine wp_region_all (fun w' => ∃ z : LaterOf W0, w' = z.w) (by kernel_rfl) (by kernel_rfl) ⟨LaterOf.start W0, rfl⟩ ?_
        clear d0 d1 d2 d3 d4
        repeat (go_big_quiet_step (first | exact LaterOf.call _ (ISX.out _)))
        refine wpQuiet_nil ?_
        intro w12 hw12
        obtain ⟨X, rfl⟩ := hw12
        clear x0 x1 x2 x3 x4 ISX
        go_wp2_with fail
        go_ret
        exact ⟨by rw [HO.out, leafChk_form (Or.inl (by dsimp only; rw [← HN.out.1]; exact HH.out)) rfl]; rfl, HF.out.trans (X.h.mono HF.out.size)⟩
    have g3' : decide (cnt ≤ 8) = false := decide_eq_false g3
    have G3 := Lib.hid (show (8 : Int) < cnt by omega)
    clear g3 x0 x1 x2 x3 x4 ISX IS BL JI
    rcases Nat.eq_zero_or_pos ni with g4 | g4
    · have g4a : decide ((ni : Int) > 0) = false := decide_eq_false (by omega)
      have g4b : decide ((0 : Int) < (ni : Int)) = false := decide_eq_false (by omega)
      have g4c : decide (0 < ni) = false := decide_eq_false (by omega)
      have G4 := Lib.hid g4
      clear g4
      by_cases g5 : (nk : Int) = 16
      · have g5a : ((nk : Int) != 16) = false := by simp [g5]
        have G5 := Lib.hid (show nk = 16 by omega)
        by_cases g6 : (64 : Int) ≤ (pre.size : Int)
        · have G6 := Lib.hid g6
          clear g5
          go_wp2_with fail
          go_ret
          exact ⟨by rw [HZ.out, chk_kids HT.out (by have := G3.out; dsimp only; omega) (Or.inr (Or.inr (Or.inr (by have := G6.out; dsimp only; omega)))) rfl]; rfl, HF.out⟩
        · have g6a : decide ((64 : Int) ≤ (pre.size : Int)) = false := decide_eq_false g6
          have G6 := Lib.hid g6
          clear g5 g6
          go_wp2_with fail
          go_loopw [3] (fun u wr => ∃ k : Nat, u = .int .i64 (k : Int) ∧ k ≤ 16 ∧ Hid (Below W0.heap.size W0 wr ∧ ∀ j, j < k → kids[j]!.size = 32)) (fun u _ => ((16 : Int) - RowKit.intOf u).toNat)
          case atStart => exact ⟨0, rfl, by omega, Lib.hid ⟨Below.refl _ _, fun j hj => by omega⟩⟩
          case round =>
            obtain ⟨k, rfl, hk, HK⟩ := hrel
            clear d0 d1 d2 d3 d4
            obtain ⟨d0, d1, d2, d3, d4⟩ := HC.out wr HK.out.1
            have HF3 := Lib.hid (HF.out.trans (HK.out.1.mono HF.out.size))
            rcases Nat.lt_or_ge k 16 with h3 | h3
            · have k1 : (k : Int) < 16 := by omega
              have kw : IntKind.i64.wrap ((k : Int) + 1) = ((k + 1 : Nat) : Int) := IntWalk.i64_in _ (by omega)
              have k2 : (k : Int) < nk := by have := G5.out; omega
              obtain ⟨b, off, hao, hlt, hc⟩ := strAt_at SK.out (by have := G5.out; omega)
              subst hao
              have c0 := hc k (by have := G5.out; omega)
              rw [← HK.out.1.cell hlt] at c0
              obtain ⟨x, hx⟩ : ∃ x, x = kids[k]! := ⟨_, rfl⟩
              rw [← hx] at c0
              have HX := Lib.hid hx
              clear hc hx g5a
              by_cases hz : x.size = 32
              · have z : ((x.size : Int) != 32) = false := by simp; omega
                have HZ2 := Lib.hid hz
                clear hz
                go_wp2_with fail
                refine ⟨⟨k + 1, by simp, by omega, Lib.hid ⟨HK.out.1, fun j hj => ?_⟩⟩, ?_⟩
                · rcases Nat.lt_or_ge j k with h5 | h5
                  · exact HK.out.2 j h5
                  · obtain rfl : j = k := by omega
                    rw [← HX.out]; exact HZ2.out
                · simp [RowKit.intOf]
                  omega
              · have z : ((x.size : Int) != 32) = true := by simp; omega
                have HZ2 := Lib.hid hz
                have HKL := Lib.hid h3
                clear hz
                go_wp2_with fail
                go_ret
                refine ⟨?_, HF3.out⟩
                rw [HZ.out, chk_kids HT.out (by have := G3.out; dsimp only; omega) (Or.inr (Or.inr (Or.inl ?_))) rfl]
                · rfl
                · dsimp only
                  cases hq : all32 kids with
                  | false => rfl
                  | true =>
                    have h4 : k < kids.length := by rw [← HN.out.2, G5.out]; exact HKL.out
                    have := all32_iff.1 hq kids[k]! (by rw [getElem!_pos kids k h4]; exact List.getElem_mem h4)
                    rw [← HX.out] at this
                    exact absurd this HZ2.out
            · have k1 : decide ((k : Int) < 16) = false := decide_eq_false (by omega)
              have k2 : ¬ ((k : Int) < 16) := by omega
              obtain rfl : k = 16 := by omega
              have hall : ∀ x, x ∈ kids → x.size = 32 := fun x hx => by
                obtain ⟨i, hi, rfl⟩ := List.getElem_of_mem hx
                have := HK.out.2 i (by rw [← G5.out, HN.out.2]; exact hi)
                rwa [getElem!_pos kids i hi] at this
              obtain ⟨C, E, hC, hE, hf1, hf2, hf3, hS⟩ := joint 107 hall (by rw [← HN.out.2, G5.out]; omega)
              have JK1 := Lib.hid (JK.out hall)
              rw [← hC] at JK1
              obtain ⟨S, hSd⟩ : ∃ S, S = innerS kids := ⟨_, rfl⟩
              have hSS : ∀ w, Calls Tryz.prog 99 #[.string E] w fun e w' => e = .returned (.string S) ∧ Below w.heap.size w w' := by rw [hSd]; exact hS
              have HO := Lib.hid (show Z = if sum = S then 0 else 20 by
                rw [HZ.out, hSd]
                refine chk_sum HT.out (by have := G3.out; dsimp only; omega) ?_
                dsimp only
                rw [← HN.out.1, ← HN.out.2, all32_iff.2 hall]
                rintro (h | h | h | h)
                · have := G4.out; omega
                · have := G5.out; omega
                · cases h
                · have := G6.out; omega)
              have HB := Lib.hid HK.out.1
              have c1 : ∀ X : LaterOf wr, X.w.cell? ⟨B, 2, none⟩ = some (.string sum) := fun X => (HC.out X.w (HB.out.trans (X.h.mono HB.out.size))).2.2.1
              have c2 : ∀ X : LaterOf wr, X.w.cell? ⟨B, 4, none⟩ = some (.slice ok nk ck) := fun X => (HC.out X.w (HB.out.trans (X.h.mono HB.out.size))).2.2.2.2
              have JX := Lib.hid (fun X : LaterOf wr => JK1.out X.w (HB.out.trans (X.h.mono HB.out.size)))
              have SX := Lib.hid (fun X : LaterOf wr => hSS X.w)
              clear hall hC hS hSS hSd JK JK1 HK
              go_upto_region 16 with (fail)
              refine wp_region_all (fun w' => ∃ z : LaterOf wr, w' = z.w) (by kernel_rfl) (by kernel_rfl) ⟨LaterOf.start wr, rfl⟩ ?_
              clear d0 d1 d2 d3 d4
              by_cases he : sum = S
              · have z : (sum.toList != S.toList) = false := by rw [he]; simp
                repeat (go_big_quiet_step (first | exact LaterOf.call_same _ (JX.out _) | exact LaterOf.call _ (SX.out _)))
                refine wpQuiet_nil ?_
                intro w12 hw12
                obtain ⟨X, rfl⟩ := hw12
                clear c1 c2 JX SX
                go_wp2_with fail
                go_ret
                refine ⟨?_, HF3.out.trans (X.h.mono HF3.out.size)⟩
                rw [HO.out, if_pos he]
                rfl
              · have z0 := ne_list he
                have z : (sum.toList != S.toList) = true := by rw [bne, z0]; rfl
                repeat (go_big_quiet_step (first | exact LaterOf.call_same _ (JX.out _) | exact LaterOf.call _ (SX.out _)))
                refine wpQuiet_nil ?_
                intro w12 hw12
                obtain ⟨X, rfl⟩ := hw12
                clear c1 c2 JX SX
                go_wp2_with fail
                go_ret
                refine ⟨?_, HF3.out.trans (X.h.mono HF3.out.size)⟩
                rw [HO.out, if_neg he]
                rfl
      · have g5a : ((nk : Int) != 16) = true := by simpa using g5
        have g5b : (nk != 16) = true := by simp; omega
        have G5 := Lib.hid g5
        clear g5
        go_wp2_with fail
        go_ret
        exact ⟨by rw [HZ.out, chk_kids HT.out (by have := G3.out; dsimp only; omega) (Or.inr (Or.inl (by dsimp only; rw [← HN.out.2]; have := G5.out; omega))) rfl]; rfl, HF.out⟩
    · have g4a : (0 : Int) < (ni : Int) := by omega
      have G4 := Lib.hid g4
      clear g4
      go_wp2_with fail
      go_ret
      exact ⟨by rw [HZ.out, chk_kids HT.out (by have := G3.out; dsimp only; omega) (Or.inl (by dsimp only; rw [← HN.out.1]; exact G4.out)) rfl]; rfl, HF.out⟩
end Go.Proofs.YtljenganlknhbaaGreat.Tr

