/- trie.checkLeaf, walked. Conditions: at most 1,000,000 ids. (Layer 10.) -/
import Derived.Test.YtljenganlknhbaaGreatTrF
import Derived.Test.YtljenganlknhbaaGreatPkA
import Derived.Deep.RegionHeld
namespace Go.Proofs.YtljenganlknhbaaGreat.Tr
set_option linter.unusedVariables false
set_option linter.unusedSimpArgs false
open Go.RowKit Go.Lib
open Set (StrAt scells El Rise)
theorem ne_list {a b : ByteArray} (h : a ≠ b) : (a.toList == b.toList) = false := by
  rw [ByteArray.toList_eq, ByteArray.toList_eq]
  have : a.data.toList ≠ b.data.toList := fun e => h (Set.bytes_inj e)
  simpa using this
open Classical in
noncomputable def leafChk (c : Cp) : Int :=
  if (c.ids.length : Int) ≠ c.cnt ∨ 0 < c.kids.length ∨ ¬ IsSet c.ids ∨ ((belowL c.ids c.pre).length : Int) ≠ c.cnt then 4
  else if c.sum ≠ leafS c.ids then 20 else 0
theorem leafChk_form {c : Cp} {n : Int} (h1 : (c.ids.length : Int) ≠ c.cnt ∨ 0 < c.kids.length ∨ ¬ IsSet c.ids ∨ ((belowL c.ids c.pre).length : Int) ≠ c.cnt) (hn : n = 4) : leafChk c = n := by
  unfold leafChk; rw [if_pos h1, hn]
set_option maxRecDepth 100000 in
set_option maxHeartbeats 4000000 in
theorem checkLeaf_any (c : Cp) (vi vk : Value) (w : World) (hi : StrAt w vi c.ids) (hk : StrAt w vk c.kids) (hn : c.ids.length ≤ 1000000) (hnk : c.kids.length ≤ 1000000) (hp : (c.pre.size : Int) ≤ 9223372036854775807) :
    Calls Tryz.prog 81 #[.agg #[.string c.pre, .int .i64 c.cnt, .string c.sum, vi, vk]] w fun e w' => e = .returned (.int .i64 (leafChk c)) ∧ Below w.heap.size w w' := by
  obtain ⟨oi, ci, rfl, hc1, hc2, -⟩ := id hi
  obtain ⟨ok, ck, rfl, hc3, hc4, -⟩ := id hk
  obtain ⟨pre, cnt, sum, ids, kids⟩ := c
  dsimp only at hi hk hn hnk hp hc1 hc2 hc3 hc4 ⊢
  obtain ⟨W0, hW0⟩ : ∃ W0, W0 = w.alloc (.cells #[.string pre, .int .i64 cnt, .string sum, .slice oi ids.length ci, .slice ok kids.length ck] 49) := ⟨_, rfl⟩
  obtain ⟨B, hB⟩ : ∃ B, B = w.heap.size := ⟨_, rfl⟩
  have K0 := Lib.hid (show BlkIs W0 B 49 #[.string pre, .int .i64 cnt, .string sum, .slice oi ids.length ci, .slice ok kids.length ck] by rw [hW0, hB]; exact BlkIs.new _ _ _)
  have HW := Lib.hid (show Below w.heap.size w W0 by rw [hW0]; exact (Below.refl _ _).alloc (Nat.le_refl _) _)
  have SI := Lib.hid (hi.later HW.out)
  have IS := Lib.hid (fun W (hb : Below W0.heap.size W0 W) => isSet_any _ ids W (SI.out.later hb) hn)
  have BL := Lib.hid (fun W (hb : Below W0.heap.size W0 W) => below_any _ ids pre W (SI.out.later hb) hn hp)
  have LF := Lib.hid (fun (hz : ∀ x, x ∈ ids → x.size = 32) W (hb : Below W0.heap.size W0 W) => leaf_any _ ids W (SI.out.later hb) hn hz)
  have H0 := Lib.hid (And.intro hW0 hB)
  obtain ⟨ni, hni⟩ : ∃ n, n = ids.length := ⟨_, rfl⟩
  obtain ⟨nk, hnk2⟩ : ∃ n, n = kids.length := ⟨_, rfl⟩
  rw [← hni] at K0 SI IS BL LF H0 hn hc1 ⊢
  rw [← hnk2] at K0 H0 hnk hc3 ⊢
  have HN := Lib.hid (And.intro hni hnk2)
  clear hW0 hB hi hk hni hnk2 hp
  have HC := Lib.hid (show ∀ W, Below W0.heap.size W0 W → W.cell? ⟨B, 0, none⟩ = some (.string pre) ∧ W.cell? ⟨B, 1, none⟩ = some (.int .i64 cnt) ∧ W.cell? ⟨B, 2, none⟩ = some (.string sum) ∧ W.cell? ⟨B, 3, none⟩ = some (.slice oi ni ci) ∧ W.cell? ⟨B, 4, none⟩ = some (.slice ok nk ck) from fun W hb => by
    have K := K0.out.below hb K0.out.lt
    exact ⟨K.cell 0, K.cell 1, K.cell 2, K.cell 3, K.cell 4⟩)
  have hbd : Below W0.heap.size W0 W0.drew := ⟨rfl, rfl, rfl, Nat.le_refl _, fun _ _ => rfl⟩
  have x0 : ∀ X : LaterOf W0, X.w.cell? ⟨B, 0, none⟩ = some (.string pre) := fun X => (HC.out X.w X.h).1
  have x1 : ∀ X : LaterOf W0, X.w.cell? ⟨B, 1, none⟩ = some (.int .i64 cnt) := fun X => (HC.out X.w X.h).2.1
  have x3 : ∀ X : LaterOf W0, X.w.cell? ⟨B, 3, none⟩ = some (.slice oi ni ci) := fun X => (HC.out X.w X.h).2.2.2.1
  have x4 : ∀ X : LaterOf W0, X.w.cell? ⟨B, 4, none⟩ = some (.slice ok nk ck) := fun X => (HC.out X.w X.h).2.2.2.2
  obtain ⟨q, hq⟩ : ∃ q, q = holds (IsSet ids) := ⟨_, rfl⟩
  rw [← hq] at IS
  have HQ := Lib.hid hq
  have ISX := Lib.hid (fun X : LaterOf W0 => IS.out X.w X.h)
  clear hq
  by_cases h1 : (ni : Int) = cnt
  · have k1 : ((ni : Int) != cnt) = false := by simp [h1]
    rcases Nat.eq_zero_or_pos nk with h2 | h2
    · have k2 : decide ((0 : Int) < (nk : Int)) = false := decide_eq_false (by omega)
      have k2n : decide (0 < nk) = false := decide_eq_false (by omega)
      have HH := Lib.hid (And.intro h1 h2)
      clear h1 h2
      cases q with
      | false =>
        go_enter Tryz.func81, Tryz.ntmps81
        go_upto_region 1 with (fail)
        rw [← H0.out.1, ← H0.out.2]
        clear H0
        refine wp_region_all (fun w' => ∃ z : LaterOf W0, w' = z.w) (by kernel_rfl) (by kernel_rfl) ⟨LaterOf.start W0, rfl⟩ ?_
        repeat (go_big_quiet_step (first | exact LaterOf.call_same _ (ISX.out _)))
        refine wpQuiet_nil ?_
        intro w12 hw12
        obtain ⟨X, rfl⟩ := hw12
        clear x0 x1 x3 x4 ISX
        go_wp2_with fail
        go_ret
        exact ⟨by rw [leafChk_form (Or.inr (Or.inr (Or.inl fun hs => by have := HQ.out; rw [holds_true hs] at this; cases this))) rfl]; rfl, HW.out.trans (X.h.mono HW.out.size)⟩
      | true =>
        have hset : IsSet ids := holds_iff.1 HQ.out.symm
        obtain ⟨m, hm⟩ : ∃ m, m = (belowL ids pre).length := ⟨_, rfl⟩
        have HM := Lib.hid hm
        have BL1 := Lib.hid (fun W (hb : Below W0.heap.size W0 W) => show Calls Tryz.prog 124 #[.slice oi ni ci, .string pre] W fun e w' => ∃ ao cap, e = .returned (.slice ao m cap) ∧ Below W.heap.size W w' from (BL.out W hb).mono fun e w' ⟨u, he, hs, hb⟩ => by
          obtain ⟨ao, cap, hu, -, -, -⟩ := hs.form
          exact ⟨ao, cap, by rw [he, hu, hm], hb⟩)
        have LF1 := Lib.hid (LF.out fun x hx => hset.size hx)
        have HSET := Lib.hid hset
        clear BL LF hset hm x0 x1 x3 x4 ISX
        by_cases h3 : (m : Int) = cnt
        · have k3 : ((m : Int) != cnt) = false := by simp [h3]
          have H3 := Lib.hid h3
          clear h3
          go_enter Tryz.func81, Tryz.ntmps81
          go_upto_region 1 with (fail)
          rw [← H0.out.1, ← H0.out.2]
          clear H0
          go_region_held (fun W => W.cell? ⟨B, 0, none⟩ = some (.string pre) ∧ W.cell? ⟨B, 1, none⟩ = some (.int .i64 cnt) ∧ W.cell? ⟨B, 2, none⟩ = some (.string sum) ∧ W.cell? ⟨B, 3, none⟩ = some (.slice oi ni ci) ∧ W.cell? ⟨B, 4, none⟩ = some (.slice ok nk ck))
            ((refine HC.out _ ?_; assumption))
            (first
              | (go_at_call 123
                 refine (IS.out _ hbd).mono ?_
                 rintro e _ ⟨rfl, rfl⟩)
              | (go_at_call 124
                 refine (BL1.out _ hbd).mono ?_
                 rintro e w4 ⟨ao4, cap4, rfl, hb4⟩
                 have hb5 : Below W0.heap.size W0 w4 := hbd.trans (hb4.mono hbd.size)
                 clear hb4))
          have H5 := Lib.hid hb5
          obtain ⟨S, hS⟩ : ∃ S, S = leafS ids := ⟨_, rfl⟩
          rw [← hS] at LF1
          have hnot : ¬ (((⟨pre, cnt, sum, ids, kids⟩ : Cp).ids.length : Int) ≠ (⟨pre, cnt, sum, ids, kids⟩ : Cp).cnt ∨ 0 < (⟨pre, cnt, sum, ids, kids⟩ : Cp).kids.length ∨ ¬ IsSet (⟨pre, cnt, sum, ids, kids⟩ : Cp).ids ∨ ((belowL (⟨pre, cnt, sum, ids, kids⟩ : Cp).ids (⟨pre, cnt, sum, ids, kids⟩ : Cp).pre).length : Int) ≠ (⟨pre, cnt, sum, ids, kids⟩ : Cp).cnt) := by
            dsimp only
            rw [← HN.out.1, ← HN.out.2, ← HM.out]
            rintro (h | h | h | h)
            · exact h HH.out.1
            · have := HH.out.2; omega
            · exact h HSET.out
            · exact h H3.out
          have c1 : ∀ X : LaterOf w4, X.w.cell? ⟨B, 2, none⟩ = some (.string sum) := fun X => (HC.out X.w (H5.out.trans (X.h.mono H5.out.size))).2.2.1
          have c2 : ∀ X : LaterOf w4, X.w.cell? ⟨B, 3, none⟩ = some (.slice oi ni ci) := fun X => (HC.out X.w (H5.out.trans (X.h.mono H5.out.size))).2.2.2.1
          have LX := Lib.hid (fun X : LaterOf w4 => LF1.out X.w (H5.out.trans (X.h.mono H5.out.size)))
          have HO := Lib.hid (show leafChk ⟨pre, cnt, sum, ids, kids⟩ = if sum ≠ S then 20 else 0 by
            unfold leafChk
            rw [if_neg hnot, hS])
          have HF := Lib.hid (HW.out.trans (H5.out.mono HW.out.size))
          clear hnot hS hb5 hbd
          go_upto_region 3 with (fail)
          refine wp_region_all (fun w' => ∃ z : LaterOf w4, w' = z.w) (by kernel_rfl) (by kernel_rfl) ⟨LaterOf.start w4, rfl⟩ ?_
          by_cases he : sum = S
          · have z : (sum.toList != S.toList) = false := by rw [he]; simp
            repeat (go_big_quiet_step (first | exact LaterOf.call _ (LX.out _)))
            refine wpQuiet_nil ?_
            intro w12 hw12
            obtain ⟨X, rfl⟩ := hw12
            clear c1 c2 LX
            go_wp2_with fail
            go_ret
            refine ⟨?_, HF.out.trans (X.h.mono HF.out.size)⟩
            rw [HO.out, if_neg (by simp [he])]
            rfl
          · have z0 := ne_list he
            have z : (sum.toList != S.toList) = true := by rw [bne, z0]; rfl
            repeat (go_big_quiet_step (first | exact LaterOf.call _ (LX.out _)))
            refine wpQuiet_nil ?_
            intro w12 hw12
            obtain ⟨X, rfl⟩ := hw12
            clear c1 c2 LX
            go_wp2_with fail
            go_ret
            refine ⟨?_, HF.out.trans (X.h.mono HF.out.size)⟩
            rw [HO.out, if_pos he]
            rfl
        · have k3 : ((m : Int) != cnt) = true := by simpa using h3
          have H3 := Lib.hid h3
          clear h3
          go_enter Tryz.func81, Tryz.ntmps81
          go_upto_region 1 with (fail)
          rw [← H0.out.1, ← H0.out.2]
          clear H0
          go_region_held (fun W => W.cell? ⟨B, 0, none⟩ = some (.string pre) ∧ W.cell? ⟨B, 1, none⟩ = some (.int .i64 cnt) ∧ W.cell? ⟨B, 2, none⟩ = some (.string sum) ∧ W.cell? ⟨B, 3, none⟩ = some (.slice oi ni ci) ∧ W.cell? ⟨B, 4, none⟩ = some (.slice ok nk ck))
            ((refine HC.out _ ?_; assumption))
            (first
              | (go_at_call 123
                 refine (IS.out _ hbd).mono ?_
                 rintro e _ ⟨rfl, rfl⟩)
              | (go_at_call 124
                 refine (BL1.out _ hbd).mono ?_
                 rintro e w4 ⟨ao4, cap4, rfl, hb4⟩
                 have hb5 : Below W0.heap.size W0 w4 := hbd.trans (hb4.mono hbd.size)
                 clear hb4))
          go_wp2_with fail
          go_ret
          exact ⟨by rw [leafChk_form (Or.inr (Or.inr (Or.inr fun hs => H3.out (by rw [HM.out]; exact hs)))) rfl]; rfl, HW.out.trans (hb5.mono HW.out.size)⟩
    · have k2 : decide ((0 : Int) < (nk : Int)) = true := decide_eq_true (by omega)
      have k2n : decide (0 < nk) = true := decide_eq_true h2
      have HH := Lib.hid h2
      clear h1 h2
      go_enter Tryz.func81, Tryz.ntmps81
      go_upto_region 1 with (fail)
      rw [← H0.out.1, ← H0.out.2]
      clear H0
      refine wp_region_all (fun w' => ∃ z : LaterOf W0, w' = z.w) (by kernel_rfl) (by kernel_rfl) ⟨LaterOf.start W0, rfl⟩ ?_
      repeat (go_big_quiet_step (first | exact LaterOf.call_same _ (ISX.out _)))
      refine wpQuiet_nil ?_
      intro w12 hw12
      obtain ⟨X, rfl⟩ := hw12
      clear x0 x1 x3 x4 ISX
      go_wp2_with fail
      go_ret
      exact ⟨by rw [leafChk_form (Or.inr (Or.inl (by dsimp only; rw [← HN.out.2]; exact HH.out))) rfl]; rfl, HW.out.trans (X.h.mono HW.out.size)⟩
  · have k1 : ((ni : Int) != cnt) = true := by simpa using h1
    have HH := Lib.hid h1
    clear h1
    go_enter Tryz.func81, Tryz.ntmps81
    go_upto_region 1 with (fail)
    rw [← H0.out.1, ← H0.out.2]
    clear H0
    refine wp_region_all (fun w' => ∃ z : LaterOf W0, w' = z.w) (by kernel_rfl) (by kernel_rfl) ⟨LaterOf.start W0, rfl⟩ ?_
    repeat (go_big_quiet_step (first | exact LaterOf.call_same _ (ISX.out _)))
    refine wpQuiet_nil ?_
    intro w12 hw12
    obtain ⟨X, rfl⟩ := hw12
    clear x0 x1 x3 x4 ISX
    go_wp2_with fail
    go_ret
    exact ⟨by rw [leafChk_form (Or.inl (by dsimp only; rw [← HN.out.1]; exact HH.out)) rfl]; rfl, HW.out.trans (X.h.mono HW.out.size)⟩
end Go.Proofs.YtljenganlknhbaaGreat.Tr
