/- THE LAW TrieDraws, walked: every cell is right or not, and shows what the document says. (Layer 10.) -/
import Derived.Test.YtjkhmjklmclpoaaGreatTrT3
import Derived.Test.YtjkhmjklmclpoaaGreatTrieLooks
import Derived.Test.YtjkhmjklmclpoaaGreatOpenCell
namespace Go.Proofs.YtjkhmjklmclpoaaGreat.Tr
set_option linter.unusedVariables false
set_option linter.unusedSimpArgs false
open Go.RowKit Go.Lib
open Set (StrAt scells El Rise)
theorem lacksL_le (l : List ByteArray) (c : Cp) : (drawL l c).length ≤ c.ids.length := by
  unfold drawL lacksL
  split
  · exact List.length_filter_le _ _
  · simp
theorem asksL_le (l : List ByteArray) (c : Cp) : (drawA l c).length ≤ c.kids.length := by
  unfold drawA
  split
  · exact asksU_le _ _ _
  · simp
set_option maxRecDepth 100000 in
set_option maxHeartbeats 4000000 in
theorem draws_any (v : Value) (l : List ByteArray) (c : Cp) (vi vk : Value) (w : World) (h : StrAt w v l) (hi : StrAt w vi c.ids) (hk : StrAt w vk c.kids) (hp : (c.pre.size : Int) ≤ 9223372036854775807) :
    Calls Tryz.prog 4 #[v, .agg #[.string c.pre, .int .i64 c.cnt, .string c.sum, vi, vk]] w fun e w' => e = .returned (.bool true) ∧ Below w.heap.size w w' := by
  obtain ⟨ol, cl, rfl, hcl1, hcl2, -⟩ := id h
  obtain ⟨oi, ci, rfl, hc1, hc2, -⟩ := id hi
  obtain ⟨ok, ck, rfl, hc3, hc4, -⟩ := id hk
  obtain ⟨W0, hW0⟩ : ∃ W0, W0 = w.alloc (.cells #[.string c.pre, .int .i64 c.cnt, .string c.sum, .slice oi c.ids.length ci, .slice ok c.kids.length ck] 25) := ⟨_, rfl⟩
  obtain ⟨B, hB⟩ : ∃ B, B = w.heap.size := ⟨_, rfl⟩
  have K0 := Lib.hid (show BlkIs W0 B 25 #[.string c.pre, .int .i64 c.cnt, .string c.sum, .slice oi c.ids.length ci, .slice ok c.kids.length ck] by rw [hW0, hB]; exact BlkIs.new _ _ _)
  have HW := Lib.hid (show Below w.heap.size w W0 by rw [hW0]; exact (Below.refl _ _).alloc (Nat.le_refl _) _)
  have S0 := Lib.hid (And.intro (h.later HW.out) (And.intro (hi.later HW.out) (And.intro (hk.later HW.out) hp)))
  have A := Lib.hid (awake_any W0)
  have H0 := Lib.hid (And.intro hW0 hB)
  have TL := Lib.hid (And.intro (lacksL_le l c) (asksL_le l c))
  obtain ⟨Ls, hLs⟩ : ∃ Ls, Ls = drawL l c := ⟨_, rfl⟩
  obtain ⟨As, hAs⟩ : ∃ As, As = drawA l c := ⟨_, rfl⟩
  obtain ⟨E, hE⟩ : ∃ E, E = drawE l c := ⟨_, rfl⟩
  obtain ⟨Z, hZ⟩ : ∃ Z, Z = chk c := ⟨_, rfl⟩
  have HD := Lib.hid (And.intro hLs (And.intro hAs (And.intro hE hZ)))
  rw [← hLs, ← hAs] at TL
  have CT := Lib.hid (fun W (hb : Below W0.heap.size W0 W) (hn : c.ids.length ≤ 1000000) (hnk : c.kids.length ≤ 1000000) => check_any c _ _ W (S0.out.2.1.later hb) (S0.out.2.2.1.later hb) hn hnk hp)
  have CR := Lib.hid (fun W (hb : Below W0.heap.size W0 W) (hn : c.ids.length ≤ 1000000) (hnk : c.kids.length ≤ 1000000) => rcheck_any c _ _ W (S0.out.2.1.later hb) (S0.out.2.2.1.later hb) hn hnk hp)
  have DT := Lib.hid (fun W (hb : Below W0.heap.size W0 W) (hl : l.length ≤ 1000000) (hn : c.ids.length ≤ 1000000) (hnk : c.kids.length ≤ 1000000) => draw_any _ l c _ _ W (S0.out.1.later hb) (S0.out.2.1.later hb) (S0.out.2.2.1.later hb) hl hn hnk hp)
  have DR := Lib.hid (fun W (hb : Below W0.heap.size W0 W) (hl : l.length ≤ 1000000) (hn : c.ids.length ≤ 1000000) (hnk : c.kids.length ≤ 1000000) => rdraw_any _ l c _ _ W (S0.out.1.later hb) (S0.out.2.1.later hb) (S0.out.2.2.1.later hb) hl hn hnk hp)
  unfold DrawOut at DT DR
  rw [← hZ] at CT CR
  rw [← hLs, ← hAs, ← hE] at DT DR
  obtain ⟨pre, cnt, sum, ids, kids⟩ := c
  dsimp only at K0 S0 H0 CT CR DT DR TL hc1 hc2 hc3 hc4 ⊢
  obtain ⟨nl, hnl⟩ : ∃ n, n = l.length := ⟨_, rfl⟩
  obtain ⟨ni, hni⟩ : ∃ n, n = ids.length := ⟨_, rfl⟩
  obtain ⟨nk, hnk⟩ : ∃ n, n = kids.length := ⟨_, rfl⟩
  rw [← hni] at K0 S0 H0 CT CR DT DR TL hc1 ⊢
  rw [← hnk] at K0 S0 H0 CT CR DT DR TL hc3 ⊢
  rw [← hnl] at S0 DT DR hcl1 ⊢
  clear hW0 hB hi hk h hp hLs hAs hE hZ hnl hni hnk
  have HC := Lib.hid (show ∀ W, Below W0.heap.size W0 W → W.cell? ⟨B, 0, none⟩ = some (.string pre) ∧ W.cell? ⟨B, 1, none⟩ = some (.int .i64 cnt) ∧ W.cell? ⟨B, 2, none⟩ = some (.string sum) ∧ W.cell? ⟨B, 3, none⟩ = some (.slice oi ni ci) ∧ W.cell? ⟨B, 4, none⟩ = some (.slice ok nk ck) from fun W hb => by
    have K := K0.out.below hb K0.out.lt
    exact ⟨K.cell 0, K.cell 1, K.cell 2, K.cell 3, K.cell 4⟩)
  go_enter Tryz.func4, Tryz.ntmps4
  go_upto_region 1 with (fail)
  rw [← H0.out.1, ← H0.out.2]
  clear H0
  go_wp2_with fail
  refine A.out.mono ?_
  rintro e w1 ⟨rfl, hb1⟩
  have B1 := Lib.hid hb1
  have BF := Lib.hid (HW.out.trans (hb1.mono HW.out.size))
  clear A hb1
  obtain ⟨d0, d1, d2, d3, d4⟩ := HC.out w1 B1.out
  by_cases h80 : (80 : Int) < (nl : Int)
  · go_wp2_with fail
    go_ret
    exact ⟨rfl, BF.out⟩
  have h80' : decide ((80 : Int) < (nl : Int)) = false := decide_eq_false h80
  have h80n : decide (80 < nl) = false := decide_eq_false (by omega)
  by_cases i80 : (80 : Int) < (ni : Int)
  · go_wp2_with fail
    go_ret
    exact ⟨rfl, BF.out⟩
  have i80' : decide ((80 : Int) < (ni : Int)) = false := decide_eq_false i80
  have i80n : decide (80 < ni) = false := decide_eq_false (by omega)
  by_cases k80 : (80 : Int) < (nk : Int)
  · go_wp2_with fail
    go_ret
    exact ⟨rfl, BF.out⟩
  have k80' : decide ((80 : Int) < (nk : Int)) = false := decide_eq_false k80
  have k80n : decide (80 < nk) = false := decide_eq_false (by omega)
  have q1 : nl ≤ 1000000 := by omega
  have q2 : ni ≤ 1000000 := by omega
  have q3 : nk ≤ 1000000 := by omega
  have HQ := Lib.hid (And.intro q1 (And.intro q2 q3))
  have CTX := Lib.hid (fun X : LaterOf w1 => CT.out X.w (B1.out.trans (X.h.mono B1.out.size)) q2 q3)
  have CRX := Lib.hid (fun X : LaterOf w1 => CR.out X.w (B1.out.trans (X.h.mono B1.out.size)) q2 q3)
  have x0 : ∀ X : LaterOf w1, X.w.cell? ⟨B, 0, none⟩ = some (.string pre) := fun X => (HC.out X.w (B1.out.trans (X.h.mono B1.out.size))).1
  have x1 : ∀ X : LaterOf w1, X.w.cell? ⟨B, 1, none⟩ = some (.int .i64 cnt) := fun X => (HC.out X.w (B1.out.trans (X.h.mono B1.out.size))).2.1
  have x2 : ∀ X : LaterOf w1, X.w.cell? ⟨B, 2, none⟩ = some (.string sum) := fun X => (HC.out X.w (B1.out.trans (X.h.mono B1.out.size))).2.2.1
  have x3 : ∀ X : LaterOf w1, X.w.cell? ⟨B, 3, none⟩ = some (.slice oi ni ci) := fun X => (HC.out X.w (B1.out.trans (X.h.mono B1.out.size))).2.2.2.1
  have x4 : ∀ X : LaterOf w1, X.w.cell? ⟨B, 4, none⟩ = some (.slice ok nk ck) := fun X => (HC.out X.w (B1.out.trans (X.h.mono B1.out.size))).2.2.2.2
  clear h80 i80 k80 q1 q2 q3 CT CR
  go_upto_region 5 with (fail)
  clear h80' h80n i80' i80n k80' k80n d0 d1 d2 d3 d4
  have z0 : (Z != Z) = false := by simp
  refine wp_region_all (fun w' => ∃ z : LaterOf w1, w' = z.w) (by kernel_rfl) (by kernel_rfl) ⟨LaterOf.start w1, rfl⟩ ?_
  repeat (go_big_quiet_step (first | exact LaterOf.call _ (CTX.out _) | exact LaterOf.call _ (CRX.out _)))
  refine wpQuiet_nil ?_
  intro w12 hw12
  obtain ⟨X, rfl⟩ := hw12
  clear x0 x1 x2 x3 x4 CTX CRX
  obtain ⟨w2, h2⟩ := X
  dsimp only
  have B2 := Lib.hid (B1.out.trans (h2.mono B1.out.size))
  obtain ⟨d0, d1, d2, d3, d4⟩ := HC.out w2 B2.out
  have DT2 := Lib.hid (DT.out w2 B2.out HQ.out.1 HQ.out.2.1 HQ.out.2.2)
  clear DT h2
  go_wp2_with fail
  refine DT2.out.mono ?_
  rintro e w3 ⟨u, v, rfl, hu, hv, hb3⟩
  have B3 := Lib.hid (B2.out.trans (hb3.mono B2.out.size))
  have HU := Lib.hid (And.intro hu hv)
  obtain ⟨ou, cu, rfl, -, -, -⟩ := hu
  obtain ⟨ov, cv, rfl, -, -, -⟩ := hv
  clear d0 d1 d2 d3 d4 hb3 DT2
  obtain ⟨d0, d1, d2, d3, d4⟩ := HC.out w3 B3.out
  have DR3 := Lib.hid (DR.out w3 B3.out HQ.out.1 HQ.out.2.1 HQ.out.2.2)
  clear DR
  go_wp2_with fail
  refine DR3.out.mono ?_
  rintro e w4 ⟨u', v', rfl, hu, hv, hb4⟩
  have B4 := Lib.hid (B3.out.trans (hb4.mono B3.out.size))
  have HX := Lib.hid (And.intro hu (And.intro hv (And.intro (HU.out.1.later hb4) (HU.out.2.later hb4))))
  obtain ⟨ou', cu', rfl, -, -, -⟩ := hu
  obtain ⟨ov', cv', rfl, -, -, -⟩ := hv
  clear d0 d1 d2 d3 d4 hb4 DR3
  have T1 := Lib.hid (rtexts_same _ _ Ls w4 HX.out.2.2.1 HX.out.1 (by have := TL.out.1; have := HQ.out.2.1; omega))
  have e1 : (E == E) = true := by simp
  go_wp2_with fail
  refine T1.out.mono ?_
  rintro e w5 ⟨rfl, hb5⟩
  have B5 := Lib.hid (B4.out.trans (hb5.mono B4.out.size))
  have T2 := Lib.hid (rtexts_same _ _ As w5 (HX.out.2.2.2.later hb5) (HX.out.2.1.later hb5) (by have := TL.out.2; have := HQ.out.2.2; omega))
  clear T1 hb5
  go_wp2_with fail
  refine T2.out.mono ?_
  rintro e w6 ⟨rfl, hb6⟩
  have B6 := Lib.hid (B5.out.trans (hb6.mono B5.out.size))
  clear T2 hb6
  go_wp2_with fail
  go_ret
  exact ⟨rfl, HW.out.trans (B6.out.mono HW.out.size)⟩
theorem draws_arg (a0 : Option Addr) (n0 c0 : Nat) (s0 : List ByteArray) (c : Cp) (vi vk : Value) (w : World) (h0 : StrRow w a0 n0 s0) (k0 : n0 ≤ c0 ∧ c0 ≤ maxLen) (hi : StrAt w vi c.ids) (hk : StrAt w vk c.kids) (hp : (c.pre.size : Int) ≤ 9223372036854775807) :
    Calls Tryz.prog 4 #[.slice a0 n0 c0, .agg #[.string c.pre, .int .i64 c.cnt, .string c.sum, vi, vk]] w fun e w' => e = .returned (.bool true) ∧ Below w.heap.size w w' :=
  draws_any _ _ c _ _ w (StrAt_of_row h0 k0) hi hk hp
end Go.Proofs.YtjkhmjklmclpoaaGreat.Tr
