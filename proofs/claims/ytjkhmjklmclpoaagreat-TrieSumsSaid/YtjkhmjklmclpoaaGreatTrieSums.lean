/- THE LAW TrieSums, walked: a cell that is looked at is right; its kids are the sums at the longer prefixes. Printed by gen_sums.py. (Layer 10.) -/
import Derived.Test.YtjkhmjklmclpoaaGreatTrS
namespace Go.Proofs.YtjkhmjklmclpoaaGreat.Tr
set_option linter.unusedVariables false
set_option linter.unusedSimpArgs false
open Go.RowKit Go.Lib
open Set (StrAt scells El Rise)
set_option maxRecDepth 100000 in
set_option maxHeartbeats 8000000 in
theorem sums_any (ao : Option Addr) (n na : Nat) (f : Nat → List UInt8) (p0 p1 p2 : UInt8) (lg : Int) (w : World) (hf : B32At w ao n f) :
    Calls Tryz.prog 5 #[.slice ao n na, .agg #[.int .u8 (p0.toNat : Int), .int .u8 (p1.toNat : Int), .int .u8 (p2.toNat : Int)], .int .i64 lg] w fun e w' => e = .returned (.bool true) ∧ Below w.heap.size w w' := by
  obtain ⟨W0, hW0⟩ : ∃ W0, W0 = w.alloc (.cells #[.int .u8 (p0.toNat : Int), .int .u8 (p1.toNat : Int), .int .u8 (p2.toNat : Int)] 37) := ⟨_, rfl⟩
  obtain ⟨B, hB⟩ : ∃ B, B = w.heap.size := ⟨_, rfl⟩
  have K0 := Lib.hid (show BlkIs W0 B 37 #[.int .u8 (p0.toNat : Int), .int .u8 (p1.toNat : Int), .int .u8 (p2.toNat : Int)] by rw [hW0, hB]; exact BlkIs.new _ _ _)
  have HW := Lib.hid (show Below w.heap.size w W0 by rw [hW0]; exact (Below.refl _ _).alloc (Nat.le_refl _) _)
  have HF := Lib.hid (hf.later HW.out)
  have A := Lib.hid (awake_any W0)
  have hn63 := hf.1
  have H0 := Lib.hid (And.intro hW0 hB)
  clear hW0 hB hf
  go_enter Tryz.func5, Tryz.ntmps5
  go_upto_region 1 with (fail)
  rw [← H0.out.1, ← H0.out.2]
  clear H0
  go_wp2_with fail
  refine A.out.mono ?_
  rintro e w1 ⟨rfl, hb1⟩
  have B1 := Lib.hid hb1
  clear A hb1
  by_cases h80 : (80 : Int) < (n : Int)
  · go_wp2_with fail
    go_ret
    exact ⟨rfl, HW.out.trans (B1.out.mono HW.out.size)⟩
  have h80' : decide ((80 : Int) < (n : Int)) = false := decide_eq_false h80
  have h80n : decide (80 < n) = false := decide_eq_false (by omega)
  have HN80 := Lib.hid (show n ≤ 80 by omega)
  clear h80
  have SA := Lib.hid (sorted_any ao n na f w1 (HF.out.later B1.out) (by have := HN80.out; omega))
  go_wp2_with fail
  refine SA.out.mono ?_
  rintro e w3 ⟨ua, a, rfl, hsa, hseta, hb2⟩
  have B3 := Lib.hid (B1.out.trans (hb2.mono B1.out.size))
  have SAt := Lib.hid (StrAt.of_sl hsa)
  have HSA := Lib.hid (show IsSet a ∧ a.length ≤ 80 from ⟨hseta.1, Nat.le_trans hseta.2.2 HN80.out⟩)
  obtain ⟨oa, ca, rfl, -, -, -⟩ := hsa.form
  clear SA hsa hseta hb2 h80' h80n
  go_upto_region 6 with (fail)
  have K3 := K0.out.below B3.out K0.out.lt
  obtain ⟨X, hX⟩ : ∃ X : ByteArray, X = ⟨#[p0, p1, p2]⟩ ++ ⟨(List.replicate 29 (0 : UInt8)).toArray⟩ := ⟨_, rfl⟩
  obtain ⟨P3, hP3⟩ : ∃ P : ByteArray, P = ⟨#[p0, p1, p2]⟩ := ⟨_, rfl⟩
  obtain ⟨Z29, hZ29⟩ : ∃ P : ByteArray, P = ⟨(List.replicate 29 (0 : UInt8)).toArray⟩ := ⟨_, rfl⟩
  have hz3 : P3.size = 3 := by rw [hP3]; rfl
  have hz29 : Z29.size = 29 := by rw [hZ29]; simp [ByteArray.size]
  have hXX : P3 ++ Z29 = X := by rw [hX, hP3, hZ29]
  have hXz : X.size = 32 := by rw [← hXX, ByteArray.size_append, hz3, hz29]
  have TH := Lib.hid (fun W hb => three_text W B p0 p1 p2 hb)
  have ZR := Lib.hid (fun W b hb => zeros_text W b 29 hb (by decide))
  have MK := mk_bytes
  rw [← hP3] at TH
  rw [← hZ29] at ZR
  have HX := Lib.hid (fun W => hex_any X hXz W)
  obtain ⟨k, hk7, hkw0⟩ := idx_in7 lg
  have hkw : IntKind.i64.wrap ((IntKind.u64.wrap lg).tmod 7) = (k : Int) := hkw0
  have hk64 : k ≤ 64 := by omega
  have q1 : (k : Int) ≤ 64 := by omega
  have q2 : (0 : Int) ≤ (k : Int) := by omega
  have q3 : ¬ (9223372036854775807 < P3.size + Z29.size) := by omega
  obtain ⟨Hx, hHx⟩ : ∃ H, H = hexS X := ⟨_, rfl⟩
  have hpq : pfxB (Hx.extract 0 k) = true ∧ (Hx.extract 0 k).size = k := by rw [hHx]; exact hex_pfx X k hk64
  have hpf := hpq.1
  have hpz := hpq.2
  rw [← hHx] at HX
  have hHz : Hx.size = 64 := by rw [hHx]; simp [hexS, ByteArray.size, hexL_length]
  obtain ⟨pp, hpp⟩ : ∃ p, p = Hx.extract 0 k := ⟨_, rfl⟩
  rw [← hpp] at hpf hpz
  have hpp2 := hpp.symm
  have HPF := Lib.hid (And.intro hpf (show pp.size ≤ 64 by omega))
  clear hX hXz hP3 hZ29 hpf hpz hHx hpp hpq hkw0
  refine wp_region_held_drew (S := fun W => BlkIs W B 37 #[.int .u8 (p0.toNat : Int), .int .u8 (p1.toNat : Int), .int .u8 (p2.toNat : Int)]) (by kernel_rfl) K3 (fun hHeld => ?_)
  obtain ⟨W4, hW4⟩ : ∃ W4, W4 = w3.drew := ⟨_, rfl⟩
  have B34 := Lib.hid (show Below w3.heap.size w3 W4 by rw [hW4]; exact ⟨rfl, rfl, rfl, Nat.le_refl _, fun _ _ => rfl⟩)
  rw [← hW4] at hHeld ⊢
  clear hW4
  refine wpAnyH_take (i := 0) (v := .slice (some ⟨B, 0, none⟩) 3 3) rfl (by kernel_rfl) (by kernel_rfl) (by kernel_rfl) (fun _ _ _ h => h) (Or.inl ⟨by rfl, fun w hSw => ?_⟩) (by assumption) ?_
  · obtain hB3 := hSw
    go_simp
  simp only [Act.put, List.setIfInBounds_toArray, List.set_cons_zero, List.set_cons_succ]
  refine wpAnyH_take (i := 1) (v := .string P3) rfl (by kernel_rfl) (by kernel_rfl) (by kernel_rfl) (fun _ _ _ h => h) (Or.inl ⟨by rfl, fun w hSw => ?_⟩) (by assumption) ?_
  · have hconv := TH.out w hSw
    go_simp
  simp only [Act.put, List.setIfInBounds_toArray, List.set_cons_zero, List.set_cons_succ]
  refine wpAnyH_take (i := 6) (v := .int .i64 lg) rfl (by kernel_rfl) (by kernel_rfl) (by kernel_rfl) (fun _ _ _ h => h) (Or.inl ⟨by rfl, fun w hSw => ?_⟩) (by assumption) ?_
  · skip
    go_simp
  simp only [Act.put, List.setIfInBounds_toArray, List.set_cons_zero, List.set_cons_succ]
  refine wpAnyH_take (i := 7) (v := .int .u64 (IntKind.u64.wrap lg)) rfl (by kernel_rfl) (by kernel_rfl) (by kernel_rfl) (fun _ _ _ h => h) (Or.inl ⟨by rfl, fun w hSw => ?_⟩) (by assumption) ?_
  · skip
    go_simp
  simp only [Act.put, List.setIfInBounds_toArray, List.set_cons_zero, List.set_cons_succ]
  refine wpAnyH_take (i := 8) (v := .int .u64 ((IntKind.u64.wrap lg).tmod 7)) rfl (by kernel_rfl) (by kernel_rfl) (by kernel_rfl) (fun _ _ _ h => h) (Or.inl ⟨by rfl, fun w hSw => ?_⟩) (by assumption) ?_
  · skip
    go_simp
  simp only [Act.put, List.setIfInBounds_toArray, List.set_cons_zero, List.set_cons_succ]
  refine wpAnyH_take (i := 9) (v := .int .i64 (k : Int)) rfl (by kernel_rfl) (by kernel_rfl) (by kernel_rfl) (fun _ _ _ h => h) (Or.inl ⟨by rfl, fun w hSw => ?_⟩) (by assumption) ?_
  · skip
    go_simp
  simp only [Act.put, List.setIfInBounds_toArray, List.set_cons_zero, List.set_cons_succ]
  refine wpAnyH_ready (rs := [2]) (by kernel_rfl) (by simp) ?_
  refine AllReadyH.cons rfl (fun K hK => ?_) AllReadyH.nil
  go_simp
  obtain ⟨N, hN⟩ : ∃ N, N = W4.heap.size := ⟨_, rfl⟩
  obtain ⟨W5, hW5⟩ : ∃ W5, W5 = W4.alloc (.cells (Array.replicate 29 (.int .u8 0)) 5) := ⟨_, rfl⟩
  have K5 := ZR.out W5 N (by rw [hW5, hN]; exact BlkIs.new _ _ _)
  have h45 : Below W4.heap.size W4 W5 := by rw [hW5]; exact (Below.refl _ _).alloc (Nat.le_refl _) _
  have B35 := Lib.hid (B34.out.trans (h45.mono B34.out.size))
  have B5 := Lib.hid (B3.out.trans (B35.out.mono B3.out.size))
  rw [← hN, ← hW5]
  refine hK.out _ _ ?_ (fun hHeld => ?_)
  · exact K0.out.below B5.out K0.out.lt
  clear hK K hN hW5 h45 MK
  refine wpAnyH_ready (rs := [3]) (by kernel_rfl) (by simp) ?_
  refine AllReadyH.cons rfl (fun K hK => ?_) AllReadyH.nil
  go_simp
  refine hK.out _ _ ?_ (fun hHeld => ?_)
  · exact K0.out.below B5.out K0.out.lt
  clear hK K K5
  refine wpAnyH_take (i := 4) (v := .string X) rfl (by kernel_rfl) (by kernel_rfl) (by kernel_rfl) (fun _ _ _ h => h) (Or.inl ⟨by rfl, fun w hSw => ?_⟩) (by assumption) ?_
  · skip
    go_simp
  simp only [Act.put, List.setIfInBounds_toArray, List.set_cons_zero, List.set_cons_succ]
  refine wpAnyH_ready (rs := [5]) (by kernel_rfl) (by simp) ?_
  refine AllReadyH.cons rfl (fun K hK => ?_) AllReadyH.nil
  go_simp
  go_wp2_with (
    go_at_call 19
    refine (HX.out W5).mono ?_
    rintro e w6 ⟨rfl, hb6⟩
    have B6 := Lib.hid (B5.out.trans (hb6.mono B5.out.size))
    have B36 := Lib.hid (B35.out.trans (hb6.mono B35.out.size))
    clear hb6)
  refine hK.out _ _ ?_ (fun hHeld => ?_)
  · exact K0.out.below B6.out K0.out.lt
  clear hK K HX
  refine wpAnyH_take (i := 10) (v := .string pp) rfl (by kernel_rfl) (by kernel_rfl) (by kernel_rfl) (fun _ _ _ h => h) (Or.inl ⟨by rfl, fun w hSw => ?_⟩) (by assumption) ?_
  · skip
    go_simp
  simp only [Act.put, List.setIfInBounds_toArray, List.set_cons_zero, List.set_cons_succ]
  refine wpAnyH_take (i := 11) (v := .string pp) rfl (by kernel_rfl) (by kernel_rfl) (by kernel_rfl) (fun _ _ _ h => h) (Or.inl ⟨by rfl, fun w hSw => ?_⟩) (by assumption) ?_
  · skip
    go_simp
  simp only [Act.put, List.setIfInBounds_toArray, List.set_cons_zero, List.set_cons_succ]
  refine wpAnyH_done (by kernel_rfl) ?_ _
  clear hHeld hkw hz3 hz29 hXX hHz hpp2 q1 q2 q3 K3 TH ZR hk7 hk64
  have HW6 := Lib.hid (HW.out.trans (B6.out.mono HW.out.size))
  have SA6 := Lib.hid (SAt.out.later B36.out)
  clear SAt B36 B6 B35 B34 B5 B3 B1 HF K0 HN80
  have hpp6 : (pp.size : Int) ≤ 9223372036854775807 := by have := HPF.out.2; omega
  have LK := Lib.hid (look_any _ a pp w6 SA6.out (by have := HSA.out.2; omega) hpp6)
  have hlk := look_ok HSA.out.1 HPF.out.1
  have hcz := chk_cell HSA.out.1 HPF.out.1 (by have := HSA.out.2; omega)
  have hcr : (cellC (belowL a pp) pp).ids.length ≤ 1000000 ∧ (cellC (belowL a pp) pp).kids.length ≤ 1000000 := by
    obtain ⟨_, h2⟩ := chk_ok hcz
    rcases h2 with ⟨a1, _, a3, _⟩ | ⟨a1, a2, _⟩
    · rw [a1]; exact ⟨by omega, by simp⟩
    · rw [a1, a2]; exact ⟨by simp, by omega⟩
  have hpre : (cellC (belowL a pp) pp).pre = pp := cellC_pre _ _
  have hcnt : (cellC (belowL a pp) pp).cnt = ((belowL a pp).length : Int) := cellC_cnt _ _
  obtain ⟨nb, hnb⟩ : ∃ n, n = (belowL a pp).length := ⟨_, rfl⟩
  have hnb80 : nb ≤ 80 := by rw [hnb]; exact Nat.le_trans (List.length_filter_le _ _) HSA.out.2
  rw [← hnb] at hcnt
  have HNB := Lib.hid hnb
  obtain ⟨c, hc⟩ : ∃ c, c = cellC (belowL a pp) pp := ⟨_, rfl⟩
  rw [← hc] at hlk hcr hpre hcz hcnt
  have HC := Lib.hid (And.intro hlk (And.intro hcz (And.intro hcr (And.intro hpre (And.intro hcnt hc)))))
  clear hlk hcz hcr hpre hcnt hc hpp6 hnb
  go_wp2_with fail
  refine LK.out.mono ?_
  rintro e w7 ⟨v, rfl, ⟨vi, vk, hv, hi7, hk7⟩, hb7⟩
  rw [HC.out.1.1] at hv hi7 hk7
  rw [HC.out.1.2]
  subst hv
  unfold aggC
  have B67 := Lib.hid hb7
  obtain ⟨oi, ci, rfl, -, -, -⟩ := id hi7
  obtain ⟨ok, ck, rfl, -, -, -⟩ := id hk7
  obtain ⟨G, hG⟩ : ∃ G, G = w7.heap.size := ⟨_, rfl⟩
  obtain ⟨W8, hW8⟩ : ∃ W8, W8 = w7.alloc (.cells #[.string c.pre, .int .i64 c.cnt, .string c.sum, .slice oi c.ids.length ci, .slice ok c.kids.length ck] 25) := ⟨_, rfl⟩
  have h78 : Below w7.heap.size w7 W8 := by rw [hW8]; exact (Below.refl _ _).alloc (Nat.le_refl _) _
  have K8 := Lib.hid (show BlkIs W8 G 25 #[.string c.pre, .int .i64 c.cnt, .string c.sum, .slice oi c.ids.length ci, .slice ok c.kids.length ck] by rw [hW8, hG]; exact BlkIs.new _ _ _)
  have B68 := Lib.hid (B67.out.trans (h78.mono B67.out.size))
  have CK := Lib.hid (check_any c _ _ W8 (hi7.later h78) (hk7.later h78) HC.out.2.2.1.1 HC.out.2.2.1.2 (by rw [HC.out.2.2.2.1]; have := HPF.out.2; omega))
  rw [HC.out.2.1] at CK
  have SI8 := Lib.hid (hi7.later h78)
  have SK8 := Lib.hid (hk7.later h78)
  have SA8 := Lib.hid (SA6.out.later B68.out)
  have HW8 := Lib.hid (HW6.out.trans (B68.out.mono HW6.out.size))
  have H8 := Lib.hid (And.intro hW8 hG)
  clear hi7 hk7 hb7 hW8 hG h78 LK B67 SA6
  go_upto_region 8 with (fail)
  rw [← H8.out.1, ← H8.out.2]
  clear H8 B68 HW6
  obtain ⟨pre, cnt, sum, ids, kids⟩ := c
  dsimp only at K8 CK SI8 SK8 ⊢
  obtain rfl : pp = pre := HC.out.2.2.2.1.symm
  have hcnt : cnt = (nb : Int) := HC.out.2.2.2.2.1
  subst hcnt
  obtain ⟨ni, hni⟩ : ∃ n, n = ids.length := ⟨_, rfl⟩
  obtain ⟨nk, hnk⟩ : ∃ n, n = kids.length := ⟨_, rfl⟩
  rw [← hni] at K8 CK ⊢
  rw [← hnk] at K8 CK ⊢
  have HNN := Lib.hid (And.intro hni hnk)
  clear hni hnk
  have hBX := Lib.hid (show ∀ W, Below W8.heap.size W8 W → W.cell? ⟨G, 0, none⟩ = some (.string pp) ∧ W.cell? ⟨G, 1, none⟩ = some (.int .i64 (nb : Int)) ∧ W.cell? ⟨G, 2, none⟩ = some (.string sum) ∧ W.cell? ⟨G, 3, none⟩ = some (.slice oi ni ci) ∧ W.cell? ⟨G, 4, none⟩ = some (.slice ok nk ck) from fun W hb => by
    have K := K8.out.below hb K8.out.lt
    exact ⟨K.cell 0, K.cell 1, K.cell 2, K.cell 3, K.cell 4⟩)
  obtain ⟨x0, x1, x2, x3, x4⟩ := hBX.out W8 (Below.refl _ _)
  have y1 : (pp.toList != pp.toList) = false := by simp
  go_wp2_with fail
  refine CK.out.mono ?_
  rintro e w9 ⟨rfl, hb9⟩
  have B89 := Lib.hid hb9
  clear CK hb9 x0 x1 x2 x3 x4
  obtain ⟨x0, x1, x2, x3, x4⟩ := hBX.out w9 B89.out
  go_wp2_with fail
  clear x0 x1 x2 x3 x4 y1
  obtain ⟨na', hna'⟩ : ∃ n, n = a.length := ⟨_, rfl⟩
  rw [← hna']
  have HNA := Lib.hid hna'
  have hna80 : na' ≤ 80 := by rw [hna']; exact HSA.out.2
  clear hna'
  go_loopw [11, 12] (fun u c wr => ∃ k : Nat, c = .int .i64 (k : Int) ∧ k ≤ na' ∧ u = .int .i64 ((belowL (a.take k) pp).length : Int) ∧ Hid (Below W8.heap.size W8 wr)) (fun _ c _ => ((na' : Int) - intOf c).toNat)
  case atStart => exact ⟨0, rfl, by omega, rfl, B89⟩
  case round =>
    obtain ⟨k, rfl, hk, rfl, HK⟩ := hrel
    rcases Nat.lt_or_ge k na' with h3 | h3
    · have k1 : (k : Int) < na' := by omega
      have kw : IntKind.i64.wrap ((k : Int) + 1) = ((k + 1 : Nat) : Int) := IntWalk.i64_in _ (by omega)
      obtain ⟨b, off, hao, hlt, hc⟩ := strAt_at SA8.out (by rw [← HNA.out]; omega)
      subst hao
      have c0 := hc k (by rw [← HNA.out]; exact h3)
      rw [← HK.out.cell hlt] at c0
      obtain ⟨x, hx⟩ : ∃ x, x = a[k]! := ⟨_, rfl⟩
      rw [← hx] at c0
      have AA := Lib.hid (has_any x pp (by have := HPF.out.2; omega) wr)
      have ht := below_take (l := a) (p := pp) (k := k) (by rw [← HNA.out]; exact h3)
      rw [← hx] at ht
      obtain ⟨m, hm⟩ : ∃ m, m = (belowL (a.take k) pp).length := ⟨_, rfl⟩
      have hml : m ≤ 1000000 := by rw [hm]; exact Nat.le_trans (List.length_filter_le _ _) (by rw [List.length_take]; omega)
      have mw : IntKind.i64.wrap ((m : Int) + 1) = ((m + 1 : Nat) : Int) := IntWalk.i64_in _ (by omega)
      have hm2 : (belowL (a.take (k + 1)) pp).length = if hasB x pp then m + 1 else m := by
        rw [ht, hm]
        cases hasB x pp <;> simp
      rw [← hm]
      have HM := Lib.hid hm2
      obtain ⟨q, hq⟩ : ∃ q, q = hasB x pp := ⟨_, rfl⟩
      rw [← hq] at AA HM
      clear hc hx ht hm hm2 hq
      cases q with
      | false =>
        go_wp2_with fail
        refine AA.out.mono ?_
        rintro e w2 ⟨rfl, hb⟩
        have HN := Lib.hid (HK.out.trans (hb.mono HK.out.size))
        clear AA hb
        go_wp2_with fail
        refine ⟨⟨k + 1, by simp, by omega, ?_, HN⟩, ?_⟩
        · rw [HM.out]; rfl
        · simp [intOf]
          omega
      | true =>
        go_wp2_with fail
        refine AA.out.mono ?_
        rintro e w2 ⟨rfl, hb⟩
        have HN := Lib.hid (HK.out.trans (hb.mono HK.out.size))
        clear AA hb
        go_wp2_with fail
        refine ⟨⟨k + 1, by simp, by omega, ?_, HN⟩, ?_⟩
        · rw [HM.out]; simp
        · simp [intOf]
          omega
    · have k1 : decide ((k : Int) < na') = false := decide_eq_false (by omega)
      have k2 : ¬ ((k : Int) < na') := by omega
      obtain rfl : k = na' := by omega
      rw [HNA.out, List.take_length, ← HNB.out]
      rw [← HNA.out]
      have hnk80 := hna80
      clear hk k2 k1 h3
      obtain ⟨x0, x1, x2, x3, x4⟩ := hBX.out wr HK.out
      have z1 : ((nb : Int) != (nb : Int)) = false := by simp
      have HKA := Lib.hid HK.out
      by_cases h8 : nb ≤ 8
      · have hkz : nk = 0 := by rw [HNN.out.2]; exact few_kids HC.out.2.2.2.2.2 (by rw [← HNB.out]; exact h8)
        subst hkz
        have hz8 : decide ((nb : Int) ≤ 8) = true := decide_eq_true (by omega)
        have hz9 : (nb : Int) ≤ 8 := by omega
        go_wp2_with fail
        clear x0 x1 x2 x3 x4 z1 hz8 hz9 HK
        have H8 := Lib.hid (show (belowL a pp).length ≤ 8 by rw [← HNB.out]; exact h8)
        clear h8
        go_loopw [13, 14, 15] (fun s m c wq => s = .string ⟨#[107]⟩ ∧ m = .int .i64 0 ∧ c = .int .i64 0 ∧ Hid (Below W8.heap.size W8 wq)) (fun _ _ _ _ => 0)
        case atStart => exact ⟨rfl, rfl, rfl, HKA⟩
        case round =>
          obtain ⟨rfl, rfl, rfl, HK⟩ := hrel
          obtain ⟨x0, x1, x2, x3, x4⟩ := hBX.out wr HK.out
          go_wp2_with fail
          have hci := cellC_ids (belowL a pp) pp
          rw [if_pos H8.out, ← HC.out.2.2.2.2.2] at hci
          dsimp only at hci
          have hnin : ni = nb := by rw [HNN.out.1, HNB.out, hci]
          have hni8 : ni ≤ 8 := by rw [hnin, HNB.out]; exact H8.out
          have HCI := Lib.hid (And.intro hci hnin)
          have hids : ∀ x, x ∈ ids → x.size = 32 := by rw [hci]; exact fun x hx => (HSA.out.1.below pp).size hx
          have HID := Lib.hid hids
          have HKB := Lib.hid HK.out
          clear x0 x1 x2 x3 x4 hci hnin hids HK
          go_loopw [13, 18] (fun s c wq => ∃ j : Nat, c = .int .i64 (j : Int) ∧ j ≤ ni ∧ s = .string ⟨(108 :: catL (ids.take j)).toArray⟩ ∧ Hid (Below W8.heap.size W8 wq)) (fun _ c _ => ((ni : Int) - intOf c).toNat)
          case atStart => exact ⟨0, rfl, by omega, rfl, HKB⟩
          case round =>
            obtain ⟨j, rfl, hj, rfl, HK⟩ := hrel
            obtain ⟨x0, x1, x2, x3, x4⟩ := hBX.out wr HK.out
            rcases Nat.lt_or_ge j ni with h3 | h3
            · have k1 : (j : Int) < ni := by omega
              have kw : IntKind.i64.wrap ((j : Int) + 1) = ((j + 1 : Nat) : Int) := IntWalk.i64_in _ (by omega)
              obtain ⟨b, off, hao, hlt, hc⟩ := strAt_at SI8.out (by rw [← HNN.out.1]; omega)
              subst hao
              have c0 := hc j (by rw [← HNN.out.1]; exact h3)
              rw [← HK.out.cell hlt] at c0
              obtain ⟨xs, hxs⟩ : ∃ x, x = ids[j]! := ⟨_, rfl⟩
              rw [← hxs] at c0
              have hct : catL (ids.take (j + 1)) = catL (ids.take j) ++ xs.data.toList := by rw [hxs]; exact catL_take (by rw [← HNN.out.1]; exact h3)
              have hjl : j < ids.length := by rw [← HNN.out.1]; exact h3
              have hxs32 : xs.size = 32 := by rw [hxs, getElem!_pos ids j hjl]; exact HID.out _ (List.getElem_mem hjl)
              obtain ⟨S, hS1⟩ : ∃ S : ByteArray, S = ⟨(108 :: catL (ids.take j)).toArray⟩ := ⟨_, rfl⟩
              obtain ⟨S', hS2⟩ : ∃ S : ByteArray, S = ⟨(108 :: catL (ids.take (j + 1))).toArray⟩ := ⟨_, rfl⟩
              have hSS : S ++ xs = S' := by
                rw [hS1, hS2, hct]
                apply ByteArray.ext
                simp
              have hSz : S.size ≤ 1000000000 := by
                rw [hS1]
                have h5 : (catL (ids.take j)).length = 32 * (ids.take j).length := catL_length fun x hx => HID.out x (List.mem_of_mem_take hx)
                have h6 : (⟨(108 :: catL (ids.take j)).toArray⟩ : ByteArray).size = 1 + (catL (ids.take j)).length := by simp [ByteArray.size]; omega
                rw [h6, h5, List.length_take]
                omega
              have hSf : ¬ (9223372036854775807 < S.size + xs.size) := by omega
              rw [← hS1]
              have HS2 := Lib.hid hS2
              clear hS1 hS2 hct hxs32 hSz hc hxs hjl
              go_wp2_with fail
              refine ⟨⟨j + 1, by simp, by omega, by rw [HS2.out], HK⟩, ?_⟩
              simp [intOf]
              omega
            · have k1 : decide ((j : Int) < ni) = false := decide_eq_false (by omega)
              have k2 : ¬ ((j : Int) < ni) := by omega
              obtain rfl : j = ni := by omega
              have hlk := sum_few (p := pp) H8.out
              rw [← HC.out.2.2.2.2.2] at hlk
              dsimp only at hlk
              rw [← HCI.out.1] at hlk
              have hkl : ids.take j = ids := by rw [HNN.out.1]; exact List.take_length
              rw [hkl]
              have hsz : (⟨(108 :: catL ids).toArray⟩ : ByteArray).size ≤ 140737488355328 := by
                have h5 : (catL ids).length = 32 * ids.length := catL_length HID.out
                have h6 : (⟨(108 :: catL ids).toArray⟩ : ByteArray).size = 1 + (catL ids).length := by simp [ByteArray.size]; omega
                rw [h6, h5, ← HNN.out.1]
                omega
              have SM := fun W => Sha.sum_any ⟨(108 :: catL ids).toArray⟩ W hsz
              have e0 : (⟨(108 :: catL ids).toArray⟩ : ByteArray).data.toList = 108 :: catL ids := by simp
              rw [e0] at SM
              have e1 : (⟨(Sha.sum (108 :: catL ids)).toArray⟩ : ByteArray) = sum := hlk.symm
              rw [e1] at SM
              obtain ⟨S, hS⟩ : ∃ S : ByteArray, S = ⟨(108 :: catL ids).toArray⟩ := ⟨_, rfl⟩
              rw [← hS] at SM ⊢
              have SM := Lib.hid SM
              clear e0 e1 hsz hkl hlk hS hj
              go_upto_region 35 with (fail)
              have c2 : ∀ X : LaterOf wr, X.w.cell? ⟨G, 2, none⟩ = some (.string sum) := fun X => (hBX.out X.w (HK.out.trans (X.h.mono HK.out.size))).2.2.1
              have c3 : ∀ X : LaterOf wr, X.w.cell? ⟨G, 3, none⟩ = some (.slice oi j ci) := fun X => (hBX.out X.w (HK.out.trans (X.h.mono HK.out.size))).2.2.2.1
              have SN := Lib.hid (fun X : LaterOf wr => LaterOf.call X (SM.out X.w))
              have z1 : (sum.toList == sum.toList) = true := by simp
              have z2 : ((j : Int) == (nb : Int)) = true := by rw [HCI.out.2]; simp
              clear x0 x1 x2 x3 x4 k1 k2
              refine wp_region_all (fun w' => ∃ z : LaterOf wr, w' = z.w) (by kernel_rfl) (by kernel_rfl) ⟨LaterOf.start wr, rfl⟩ ?_
              repeat (go_big_quiet_step (exact SN.out _))
              refine wpQuiet_nil ?_
              intro w12 hw12
              obtain ⟨X, rfl⟩ := hw12
              go_wp2_with fail
              go_ret
              exact ⟨rfl, HW8.out.trans ((HK.out.trans (X.h.mono HK.out.size)).mono HW8.out.size)⟩
      · have hkz : nk = 16 := by rw [HNN.out.2]; exact many_kids HSA.out.1 HPF.out.1 HC.out.2.2.2.2.2 (by rw [← HNB.out]; exact h8)
        subst hkz
        have hz8 : decide ((nb : Int) ≤ 8) = false := decide_eq_false (by omega)
        have hz9 : ¬ ((nb : Int) ≤ 8) := by omega
        go_wp2_with fail
        have hp64 : pp.size < 64 := many_short HSA.out.1 HPF.out.1 (by rw [← HNB.out]; exact h8)
        have H8 := Lib.hid (show ¬ (belowL a pp).length ≤ 8 by rw [← HNB.out]; exact h8)
        have HP64 := Lib.hid hp64
        clear x0 x1 x2 x3 x4 z1 hz8 hz9 h8 hp64 HK
        go_loopw [13, 14, 15] (fun s m c wr => ∃ j : Nat, c = .int .i64 (j : Int) ∧ j ≤ 16 ∧ s = .string ⟨(107 :: catL (kids.take j)).toArray⟩ ∧ m = .int .i64 (msum a pp j : Int) ∧ Hid (Below W8.heap.size W8 wr)) (fun _ _ c _ => ((16 : Int) - intOf c).toNat)
        case atStart => exact ⟨0, rfl, by omega, rfl, rfl, HKA⟩
        case round =>
          obtain ⟨j, rfl, hj, rfl, rfl, HK⟩ := hrel
          obtain ⟨x0, x1, x2, x3, x4⟩ := hBX.out wr HK.out
          rcases Nat.lt_or_ge j 16 with h3 | h3
          · have k1 : (j : Int) < 16 := by omega
            have kw : IntKind.i64.wrap ((j : Int) + 1) = ((j + 1 : Nat) : Int) := IntWalk.i64_in _ (by omega)
            have ku : IntKind.u8.wrap (j : Int) = (j : Int) := IntWalk.u8_in _ (by omega)
            have HJ := Lib.hid (And.intro k1 (And.intro kw h3))
            have hS := HSA.out.1
            obtain ⟨pd, hpd⟩ : ∃ q, q = ext pp j := ⟨_, rfl⟩
            obtain ⟨hlk1, hlk2⟩ := look_ext hS HPF.out.1 HP64.out h3
            have hkid := kid_at hS HP64.out H8.out h3
            have hms : msum a pp (j + 1) = msum a pp j + (belowL a (ext pp j)).length := rfl
            have hmle := msum_le (a := a) (p := pp) HP64.out (show j + 1 ≤ 16 by omega)
            have hmle2 := msum_le (a := a) (p := pp) HP64.out (show j ≤ 16 by omega)
            rw [← HC.out.2.2.2.2.2] at hkid
            dsimp only at hkid
            rw [← hpd] at hlk1 hlk2 hkid hms
            have hdp : (cellC (belowL a pd) pd).pre = pd := cellC_pre _ _
            have hdc : (cellC (belowL a pd) pd).cnt = ((belowL a pd).length : Int) := cellC_cnt _ _
            obtain ⟨mc, hmc⟩ : ∃ n, n = (belowL a pd).length := ⟨_, rfl⟩
            obtain ⟨xs, hxs⟩ : ∃ x, x = (cellC (belowL a pd) pd).sum := ⟨_, rfl⟩
            obtain ⟨dids, hdi⟩ : ∃ x, x = (cellC (belowL a pd) pd).ids := ⟨_, rfl⟩
            obtain ⟨dkids, hdk⟩ : ∃ x, x = (cellC (belowL a pd) pd).kids := ⟨_, rfl⟩
            rw [← hmc] at hms hdc
            rw [← hxs] at hkid
            have hxs32 : xs.size = 32 := by rw [hxs, cellC_sum]; exact cellS_size _ _ _
            have LK2 : ∀ W, Below wr.heap.size wr W → Calls Tryz.prog 10 #[.slice oa a.length ca, .string pd] W fun e W' => ∃ vi vk, e = .returned (.tuple #[.agg #[.string pd, .int .i64 (mc : Int), .string xs, vi, vk], .int .i64 0]) ∧ StrAt W' vi dids ∧ StrAt W' vk dkids ∧ Below W.heap.size W W' := fun W hb => by
              refine (look_any _ a pd W (SA8.out.later (HK.out.trans (hb.mono HK.out.size))) (by have := HSA.out.2; omega) (by rw [hpd, ext_size]; have := HP64.out; omega)).mono ?_
              rintro e W' ⟨v, rfl, ⟨vi, vk, hv, hi, hk⟩, hb'⟩
              rw [hlk1] at hv hi hk
              rw [hlk2]
              subst hv
              unfold aggC
              rw [hdp, hdc, ← hxs]
              rw [← hdi] at hi
              rw [← hdk] at hk
              exact ⟨vi, vk, rfl, hi, hk, hb'⟩
            have LK2 := Lib.hid LK2
            rw [← HNA.out] at LK2
            obtain ⟨ms, hms0⟩ : ∃ n, n = msum a pp j := ⟨_, rfl⟩
            rw [← hms0] at hms
            have mw : IntKind.i64.wrap ((ms : Int) + (mc : Int)) = ((ms + mc : Nat) : Int) := IntWalk.i64_in _ (by have := HSA.out.2; omega)
            rw [← hms0]
            have hct : catL (kids.take (j + 1)) = catL (kids.take j) ++ xs.data.toList := by rw [← hkid]; exact catL_take (by rw [← HNN.out.2]; exact h3)
            obtain ⟨S, hS1⟩ : ∃ S : ByteArray, S = ⟨(107 :: catL (kids.take j)).toArray⟩ := ⟨_, rfl⟩
            obtain ⟨S', hS2⟩ : ∃ S : ByteArray, S = ⟨(107 :: catL (kids.take (j + 1))).toArray⟩ := ⟨_, rfl⟩
            have hSS : S ++ xs = S' := by
              rw [hS1, hS2, hct]
              apply ByteArray.ext
              simp
            have hSz : S.size ≤ 1000000000 := by
              rw [hS1]
              have h5 : (catL (kids.take j)).length = 32 * (kids.take j).length := catL_length fun x hx => (many_sizes hS HPF.out.1 HC.out.2.2.2.2.2 H8.out) x (List.mem_of_mem_take hx)
              have h6 : (⟨(107 :: catL (kids.take j)).toArray⟩ : ByteArray).size = 1 + (catL (kids.take j)).length := by simp [ByteArray.size]; omega
              rw [h6, h5, List.length_take]
              omega
            have hSf : ¬ (9223372036854775807 < S.size + xs.size) := by omega
            rw [← hS1]
            have HR := Lib.hid (And.intro hS2 (And.intro hms (And.intro hkid (And.intro mw (And.intro hSS (And.intro hSf hpd))))))
            clear hS1 hS2 hms hms0 hkid mw hSS hSf hct hxs hxs32 hdi hdk hdp hdc hmc hlk1 hlk2 hmle hmle2 hSz hS
            go_upto_region 23 with (fail)
            obtain ⟨Z31, hZ31⟩ : ∃ Z : ByteArray, Z = ⟨(List.replicate 31 (0 : UInt8)).toArray⟩ := ⟨_, rfl⟩
            obtain ⟨I1, hI1⟩ : ∃ Z : ByteArray, Z = ⟨#[UInt8.ofNat j]⟩ := ⟨_, rfl⟩
            obtain ⟨Z32, hZ32⟩ : ∃ Z : ByteArray, Z = Z31 ++ I1 := ⟨_, rfl⟩
            obtain ⟨Hq, hHq⟩ : ∃ Z : ByteArray, Z = hexS Z32 := ⟨_, rfl⟩
            obtain ⟨Sd, hSd⟩ : ∃ Z : ByteArray, Z = ⟨#[sgn j]⟩ := ⟨_, rfl⟩
            have z1 : Z31.size = 31 := by rw [hZ31]; simp [ByteArray.size]
            have z2 : I1.size = 1 := by rw [hI1]; rfl
            have z3 : Z32.size = 32 := by rw [hZ32, ByteArray.size_append, z1, z2]
            have z4 : Hq.size = 64 := by rw [hHq]; simp [hexS, ByteArray.size, hexL_length]
            have z5 : Sd.size = 1 := by rw [hSd]; rfl
            have q1 : Hq.extract 63 64 = Sd := by rw [hHq, hZ32, hZ31, hI1, hSd]; exact sign_of (by simp) h3
            have q2 : pp ++ Sd = pd := by rw [HR.out.2.2.2.2.2.2, hSd]; rfl
            have q3 : ¬ (9223372036854775807 < Z31.size + I1.size) := by omega
            have q4 : ¬ (9223372036854775807 < pp.size + Sd.size) := by have := HP64.out; omega
            have q5 := hZ32.symm
            have q6 : pp.size ≤ 9223372036854775806 := by have := HP64.out; omega
            have q7 : ¬ (9223372036854775807 < pp.size + 1) := by have := HP64.out; omega
            have HX2 := Lib.hid (fun W => hex_any Z32 z3 W)
            rw [← hHq] at HX2
            have ZR31 := Lib.hid (fun W b hb => zeros_text W b 31 hb (by decide))
            rw [← hZ31] at ZR31
            have TX1 := Lib.hid (fun W b hb => byte_text W b j (by omega) hb)
            rw [← hI1] at TX1
            clear hZ31 hI1 hZ32 hHq hSd z3 k1 kw h3 x0 x1 x2 x3 x4 hpd
            refine wp_region_via (S := fun _ => True) 2 #[true, true, true, true, true, true, true, true, true, true, true, true, true, true, true, true, true, false, false] (fun A x y z u v => (((((((((((((((((A.put (some 91) (.slice oa k ca)).put (some 92) (.string pp)).put (some 95) (.int .i64 (j : Int))).put (some 96) (.int .u8 (j : Int))).put (some 93) (.slice (some ⟨x, 0, none⟩) 31 31)).put (some 94) (.string Z31)).put (some 97) (.slice (some ⟨y, 0, none⟩) 1 1)).put (some 98) (.string I1)).put (some 16) (.pointer (some ⟨z, 0, none⟩))).put (some 99) (.string Z32)).put (some 100) (.string Hq)).put (some 101) (.string Sd)).put (some 102) (.string pd)).put (some 103) (.tuple #[.agg #[.string pd, .int .i64 (mc : Int), .string xs, u, v], .int .i64 0])).put (some 90) (.tuple #[.agg #[.string pd, .int .i64 (mc : Int), .string xs, u, v], .int .i64 0])).put (some 104) (.agg #[.string pd, .int .i64 (mc : Int), .string xs, u, v])).put (some 105) (.int .i64 0))) (fun x y z u v W => Below wr.heap.size wr W ∧ wr.heap.size ≤ z ∧ BlkIs W z 25 #[.string ⟨#[]⟩, .int .i64 0, .string ⟨#[]⟩, .slice none 0 0, .slice none 0 0] ∧ StrAt W u dids ∧ StrAt W v dkids) ?_ (fun S2212 => ?_)
            · intro x y z u v W hC
              obtain ⟨hb, hzz, hz, hu, hv⟩ := hC
              have hHeld : True := trivial
              simp only [Act.put, List.setIfInBounds_toArray, List.set_cons_zero, List.set_cons_succ]
              obtain ⟨o5, c5, rfl, -, -, -⟩ := id hu
              obtain ⟨o6, c6, rfl, -, -, -⟩ := id hv
              have y0 := hz.cell 0
              have y1 := hz.cell 1
              have y2 := hz.cell 2
              have y3 := hz.cell 3
              have y4 := hz.cell 4
              have yf : ∀ i, W.frozen? ⟨z, i, none⟩ = false := fun i => hz.free i
              simp only [List.getElem?_toArray, List.getElem?_cons_zero, List.getElem?_cons_succ] at y0 y1 y2 y3 y4
              obtain ⟨W5, hW5⟩ : ∃ W5, W5 = (((((W.setCell ⟨z, 0, none⟩ (.string pd)).setCell ⟨z, 1, none⟩ (.int .i64 (mc : Int))).setCell ⟨z, 2, none⟩ (.string xs)).setCell ⟨z, 3, none⟩ (.slice o5 dids.length c5)).setCell ⟨z, 4, none⟩ (.slice o6 dkids.length c6)) := ⟨_, rfl⟩
              have K5 := Lib.hid (show BlkIs W5 z 25 #[.string pd, .int .i64 (mc : Int), .string xs, .slice o5 dids.length c5, .slice o6 dkids.length c6] by rw [hW5]; exact put5 hz ⟨_, _, _, _, _, rfl⟩ _ _ _ _ _)
              have B5 := Lib.hid (HK.out.trans ((show Below wr.heap.size wr W5 by rw [hW5]; exact put5_below hb hzz _ _ _ _ _).mono HK.out.size))
              have HW5 := Lib.hid hW5
              clear hW5
              refine wpAnyH_ready (rs := [17]) (by kernel_rfl) (by simp) ?_
              refine (AllReadyH.cons rfl (fun K hK => ?_) AllReadyH.nil)
              go_simp
              rw [← HW5.out]
              refine hK.out _ _ trivial (fun hHeld => ?_)
              clear hK K y0 y1 y2 y3 y4 yf HW5 hb hz hu hv hzz
              refine wpAnyH_take (i := 18) (v := .int .i64 0) rfl (by kernel_rfl) (by kernel_rfl) (by kernel_rfl) (fun _ _ _ h => h) (Or.inl ⟨by rfl, fun w hSw => ?_⟩) (by assumption) ?_
              · go_simp
              simp only [Act.put, List.setIfInBounds_toArray, List.set_cons_zero, List.set_cons_succ]
              refine wpAnyH_done (by kernel_rfl) ?_ _
              clear hHeld
              obtain ⟨bk, fk, hok, hlk, hck⟩ := strAt_at SK8.out (by rw [← HNN.out.2]; omega)
              subst hok
              have c0 := hck j (by rw [← HNN.out.2]; exact HJ.out.2.2)
              rw [← B5.out.cell hlk, HR.out.2.2.1] at c0
              obtain ⟨x0, x1, x2, x3, x4⟩ := hBX.out W5 B5.out
              have y1 : W5.cell? ⟨z, 1, none⟩ = some (.int .i64 (mc : Int)) := K5.out.cell 1
              have y2 : W5.cell? ⟨z, 2, none⟩ = some (.string xs) := K5.out.cell 2
              have k1 := HJ.out.1
              have kw := HJ.out.2.1
              have mw := HR.out.2.2.2.1
              have hSS := HR.out.2.2.2.2.1
              have hSf := HR.out.2.2.2.2.2.1
              have z1 : (xs.toList != xs.toList) = false := by simp
              have j0 : (0 : Int) ≤ (j : Int) := by omega
              have jw : IntKind.i64.wrap (j : Int) = (j : Int) := IntWalk.i64_in _ (by omega)
              go_upto_region 24 with (fail)
              go_quiet (fail)
              go_wp2_with fail
              refine ⟨⟨j + 1, by simp, by have := HJ.out.2.2; omega, by rw [HR.out.1], by rw [HR.out.2.1]; simp, Lib.hid (below_drewN B5.out nq)⟩, ?_⟩
              simp [intOf]
              omega
            simp only [Act.put, List.setIfInBounds_toArray, List.set_cons_zero, List.set_cons_succ] at S2212
            have S2212 := Lib.hid S2212
            refine wp_region_via (S := fun _ => True) 3 #[true, true, true, true, true, true, true, true, true, true, true, true, true, true, true, true, false, false, false] (fun A x y z u v => ((((((((((((((((A.put (some 91) (.slice oa k ca)).put (some 92) (.string pp)).put (some 95) (.int .i64 (j : Int))).put (some 96) (.int .u8 (j : Int))).put (some 93) (.slice (some ⟨x, 0, none⟩) 31 31)).put (some 94) (.string Z31)).put (some 97) (.slice (some ⟨y, 0, none⟩) 1 1)).put (some 98) (.string I1)).put (some 99) (.string Z32)).put (some 100) (.string Hq)).put (some 101) (.string Sd)).put (some 102) (.string pd)).put (some 103) (.tuple #[.agg #[.string pd, .int .i64 (mc : Int), .string xs, u, v], .int .i64 0])).put (some 90) (.tuple #[.agg #[.string pd, .int .i64 (mc : Int), .string xs, u, v], .int .i64 0])).put (some 104) (.agg #[.string pd, .int .i64 (mc : Int), .string xs, u, v])).put (some 105) (.int .i64 0))) (fun x y z u v W => Below wr.heap.size wr W ∧ StrAt W u dids ∧ StrAt W v dkids) ?_ (fun S2202 => ?_)
            · intro x y z u v W hC
              obtain ⟨hb, hu, hv⟩ := hC
              have hHeld : True := trivial
              simp only [Act.put, List.setIfInBounds_toArray, List.set_cons_zero, List.set_cons_succ]
              refine wpAnyH_ready (rs := [16]) (by kernel_rfl) (by simp) ?_
              refine (AllReadyH.cons rfl (fun K hK => ?_) AllReadyH.nil)
              · go_simp
                refine hK.out _ _ trivial (fun hHeld => ?_)
                exact wpAnyH_cast (by kernel_rfl) (by kernel_rfl) (S2212.out x y W.heap.size u v _ ⟨hb.alloc hb.size _, hb.size, BlkIs.new _ _ _, hu.later ((Below.refl _ _).alloc (Nat.le_refl _) _), hv.later ((Below.refl _ _).alloc (Nat.le_refl _) _)⟩)
            simp only [Act.put, List.setIfInBounds_toArray, List.set_cons_zero, List.set_cons_succ] at S2202
            have S2202 := Lib.hid S2202
            refine wp_region_via (S := fun _ => True) 6 #[true, true, true, true, true, true, true, true, true, true, true, true, false, false, false, false, true, false, false] (fun A x y z u v => (((((((((((((A.put (some 91) (.slice oa k ca)).put (some 92) (.string pp)).put (some 95) (.int .i64 (j : Int))).put (some 96) (.int .u8 (j : Int))).put (some 93) (.slice (some ⟨x, 0, none⟩) 31 31)).put (some 94) (.string Z31)).put (some 97) (.slice (some ⟨y, 0, none⟩) 1 1)).put (some 98) (.string I1)).put (some 16) (.pointer (some ⟨z, 0, none⟩))).put (some 99) (.string Z32)).put (some 100) (.string Hq)).put (some 101) (.string Sd)).put (some 102) (.string pd))) (fun x y z u v W => Below wr.heap.size wr W ∧ wr.heap.size ≤ z ∧ BlkIs W z 25 #[.string ⟨#[]⟩, .int .i64 0, .string ⟨#[]⟩, .slice none 0 0, .slice none 0 0]) ?_ (fun S2211 => ?_)
            · intro x y z u v W hC
              obtain ⟨hb, hzz, hz⟩ := hC
              have hHeld : True := trivial
              simp only [Act.put, List.setIfInBounds_toArray, List.set_cons_zero, List.set_cons_succ]
              refine wpAnyH_ready (rs := [12]) (by kernel_rfl) (by simp) ?_
              refine (AllReadyH.cons rfl (fun K hK => ?_) AllReadyH.nil)
              · go_simp
                go_wp2_with (
                  go_at_call 10
                  refine (LK2.out W hb).mono ?_
                  rintro e w6 ⟨u, v, rfl, hu, hv, hb1⟩)
                refine hK.out _ _ trivial (fun hHeld => ?_)
                clear hK K
                refine wpAnyH_take (i := 13) (v := .tuple #[.agg #[.string pd, .int .i64 (mc : Int), .string xs, u, v], .int .i64 0]) rfl (by kernel_rfl) (by kernel_rfl) (by kernel_rfl) (fun _ _ _ h => h) (Or.inl ⟨by rfl, fun w hSw => ?_⟩) (by assumption) ?_
                · go_simp
                simp only [Act.put, List.setIfInBounds_toArray, List.set_cons_zero, List.set_cons_succ]
                refine wpAnyH_take (i := 14) (v := .agg #[.string pd, .int .i64 (mc : Int), .string xs, u, v]) rfl (by kernel_rfl) (by kernel_rfl) (by kernel_rfl) (fun _ _ _ h => h) (Or.inl ⟨by rfl, fun w hSw => ?_⟩) (by assumption) ?_
                · go_simp
                simp only [Act.put, List.setIfInBounds_toArray, List.set_cons_zero, List.set_cons_succ]
                refine wpAnyH_take (i := 15) (v := .int .i64 0) rfl (by kernel_rfl) (by kernel_rfl) (by kernel_rfl) (fun _ _ _ h => h) (Or.inl ⟨by rfl, fun w hSw => ?_⟩) (by assumption) ?_
                · go_simp
                simp only [Act.put, List.setIfInBounds_toArray, List.set_cons_zero, List.set_cons_succ]
                exact wpAnyH_cast (by kernel_rfl) (by kernel_rfl) (S2212.out x y z u v _ ⟨hb.trans (hb1.mono hb.size), hzz, hz.below hb1 hz.lt, hu, hv⟩)
            simp only [Act.put, List.setIfInBounds_toArray, List.set_cons_zero, List.set_cons_succ] at S2211
            have S2211 := Lib.hid S2211
            refine wp_region_via (S := fun _ => True) 7 #[true, true, true, true, true, true, true, true, true, true, true, true, false, false, false, false, false, false, false] (fun A x y z u v => ((((((((((((A.put (some 91) (.slice oa k ca)).put (some 92) (.string pp)).put (some 95) (.int .i64 (j : Int))).put (some 96) (.int .u8 (j : Int))).put (some 93) (.slice (some ⟨x, 0, none⟩) 31 31)).put (some 94) (.string Z31)).put (some 97) (.slice (some ⟨y, 0, none⟩) 1 1)).put (some 98) (.string I1)).put (some 99) (.string Z32)).put (some 100) (.string Hq)).put (some 101) (.string Sd)).put (some 102) (.string pd))) (fun x y z u v W => Below wr.heap.size wr W) ?_ (fun S2201 => ?_)
            · intro x y z u v W hC
              have hb := hC
              have hHeld : True := trivial
              simp only [Act.put, List.setIfInBounds_toArray, List.set_cons_zero, List.set_cons_succ]
              refine wpAnyH_ready (rs := [12, 16]) (by kernel_rfl) (by simp) ?_
              refine (AllReadyH.cons rfl (fun K hK => ?_) (AllReadyH.cons rfl (fun K hK => ?_) AllReadyH.nil))
              · go_simp
                go_wp2_with (
                  go_at_call 10
                  refine (LK2.out W hb).mono ?_
                  rintro e w6 ⟨u, v, rfl, hu, hv, hb1⟩)
                refine hK.out _ _ trivial (fun hHeld => ?_)
                clear hK K
                refine wpAnyH_take (i := 13) (v := .tuple #[.agg #[.string pd, .int .i64 (mc : Int), .string xs, u, v], .int .i64 0]) rfl (by kernel_rfl) (by kernel_rfl) (by kernel_rfl) (fun _ _ _ h => h) (Or.inl ⟨by rfl, fun w hSw => ?_⟩) (by assumption) ?_
                · go_simp
                simp only [Act.put, List.setIfInBounds_toArray, List.set_cons_zero, List.set_cons_succ]
                refine wpAnyH_take (i := 14) (v := .agg #[.string pd, .int .i64 (mc : Int), .string xs, u, v]) rfl (by kernel_rfl) (by kernel_rfl) (by kernel_rfl) (fun _ _ _ h => h) (Or.inl ⟨by rfl, fun w hSw => ?_⟩) (by assumption) ?_
                · go_simp
                simp only [Act.put, List.setIfInBounds_toArray, List.set_cons_zero, List.set_cons_succ]
                refine wpAnyH_take (i := 15) (v := .int .i64 0) rfl (by kernel_rfl) (by kernel_rfl) (by kernel_rfl) (fun _ _ _ h => h) (Or.inl ⟨by rfl, fun w hSw => ?_⟩) (by assumption) ?_
                · go_simp
                simp only [Act.put, List.setIfInBounds_toArray, List.set_cons_zero, List.set_cons_succ]
                exact wpAnyH_cast (by kernel_rfl) (by kernel_rfl) (S2202.out x y z u v _ ⟨hb.trans (hb1.mono hb.size), hu, hv⟩)
              · go_simp
                refine hK.out _ _ trivial (fun hHeld => ?_)
                exact wpAnyH_cast (by kernel_rfl) (by kernel_rfl) (S2211.out x y W.heap.size u v _ ⟨hb.alloc hb.size _, hb.size, BlkIs.new _ _ _⟩)
            simp only [Act.put, List.setIfInBounds_toArray, List.set_cons_zero, List.set_cons_succ] at S2201
            have S2201 := Lib.hid S2201
            refine wp_region_via (S := fun _ => True) 9 #[true, true, true, true, true, true, true, true, true, false, false, false, false, false, false, false, true, false, false] (fun A x y z u v => ((((((((((A.put (some 91) (.slice oa k ca)).put (some 92) (.string pp)).put (some 95) (.int .i64 (j : Int))).put (some 96) (.int .u8 (j : Int))).put (some 93) (.slice (some ⟨x, 0, none⟩) 31 31)).put (some 94) (.string Z31)).put (some 97) (.slice (some ⟨y, 0, none⟩) 1 1)).put (some 98) (.string I1)).put (some 16) (.pointer (some ⟨z, 0, none⟩))).put (some 99) (.string Z32))) (fun x y z u v W => Below wr.heap.size wr W ∧ wr.heap.size ≤ z ∧ BlkIs W z 25 #[.string ⟨#[]⟩, .int .i64 0, .string ⟨#[]⟩, .slice none 0 0, .slice none 0 0]) ?_ (fun S2210 => ?_)
            · intro x y z u v W hC
              obtain ⟨hb, hzz, hz⟩ := hC
              have hHeld : True := trivial
              simp only [Act.put, List.setIfInBounds_toArray, List.set_cons_zero, List.set_cons_succ]
              refine wpAnyH_ready (rs := [9]) (by kernel_rfl) (by simp) ?_
              refine (AllReadyH.cons rfl (fun K hK => ?_) AllReadyH.nil)
              · go_simp
                go_wp2_with (
                  go_at_call 19
                  refine (HX2.out W).mono ?_
                  rintro e w6 ⟨rfl, hb1⟩)
                refine hK.out _ _ trivial (fun hHeld => ?_)
                clear hK K
                refine wpAnyH_take (i := 10) (v := .string Sd) rfl (by kernel_rfl) (by kernel_rfl) (by kernel_rfl) (fun _ _ _ h => h) (Or.inl ⟨by rfl, fun w hSw => ?_⟩) (by assumption) ?_
                · go_simp
                simp only [Act.put, List.setIfInBounds_toArray, List.set_cons_zero, List.set_cons_succ]
                refine wpAnyH_take (i := 11) (v := .string pd) rfl (by kernel_rfl) (by kernel_rfl) (by kernel_rfl) (fun _ _ _ h => h) (Or.inl ⟨by rfl, fun w hSw => ?_⟩) (by assumption) ?_
                · go_simp
                simp only [Act.put, List.setIfInBounds_toArray, List.set_cons_zero, List.set_cons_succ]
                exact wpAnyH_cast (by kernel_rfl) (by kernel_rfl) (S2211.out x y z u v _ ⟨hb.trans (hb1.mono hb.size), hzz, hz.below hb1 hz.lt⟩)
            simp only [Act.put, List.setIfInBounds_toArray, List.set_cons_zero, List.set_cons_succ] at S2210
            have S2210 := Lib.hid S2210
            refine wp_region_via (S := fun _ => True) 10 #[true, true, true, true, true, true, true, true, true, false, false, false, false, false, false, false, false, false, false] (fun A x y z u v => (((((((((A.put (some 91) (.slice oa k ca)).put (some 92) (.string pp)).put (some 95) (.int .i64 (j : Int))).put (some 96) (.int .u8 (j : Int))).put (some 93) (.slice (some ⟨x, 0, none⟩) 31 31)).put (some 94) (.string Z31)).put (some 97) (.slice (some ⟨y, 0, none⟩) 1 1)).put (some 98) (.string I1)).put (some 99) (.string Z32))) (fun x y z u v W => Below wr.heap.size wr W) ?_ (fun S2200 => ?_)
            · intro x y z u v W hC
              have hb := hC
              have hHeld : True := trivial
              simp only [Act.put, List.setIfInBounds_toArray, List.set_cons_zero, List.set_cons_succ]
              refine wpAnyH_ready (rs := [9, 16]) (by kernel_rfl) (by simp) ?_
              refine (AllReadyH.cons rfl (fun K hK => ?_) (AllReadyH.cons rfl (fun K hK => ?_) AllReadyH.nil))
              · go_simp
                go_wp2_with (
                  go_at_call 19
                  refine (HX2.out W).mono ?_
                  rintro e w6 ⟨rfl, hb1⟩)
                refine hK.out _ _ trivial (fun hHeld => ?_)
                clear hK K
                refine wpAnyH_take (i := 10) (v := .string Sd) rfl (by kernel_rfl) (by kernel_rfl) (by kernel_rfl) (fun _ _ _ h => h) (Or.inl ⟨by rfl, fun w hSw => ?_⟩) (by assumption) ?_
                · go_simp
                simp only [Act.put, List.setIfInBounds_toArray, List.set_cons_zero, List.set_cons_succ]
                refine wpAnyH_take (i := 11) (v := .string pd) rfl (by kernel_rfl) (by kernel_rfl) (by kernel_rfl) (fun _ _ _ h => h) (Or.inl ⟨by rfl, fun w hSw => ?_⟩) (by assumption) ?_
                · go_simp
                simp only [Act.put, List.setIfInBounds_toArray, List.set_cons_zero, List.set_cons_succ]
                exact wpAnyH_cast (by kernel_rfl) (by kernel_rfl) (S2201.out x y z u v _ (hb.trans (hb1.mono hb.size)))
              · go_simp
                refine hK.out _ _ trivial (fun hHeld => ?_)
                exact wpAnyH_cast (by kernel_rfl) (by kernel_rfl) (S2210.out x y W.heap.size u v _ ⟨hb.alloc hb.size _, hb.size, BlkIs.new _ _ _⟩)
            simp only [Act.put, List.setIfInBounds_toArray, List.set_cons_zero, List.set_cons_succ] at S2200
            have S2200 := Lib.hid S2200
            refine wp_region_via (S := fun _ => True) 11 #[true, true, true, false, true, true, true, true, false, false, false, false, false, false, false, false, true, false, false] (fun A x y z u v => ((((((((A.put (some 91) (.slice oa k ca)).put (some 92) (.string pp)).put (some 95) (.int .i64 (j : Int))).put (some 96) (.int .u8 (j : Int))).put (some 93) (.slice (some ⟨x, 0, none⟩) 31 31)).put (some 97) (.slice (some ⟨y, 0, none⟩) 1 1)).put (some 98) (.string I1)).put (some 16) (.pointer (some ⟨z, 0, none⟩)))) (fun x y z u v W => Below wr.heap.size wr W ∧ BlkIs W x 5 (Array.replicate 31 (.int .u8 0)) ∧ wr.heap.size ≤ z ∧ BlkIs W z 25 #[.string ⟨#[]⟩, .int .i64 0, .string ⟨#[]⟩, .slice none 0 0, .slice none 0 0]) ?_ (fun S1210 => ?_)
            · intro x y z u v W hC
              obtain ⟨hb, hx, hzz, hz⟩ := hC
              have hHeld : True := trivial
              simp only [Act.put, List.setIfInBounds_toArray, List.set_cons_zero, List.set_cons_succ]
              refine wpAnyH_ready (rs := [3]) (by kernel_rfl) (by simp) ?_
              refine (AllReadyH.cons rfl (fun K hK => ?_) AllReadyH.nil)
              · have CV := ZR31.out W x hx
                go_simp
                refine hK.out _ _ trivial (fun hHeld => ?_)
                clear hK K
                refine wpAnyH_take (i := 8) (v := .string Z32) rfl (by kernel_rfl) (by kernel_rfl) (by kernel_rfl) (fun _ _ _ h => h) (Or.inl ⟨by rfl, fun w hSw => ?_⟩) (by assumption) ?_
                · go_simp
                simp only [Act.put, List.setIfInBounds_toArray, List.set_cons_zero, List.set_cons_succ]
                exact wpAnyH_cast (by kernel_rfl) (by kernel_rfl) (S2210.out x y z u v _ ⟨hb, hzz, hz.below (Below.refl _ _) hz.lt⟩)
            simp only [Act.put, List.setIfInBounds_toArray, List.set_cons_zero, List.set_cons_succ] at S1210
            have S1210 := Lib.hid S1210
            refine wp_region_via (S := fun _ => True) 12 #[true, true, true, false, true, true, true, true, false, false, false, false, false, false, false, false, false, false, false] (fun A x y z u v => (((((((A.put (some 91) (.slice oa k ca)).put (some 92) (.string pp)).put (some 95) (.int .i64 (j : Int))).put (some 96) (.int .u8 (j : Int))).put (some 93) (.slice (some ⟨x, 0, none⟩) 31 31)).put (some 97) (.slice (some ⟨y, 0, none⟩) 1 1)).put (some 98) (.string I1))) (fun x y z u v W => Below wr.heap.size wr W ∧ BlkIs W x 5 (Array.replicate 31 (.int .u8 0))) ?_ (fun S1200 => ?_)
            · intro x y z u v W hC
              obtain ⟨hb, hx⟩ := hC
              have hHeld : True := trivial
              simp only [Act.put, List.setIfInBounds_toArray, List.set_cons_zero, List.set_cons_succ]
              refine wpAnyH_ready (rs := [3, 16]) (by kernel_rfl) (by simp) ?_
              refine (AllReadyH.cons rfl (fun K hK => ?_) (AllReadyH.cons rfl (fun K hK => ?_) AllReadyH.nil))
              · have CV := ZR31.out W x hx
                go_simp
                refine hK.out _ _ trivial (fun hHeld => ?_)
                clear hK K
                refine wpAnyH_take (i := 8) (v := .string Z32) rfl (by kernel_rfl) (by kernel_rfl) (by kernel_rfl) (fun _ _ _ h => h) (Or.inl ⟨by rfl, fun w hSw => ?_⟩) (by assumption) ?_
                · go_simp
                simp only [Act.put, List.setIfInBounds_toArray, List.set_cons_zero, List.set_cons_succ]
                exact wpAnyH_cast (by kernel_rfl) (by kernel_rfl) (S2200.out x y z u v _ (hb))
              · go_simp
                refine hK.out _ _ trivial (fun hHeld => ?_)
                exact wpAnyH_cast (by kernel_rfl) (by kernel_rfl) (S1210.out x y W.heap.size u v _ ⟨hb.alloc hb.size _, hx.below ((Below.refl _ _).alloc (Nat.le_refl _) _) hx.lt, hb.size, BlkIs.new _ _ _⟩)
            simp only [Act.put, List.setIfInBounds_toArray, List.set_cons_zero, List.set_cons_succ] at S1200
            have S1200 := Lib.hid S1200
            refine wp_region_via (S := fun _ => True) 11 #[true, true, true, true, true, true, true, false, false, false, false, false, false, false, false, false, true, false, false] (fun A x y z u v => ((((((((A.put (some 91) (.slice oa k ca)).put (some 92) (.string pp)).put (some 95) (.int .i64 (j : Int))).put (some 96) (.int .u8 (j : Int))).put (some 93) (.slice (some ⟨x, 0, none⟩) 31 31)).put (some 94) (.string Z31)).put (some 97) (.slice (some ⟨y, 0, none⟩) 1 1)).put (some 16) (.pointer (some ⟨z, 0, none⟩)))) (fun x y z u v W => Below wr.heap.size wr W ∧ BlkIs W y 5 #[.int .u8 (j : Int)] ∧ wr.heap.size ≤ z ∧ BlkIs W z 25 #[.string ⟨#[]⟩, .int .i64 0, .string ⟨#[]⟩, .slice none 0 0, .slice none 0 0]) ?_ (fun S2110 => ?_)
            · intro x y z u v W hC
              obtain ⟨hb, hy, hzz, hz⟩ := hC
              have hHeld : True := trivial
              simp only [Act.put, List.setIfInBounds_toArray, List.set_cons_zero, List.set_cons_succ]
              refine wpAnyH_ready (rs := [7]) (by kernel_rfl) (by simp) ?_
              refine (AllReadyH.cons rfl (fun K hK => ?_) AllReadyH.nil)
              · have CV := TX1.out W y hy
                go_simp
                refine hK.out _ _ trivial (fun hHeld => ?_)
                clear hK K
                refine wpAnyH_take (i := 8) (v := .string Z32) rfl (by kernel_rfl) (by kernel_rfl) (by kernel_rfl) (fun _ _ _ h => h) (Or.inl ⟨by rfl, fun w hSw => ?_⟩) (by assumption) ?_
                · go_simp
                simp only [Act.put, List.setIfInBounds_toArray, List.set_cons_zero, List.set_cons_succ]
                exact wpAnyH_cast (by kernel_rfl) (by kernel_rfl) (S2210.out x y z u v _ ⟨hb, hzz, hz.below (Below.refl _ _) hz.lt⟩)
            simp only [Act.put, List.setIfInBounds_toArray, List.set_cons_zero, List.set_cons_succ] at S2110
            have S2110 := Lib.hid S2110
            refine wp_region_via (S := fun _ => True) 12 #[true, true, true, true, true, true, true, false, false, false, false, false, false, false, false, false, false, false, false] (fun A x y z u v => (((((((A.put (some 91) (.slice oa k ca)).put (some 92) (.string pp)).put (some 95) (.int .i64 (j : Int))).put (some 96) (.int .u8 (j : Int))).put (some 93) (.slice (some ⟨x, 0, none⟩) 31 31)).put (some 94) (.string Z31)).put (some 97) (.slice (some ⟨y, 0, none⟩) 1 1))) (fun x y z u v W => Below wr.heap.size wr W ∧ BlkIs W y 5 #[.int .u8 (j : Int)]) ?_ (fun S2100 => ?_)
            · intro x y z u v W hC
              obtain ⟨hb, hy⟩ := hC
              have hHeld : True := trivial
              simp only [Act.put, List.setIfInBounds_toArray, List.set_cons_zero, List.set_cons_succ]
              refine wpAnyH_ready (rs := [7, 16]) (by kernel_rfl) (by simp) ?_
              refine (AllReadyH.cons rfl (fun K hK => ?_) (AllReadyH.cons rfl (fun K hK => ?_) AllReadyH.nil))
              · have CV := TX1.out W y hy
                go_simp
                refine hK.out _ _ trivial (fun hHeld => ?_)
                clear hK K
                refine wpAnyH_take (i := 8) (v := .string Z32) rfl (by kernel_rfl) (by kernel_rfl) (by kernel_rfl) (fun _ _ _ h => h) (Or.inl ⟨by rfl, fun w hSw => ?_⟩) (by assumption) ?_
                · go_simp
                simp only [Act.put, List.setIfInBounds_toArray, List.set_cons_zero, List.set_cons_succ]
                exact wpAnyH_cast (by kernel_rfl) (by kernel_rfl) (S2200.out x y z u v _ (hb))
              · go_simp
                refine hK.out _ _ trivial (fun hHeld => ?_)
                exact wpAnyH_cast (by kernel_rfl) (by kernel_rfl) (S2110.out x y W.heap.size u v _ ⟨hb.alloc hb.size _, hy.below ((Below.refl _ _).alloc (Nat.le_refl _) _) hy.lt, hb.size, BlkIs.new _ _ _⟩)
            simp only [Act.put, List.setIfInBounds_toArray, List.set_cons_zero, List.set_cons_succ] at S2100
            have S2100 := Lib.hid S2100
            refine wp_region_via (S := fun _ => True) 12 #[true, true, false, false, true, true, true, true, false, false, false, false, false, false, false, false, true, false, false] (fun A x y z u v => (((((((A.put (some 91) (.slice oa k ca)).put (some 92) (.string pp)).put (some 95) (.int .i64 (j : Int))).put (some 96) (.int .u8 (j : Int))).put (some 97) (.slice (some ⟨y, 0, none⟩) 1 1)).put (some 98) (.string I1)).put (some 16) (.pointer (some ⟨z, 0, none⟩)))) (fun x y z u v W => Below wr.heap.size wr W ∧ wr.heap.size ≤ z ∧ BlkIs W z 25 #[.string ⟨#[]⟩, .int .i64 0, .string ⟨#[]⟩, .slice none 0 0, .slice none 0 0]) ?_ (fun S0210 => ?_)
            · intro x y z u v W hC
              obtain ⟨hb, hzz, hz⟩ := hC
              have hHeld : True := trivial
              simp only [Act.put, List.setIfInBounds_toArray, List.set_cons_zero, List.set_cons_succ]
              refine wpAnyH_ready (rs := [2]) (by kernel_rfl) (by simp) ?_
              refine (AllReadyH.cons rfl (fun K hK => ?_) AllReadyH.nil)
              · have MK := mk_31
                go_simp
                refine hK.out _ _ trivial (fun hHeld => ?_)
                exact wpAnyH_cast (by kernel_rfl) (by kernel_rfl) (S1210.out W.heap.size y z u v _ ⟨hb.alloc hb.size _, BlkIs.new _ _ _, hzz, hz.below ((Below.refl _ _).alloc (Nat.le_refl _) _) hz.lt⟩)
            simp only [Act.put, List.setIfInBounds_toArray, List.set_cons_zero, List.set_cons_succ] at S0210
            have S0210 := Lib.hid S0210
            refine wp_region_via (S := fun _ => True) 13 #[true, true, false, false, true, true, true, true, false, false, false, false, false, false, false, false, false, false, false] (fun A x y z u v => ((((((A.put (some 91) (.slice oa k ca)).put (some 92) (.string pp)).put (some 95) (.int .i64 (j : Int))).put (some 96) (.int .u8 (j : Int))).put (some 97) (.slice (some ⟨y, 0, none⟩) 1 1)).put (some 98) (.string I1))) (fun x y z u v W => Below wr.heap.size wr W) ?_ (fun S0200 => ?_)
            · intro x y z u v W hC
              have hb := hC
              have hHeld : True := trivial
              simp only [Act.put, List.setIfInBounds_toArray, List.set_cons_zero, List.set_cons_succ]
              refine wpAnyH_ready (rs := [2, 16]) (by kernel_rfl) (by simp) ?_
              refine (AllReadyH.cons rfl (fun K hK => ?_) (AllReadyH.cons rfl (fun K hK => ?_) AllReadyH.nil))
              · have MK := mk_31
                go_simp
                refine hK.out _ _ trivial (fun hHeld => ?_)
                exact wpAnyH_cast (by kernel_rfl) (by kernel_rfl) (S1200.out W.heap.size y z u v _ ⟨hb.alloc hb.size _, BlkIs.new _ _ _⟩)
              · go_simp
                refine hK.out _ _ trivial (fun hHeld => ?_)
                exact wpAnyH_cast (by kernel_rfl) (by kernel_rfl) (S0210.out x y W.heap.size u v _ ⟨hb.alloc hb.size _, hb.size, BlkIs.new _ _ _⟩)
            simp only [Act.put, List.setIfInBounds_toArray, List.set_cons_zero, List.set_cons_succ] at S0200
            have S0200 := Lib.hid S0200
            refine wp_region_via (S := fun _ => True) 12 #[true, true, true, false, true, true, true, false, false, false, false, false, false, false, false, false, true, false, false] (fun A x y z u v => (((((((A.put (some 91) (.slice oa k ca)).put (some 92) (.string pp)).put (some 95) (.int .i64 (j : Int))).put (some 96) (.int .u8 (j : Int))).put (some 93) (.slice (some ⟨x, 0, none⟩) 31 31)).put (some 97) (.slice (some ⟨y, 0, none⟩) 1 1)).put (some 16) (.pointer (some ⟨z, 0, none⟩)))) (fun x y z u v W => Below wr.heap.size wr W ∧ BlkIs W x 5 (Array.replicate 31 (.int .u8 0)) ∧ BlkIs W y 5 #[.int .u8 (j : Int)] ∧ wr.heap.size ≤ z ∧ BlkIs W z 25 #[.string ⟨#[]⟩, .int .i64 0, .string ⟨#[]⟩, .slice none 0 0, .slice none 0 0]) ?_ (fun S1110 => ?_)
            · intro x y z u v W hC
              obtain ⟨hb, hx, hy, hzz, hz⟩ := hC
              have hHeld : True := trivial
              simp only [Act.put, List.setIfInBounds_toArray, List.set_cons_zero, List.set_cons_succ]
              refine wpAnyH_ready (rs := [3, 7]) (by kernel_rfl) (by simp) ?_
              refine (AllReadyH.cons rfl (fun K hK => ?_) (AllReadyH.cons rfl (fun K hK => ?_) AllReadyH.nil))
              · have CV := ZR31.out W x hx
                go_simp
                refine hK.out _ _ trivial (fun hHeld => ?_)
                exact wpAnyH_cast (by kernel_rfl) (by kernel_rfl) (S2110.out x y z u v _ ⟨hb, hy.below (Below.refl _ _) hy.lt, hzz, hz.below (Below.refl _ _) hz.lt⟩)
              · have CV := TX1.out W y hy
                go_simp
                refine hK.out _ _ trivial (fun hHeld => ?_)
                exact wpAnyH_cast (by kernel_rfl) (by kernel_rfl) (S1210.out x y z u v _ ⟨hb, hx.below (Below.refl _ _) hx.lt, hzz, hz.below (Below.refl _ _) hz.lt⟩)
            simp only [Act.put, List.setIfInBounds_toArray, List.set_cons_zero, List.set_cons_succ] at S1110
            have S1110 := Lib.hid S1110
            refine wp_region_via (S := fun _ => True) 13 #[true, true, true, false, true, true, true, false, false, false, false, false, false, false, false, false, false, false, false] (fun A x y z u v => ((((((A.put (some 91) (.slice oa k ca)).put (some 92) (.string pp)).put (some 95) (.int .i64 (j : Int))).put (some 96) (.int .u8 (j : Int))).put (some 93) (.slice (some ⟨x, 0, none⟩) 31 31)).put (some 97) (.slice (some ⟨y, 0, none⟩) 1 1))) (fun x y z u v W => Below wr.heap.size wr W ∧ BlkIs W x 5 (Array.replicate 31 (.int .u8 0)) ∧ BlkIs W y 5 #[.int .u8 (j : Int)]) ?_ (fun S1100 => ?_)
            · intro x y z u v W hC
              obtain ⟨hb, hx, hy⟩ := hC
              have hHeld : True := trivial
              simp only [Act.put, List.setIfInBounds_toArray, List.set_cons_zero, List.set_cons_succ]
              refine wpAnyH_ready (rs := [3, 7, 16]) (by kernel_rfl) (by simp) ?_
              refine (AllReadyH.cons rfl (fun K hK => ?_) (AllReadyH.cons rfl (fun K hK => ?_) (AllReadyH.cons rfl (fun K hK => ?_) AllReadyH.nil)))
              · have CV := ZR31.out W x hx
                go_simp
                refine hK.out _ _ trivial (fun hHeld => ?_)
                exact wpAnyH_cast (by kernel_rfl) (by kernel_rfl) (S2100.out x y z u v _ ⟨hb, hy.below (Below.refl _ _) hy.lt⟩)
              · have CV := TX1.out W y hy
                go_simp
                refine hK.out _ _ trivial (fun hHeld => ?_)
                exact wpAnyH_cast (by kernel_rfl) (by kernel_rfl) (S1200.out x y z u v _ ⟨hb, hx.below (Below.refl _ _) hx.lt⟩)
              · go_simp
                refine hK.out _ _ trivial (fun hHeld => ?_)
                exact wpAnyH_cast (by kernel_rfl) (by kernel_rfl) (S1110.out x y W.heap.size u v _ ⟨hb.alloc hb.size _, hx.below ((Below.refl _ _).alloc (Nat.le_refl _) _) hx.lt, hy.below ((Below.refl _ _).alloc (Nat.le_refl _) _) hy.lt, hb.size, BlkIs.new _ _ _⟩)
            simp only [Act.put, List.setIfInBounds_toArray, List.set_cons_zero, List.set_cons_succ] at S1100
            have S1100 := Lib.hid S1100
            refine wp_region_via (S := fun _ => True) 12 #[true, true, true, true, true, true, false, false, false, false, false, false, false, false, false, false, true, false, false] (fun A x y z u v => (((((((A.put (some 91) (.slice oa k ca)).put (some 92) (.string pp)).put (some 95) (.int .i64 (j : Int))).put (some 96) (.int .u8 (j : Int))).put (some 93) (.slice (some ⟨x, 0, none⟩) 31 31)).put (some 94) (.string Z31)).put (some 16) (.pointer (some ⟨z, 0, none⟩)))) (fun x y z u v W => Below wr.heap.size wr W ∧ wr.heap.size ≤ z ∧ BlkIs W z 25 #[.string ⟨#[]⟩, .int .i64 0, .string ⟨#[]⟩, .slice none 0 0, .slice none 0 0]) ?_ (fun S2010 => ?_)
            · intro x y z u v W hC
              obtain ⟨hb, hzz, hz⟩ := hC
              have hHeld : True := trivial
              simp only [Act.put, List.setIfInBounds_toArray, List.set_cons_zero, List.set_cons_succ]
              refine wpAnyH_ready (rs := [6]) (by kernel_rfl) (by simp) ?_
              refine (AllReadyH.cons rfl (fun K hK => ?_) AllReadyH.nil)
              · go_simp
                refine hK.out _ _ trivial (fun hHeld => ?_)
                exact wpAnyH_cast (by kernel_rfl) (by kernel_rfl) (S2110.out x W.heap.size z u v _ ⟨hb.alloc hb.size _, BlkIs.new _ _ _, hzz, hz.below ((Below.refl _ _).alloc (Nat.le_refl _) _) hz.lt⟩)
            simp only [Act.put, List.setIfInBounds_toArray, List.set_cons_zero, List.set_cons_succ] at S2010
            have S2010 := Lib.hid S2010
            refine wp_region_via (S := fun _ => True) 13 #[true, true, true, true, true, true, false, false, false, false, false, false, false, false, false, false, false, false, false] (fun A x y z u v => ((((((A.put (some 91) (.slice oa k ca)).put (some 92) (.string pp)).put (some 95) (.int .i64 (j : Int))).put (some 96) (.int .u8 (j : Int))).put (some 93) (.slice (some ⟨x, 0, none⟩) 31 31)).put (some 94) (.string Z31))) (fun x y z u v W => Below wr.heap.size wr W) ?_ (fun S2000 => ?_)
            · intro x y z u v W hC
              have hb := hC
              have hHeld : True := trivial
              simp only [Act.put, List.setIfInBounds_toArray, List.set_cons_zero, List.set_cons_succ]
              refine wpAnyH_ready (rs := [6, 16]) (by kernel_rfl) (by simp) ?_
              refine (AllReadyH.cons rfl (fun K hK => ?_) (AllReadyH.cons rfl (fun K hK => ?_) AllReadyH.nil))
              · go_simp
                refine hK.out _ _ trivial (fun hHeld => ?_)
                exact wpAnyH_cast (by kernel_rfl) (by kernel_rfl) (S2100.out x W.heap.size z u v _ ⟨hb.alloc hb.size _, BlkIs.new _ _ _⟩)
              · go_simp
                refine hK.out _ _ trivial (fun hHeld => ?_)
                exact wpAnyH_cast (by kernel_rfl) (by kernel_rfl) (S2010.out x y W.heap.size u v _ ⟨hb.alloc hb.size _, hb.size, BlkIs.new _ _ _⟩)
            simp only [Act.put, List.setIfInBounds_toArray, List.set_cons_zero, List.set_cons_succ] at S2000
            have S2000 := Lib.hid S2000
            refine wp_region_via (S := fun _ => True) 13 #[true, true, false, false, true, true, true, false, false, false, false, false, false, false, false, false, true, false, false] (fun A x y z u v => ((((((A.put (some 91) (.slice oa k ca)).put (some 92) (.string pp)).put (some 95) (.int .i64 (j : Int))).put (some 96) (.int .u8 (j : Int))).put (some 97) (.slice (some ⟨y, 0, none⟩) 1 1)).put (some 16) (.pointer (some ⟨z, 0, none⟩)))) (fun x y z u v W => Below wr.heap.size wr W ∧ BlkIs W y 5 #[.int .u8 (j : Int)] ∧ wr.heap.size ≤ z ∧ BlkIs W z 25 #[.string ⟨#[]⟩, .int .i64 0, .string ⟨#[]⟩, .slice none 0 0, .slice none 0 0]) ?_ (fun S0110 => ?_)
            · intro x y z u v W hC
              obtain ⟨hb, hy, hzz, hz⟩ := hC
              have hHeld : True := trivial
              simp only [Act.put, List.setIfInBounds_toArray, List.set_cons_zero, List.set_cons_succ]
              refine wpAnyH_ready (rs := [2, 7]) (by kernel_rfl) (by simp) ?_
              refine (AllReadyH.cons rfl (fun K hK => ?_) (AllReadyH.cons rfl (fun K hK => ?_) AllReadyH.nil))
              · have MK := mk_31
                go_simp
                refine hK.out _ _ trivial (fun hHeld => ?_)
                exact wpAnyH_cast (by kernel_rfl) (by kernel_rfl) (S1110.out W.heap.size y z u v _ ⟨hb.alloc hb.size _, BlkIs.new _ _ _, hy.below ((Below.refl _ _).alloc (Nat.le_refl _) _) hy.lt, hzz, hz.below ((Below.refl _ _).alloc (Nat.le_refl _) _) hz.lt⟩)
              · have CV := TX1.out W y hy
                go_simp
                refine hK.out _ _ trivial (fun hHeld => ?_)
                exact wpAnyH_cast (by kernel_rfl) (by kernel_rfl) (S0210.out x y z u v _ ⟨hb, hzz, hz.below (Below.refl _ _) hz.lt⟩)
            simp only [Act.put, List.setIfInBounds_toArray, List.set_cons_zero, List.set_cons_succ] at S0110
            have S0110 := Lib.hid S0110
            refine wp_region_via (S := fun _ => True) 14 #[true, true, false, false, true, true, true, false, false, false, false, false, false, false, false, false, false, false, false] (fun A x y z u v => (((((A.put (some 91) (.slice oa k ca)).put (some 92) (.string pp)).put (some 95) (.int .i64 (j : Int))).put (some 96) (.int .u8 (j : Int))).put (some 97) (.slice (some ⟨y, 0, none⟩) 1 1))) (fun x y z u v W => Below wr.heap.size wr W ∧ BlkIs W y 5 #[.int .u8 (j : Int)]) ?_ (fun S0100 => ?_)
            · intro x y z u v W hC
              obtain ⟨hb, hy⟩ := hC
              have hHeld : True := trivial
              simp only [Act.put, List.setIfInBounds_toArray, List.set_cons_zero, List.set_cons_succ]
              refine wpAnyH_ready (rs := [2, 7, 16]) (by kernel_rfl) (by simp) ?_
              refine (AllReadyH.cons rfl (fun K hK => ?_) (AllReadyH.cons rfl (fun K hK => ?_) (AllReadyH.cons rfl (fun K hK => ?_) AllReadyH.nil)))
              · have MK := mk_31
                go_simp
                refine hK.out _ _ trivial (fun hHeld => ?_)
                exact wpAnyH_cast (by kernel_rfl) (by kernel_rfl) (S1100.out W.heap.size y z u v _ ⟨hb.alloc hb.size _, BlkIs.new _ _ _, hy.below ((Below.refl _ _).alloc (Nat.le_refl _) _) hy.lt⟩)
              · have CV := TX1.out W y hy
                go_simp
                refine hK.out _ _ trivial (fun hHeld => ?_)
                exact wpAnyH_cast (by kernel_rfl) (by kernel_rfl) (S0200.out x y z u v _ (hb))
              · go_simp
                refine hK.out _ _ trivial (fun hHeld => ?_)
                exact wpAnyH_cast (by kernel_rfl) (by kernel_rfl) (S0110.out x y W.heap.size u v _ ⟨hb.alloc hb.size _, hy.below ((Below.refl _ _).alloc (Nat.le_refl _) _) hy.lt, hb.size, BlkIs.new _ _ _⟩)
            simp only [Act.put, List.setIfInBounds_toArray, List.set_cons_zero, List.set_cons_succ] at S0100
            have S0100 := Lib.hid S0100
            refine wp_region_via (S := fun _ => True) 13 #[true, true, true, false, true, true, false, false, false, false, false, false, false, false, false, false, true, false, false] (fun A x y z u v => ((((((A.put (some 91) (.slice oa k ca)).put (some 92) (.string pp)).put (some 95) (.int .i64 (j : Int))).put (some 96) (.int .u8 (j : Int))).put (some 93) (.slice (some ⟨x, 0, none⟩) 31 31)).put (some 16) (.pointer (some ⟨z, 0, none⟩)))) (fun x y z u v W => Below wr.heap.size wr W ∧ BlkIs W x 5 (Array.replicate 31 (.int .u8 0)) ∧ wr.heap.size ≤ z ∧ BlkIs W z 25 #[.string ⟨#[]⟩, .int .i64 0, .string ⟨#[]⟩, .slice none 0 0, .slice none 0 0]) ?_ (fun S1010 => ?_)
            · intro x y z u v W hC
              obtain ⟨hb, hx, hzz, hz⟩ := hC
              have hHeld : True := trivial
              simp only [Act.put, List.setIfInBounds_toArray, List.set_cons_zero, List.set_cons_succ]
              refine wpAnyH_ready (rs := [3, 6]) (by kernel_rfl) (by simp) ?_
              refine (AllReadyH.cons rfl (fun K hK => ?_) (AllReadyH.cons rfl (fun K hK => ?_) AllReadyH.nil))
              · have CV := ZR31.out W x hx
                go_simp
                refine hK.out _ _ trivial (fun hHeld => ?_)
                exact wpAnyH_cast (by kernel_rfl) (by kernel_rfl) (S2010.out x y z u v _ ⟨hb, hzz, hz.below (Below.refl _ _) hz.lt⟩)
              · go_simp
                refine hK.out _ _ trivial (fun hHeld => ?_)
                exact wpAnyH_cast (by kernel_rfl) (by kernel_rfl) (S1110.out x W.heap.size z u v _ ⟨hb.alloc hb.size _, hx.below ((Below.refl _ _).alloc (Nat.le_refl _) _) hx.lt, BlkIs.new _ _ _, hzz, hz.below ((Below.refl _ _).alloc (Nat.le_refl _) _) hz.lt⟩)
            simp only [Act.put, List.setIfInBounds_toArray, List.set_cons_zero, List.set_cons_succ] at S1010
            have S1010 := Lib.hid S1010
            refine wp_region_via (S := fun _ => True) 14 #[true, true, true, false, true, true, false, false, false, false, false, false, false, false, false, false, false, false, false] (fun A x y z u v => (((((A.put (some 91) (.slice oa k ca)).put (some 92) (.string pp)).put (some 95) (.int .i64 (j : Int))).put (some 96) (.int .u8 (j : Int))).put (some 93) (.slice (some ⟨x, 0, none⟩) 31 31))) (fun x y z u v W => Below wr.heap.size wr W ∧ BlkIs W x 5 (Array.replicate 31 (.int .u8 0))) ?_ (fun S1000 => ?_)
            · intro x y z u v W hC
              obtain ⟨hb, hx⟩ := hC
              have hHeld : True := trivial
              simp only [Act.put, List.setIfInBounds_toArray, List.set_cons_zero, List.set_cons_succ]
              refine wpAnyH_ready (rs := [3, 6, 16]) (by kernel_rfl) (by simp) ?_
              refine (AllReadyH.cons rfl (fun K hK => ?_) (AllReadyH.cons rfl (fun K hK => ?_) (AllReadyH.cons rfl (fun K hK => ?_) AllReadyH.nil)))
              · have CV := ZR31.out W x hx
                go_simp
                refine hK.out _ _ trivial (fun hHeld => ?_)
                exact wpAnyH_cast (by kernel_rfl) (by kernel_rfl) (S2000.out x y z u v _ (hb))
              · go_simp
                refine hK.out _ _ trivial (fun hHeld => ?_)
                exact wpAnyH_cast (by kernel_rfl) (by kernel_rfl) (S1100.out x W.heap.size z u v _ ⟨hb.alloc hb.size _, hx.below ((Below.refl _ _).alloc (Nat.le_refl _) _) hx.lt, BlkIs.new _ _ _⟩)
              · go_simp
                refine hK.out _ _ trivial (fun hHeld => ?_)
                exact wpAnyH_cast (by kernel_rfl) (by kernel_rfl) (S1010.out x y W.heap.size u v _ ⟨hb.alloc hb.size _, hx.below ((Below.refl _ _).alloc (Nat.le_refl _) _) hx.lt, hb.size, BlkIs.new _ _ _⟩)
            simp only [Act.put, List.setIfInBounds_toArray, List.set_cons_zero, List.set_cons_succ] at S1000
            have S1000 := Lib.hid S1000
            refine wp_region_via (S := fun _ => True) 14 #[true, true, false, false, true, true, false, false, false, false, false, false, false, false, false, false, true, false, false] (fun A x y z u v => (((((A.put (some 91) (.slice oa k ca)).put (some 92) (.string pp)).put (some 95) (.int .i64 (j : Int))).put (some 96) (.int .u8 (j : Int))).put (some 16) (.pointer (some ⟨z, 0, none⟩)))) (fun x y z u v W => Below wr.heap.size wr W ∧ wr.heap.size ≤ z ∧ BlkIs W z 25 #[.string ⟨#[]⟩, .int .i64 0, .string ⟨#[]⟩, .slice none 0 0, .slice none 0 0]) ?_ (fun S0010 => ?_)
            · intro x y z u v W hC
              obtain ⟨hb, hzz, hz⟩ := hC
              have hHeld : True := trivial
              simp only [Act.put, List.setIfInBounds_toArray, List.set_cons_zero, List.set_cons_succ]
              refine wpAnyH_ready (rs := [2, 6]) (by kernel_rfl) (by simp) ?_
              refine (AllReadyH.cons rfl (fun K hK => ?_) (AllReadyH.cons rfl (fun K hK => ?_) AllReadyH.nil))
              · have MK := mk_31
                go_simp
                refine hK.out _ _ trivial (fun hHeld => ?_)
                exact wpAnyH_cast (by kernel_rfl) (by kernel_rfl) (S1010.out W.heap.size y z u v _ ⟨hb.alloc hb.size _, BlkIs.new _ _ _, hzz, hz.below ((Below.refl _ _).alloc (Nat.le_refl _) _) hz.lt⟩)
              · go_simp
                refine hK.out _ _ trivial (fun hHeld => ?_)
                exact wpAnyH_cast (by kernel_rfl) (by kernel_rfl) (S0110.out x W.heap.size z u v _ ⟨hb.alloc hb.size _, BlkIs.new _ _ _, hzz, hz.below ((Below.refl _ _).alloc (Nat.le_refl _) _) hz.lt⟩)
            simp only [Act.put, List.setIfInBounds_toArray, List.set_cons_zero, List.set_cons_succ] at S0010
            have S0010 := Lib.hid S0010
            refine wp_region_held_drew (S := fun _ => True) (by kernel_rfl) trivial (fun hHeld => ?_)
            refine wpAnyH_take (i := 0) (v := .slice oa k ca) rfl (by kernel_rfl) (by kernel_rfl) (by kernel_rfl) (fun _ _ _ h => h) (Or.inl ⟨by rfl, fun w hSw => ?_⟩) (by assumption) ?_
            · go_simp
            simp only [Act.put, List.setIfInBounds_toArray, List.set_cons_zero, List.set_cons_succ]
            refine wpAnyH_take (i := 1) (v := .string pp) rfl (by kernel_rfl) (by kernel_rfl) (by kernel_rfl) (fun _ _ _ h => h) (Or.inl ⟨by rfl, fun w hSw => ?_⟩) (by assumption) ?_
            · go_simp
            simp only [Act.put, List.setIfInBounds_toArray, List.set_cons_zero, List.set_cons_succ]
            refine wpAnyH_take (i := 4) (v := .int .i64 (j : Int)) rfl (by kernel_rfl) (by kernel_rfl) (by kernel_rfl) (fun _ _ _ h => h) (Or.inl ⟨by rfl, fun w hSw => ?_⟩) (by assumption) ?_
            · go_simp
            simp only [Act.put, List.setIfInBounds_toArray, List.set_cons_zero, List.set_cons_succ]
            refine wpAnyH_take (i := 5) (v := .int .u8 (j : Int)) rfl (by kernel_rfl) (by kernel_rfl) (by kernel_rfl) (fun _ _ _ h => h) (Or.inl ⟨by rfl, fun w hSw => ?_⟩) (by assumption) ?_
            · go_simp
            simp only [Act.put, List.setIfInBounds_toArray, List.set_cons_zero, List.set_cons_succ]
            obtain ⟨W, hW⟩ : ∃ W, W = wr.drew := ⟨_, rfl⟩
            have hb : Below wr.heap.size wr W := by rw [hW]; exact ⟨rfl, rfl, rfl, Nat.le_refl _, fun _ _ => rfl⟩
            rw [← hW]
            clear hW
            obtain ⟨x, hx0⟩ : ∃ x : Nat, x = 0 := ⟨_, rfl⟩
            obtain ⟨y, z, u, v⟩ : Nat × Nat × Value × Value := ⟨0, 0, undef, undef⟩
            refine wpAnyH_ready (rs := [2, 6, 16]) (by kernel_rfl) (by simp) ?_
            refine (AllReadyH.cons rfl (fun K hK => ?_) (AllReadyH.cons rfl (fun K hK => ?_) (AllReadyH.cons rfl (fun K hK => ?_) AllReadyH.nil)))
            · have MK := mk_31
              go_simp
              refine hK.out _ _ trivial (fun hHeld => ?_)
              exact wpAnyH_cast (by kernel_rfl) (by kernel_rfl) (S1000.out W.heap.size y z u v _ ⟨hb.alloc hb.size _, BlkIs.new _ _ _⟩)
            · go_simp
              refine hK.out _ _ trivial (fun hHeld => ?_)
              exact wpAnyH_cast (by kernel_rfl) (by kernel_rfl) (S0100.out x W.heap.size z u v _ ⟨hb.alloc hb.size _, BlkIs.new _ _ _⟩)
            · go_simp
              refine hK.out _ _ trivial (fun hHeld => ?_)
              exact wpAnyH_cast (by kernel_rfl) (by kernel_rfl) (S0010.out x y W.heap.size u v _ ⟨hb.alloc hb.size _, hb.size, BlkIs.new _ _ _⟩)
          · have k1 : decide ((j : Int) < 16) = false := decide_eq_false (by omega)
            have k2 : ¬ ((j : Int) < 16) := by omega
            obtain rfl : j = 16 := by omega
            have hlk := sum_many (p := pp) H8.out
            rw [← HC.out.2.2.2.2.2] at hlk
            dsimp only at hlk
            have hkl : kids.take 16 = kids := by rw [HNN.out.2]; exact List.take_length
            rw [hkl, msum_all HP64.out, ← HNB.out]
            have hsz : (⟨(107 :: catL kids).toArray⟩ : ByteArray).size ≤ 140737488355328 := by
              have h5 : (catL kids).length = 32 * kids.length := catL_length (many_sizes HSA.out.1 HPF.out.1 HC.out.2.2.2.2.2 H8.out)
              have h6 : (⟨(107 :: catL kids).toArray⟩ : ByteArray).size = 1 + (catL kids).length := by simp [ByteArray.size]; omega
              rw [h6, h5, ← HNN.out.2]
              omega
            have SM := fun W => Sha.sum_any ⟨(107 :: catL kids).toArray⟩ W hsz
            have e0 : (⟨(107 :: catL kids).toArray⟩ : ByteArray).data.toList = 107 :: catL kids := by simp
            rw [e0] at SM
            have e1 : (⟨(Sha.sum (107 :: catL kids)).toArray⟩ : ByteArray) = sum := hlk.symm
            rw [e1] at SM
            obtain ⟨S, hS⟩ : ∃ S : ByteArray, S = ⟨(107 :: catL kids).toArray⟩ := ⟨_, rfl⟩
            rw [← hS] at SM ⊢
            have SM := Lib.hid SM
            clear e0 e1 hsz hkl hlk hS hj
            go_wp2_with fail
            go_upto_region 29 with (fail)
            have c2 : ∀ X : LaterOf wr, X.w.cell? ⟨G, 2, none⟩ = some (.string sum) := fun X => (hBX.out X.w (HK.out.trans (X.h.mono HK.out.size))).2.2.1
            have SN := Lib.hid (fun X : LaterOf wr => LaterOf.call X (SM.out X.w))
            have z1 : (sum.toList == sum.toList) = true := by simp
            have z2 : ((nb : Int) == (nb : Int)) = true := by simp
            clear x0 x1 x2 x3 x4 k1 k2
            refine wp_region_all (fun w' => ∃ z : LaterOf wr, w' = z.w) (by kernel_rfl) (by kernel_rfl) ⟨LaterOf.start wr, rfl⟩ ?_
            repeat (go_big_quiet_step (exact SN.out _))
            refine wpQuiet_nil ?_
            intro w12 hw12
            obtain ⟨X, rfl⟩ := hw12
            go_wp2_with fail
            go_ret
            exact ⟨rfl, HW8.out.trans ((HK.out.trans (X.h.mono HK.out.size)).mono HW8.out.size)⟩
theorem sums_arg (ao : Option Addr) (n na : Nat) (f : Nat → List UInt8) (pr : List UInt8) (lg : Int) (w : World) (hf : B32At w ao n f) (hp : pr.length = 3) :
    Calls Tryz.prog 5 #[.slice ao n na, .agg (bcells pr).toArray, .int .i64 lg] w fun e w' => e = .returned (.bool true) ∧ Below w.heap.size w w' := by
  match pr, hp with
  | [p0, p1, p2], _ => exact sums_any ao n na f p0 p1 p2 lg w hf
end Go.Proofs.YtjkhmjklmclpoaaGreat.Tr
