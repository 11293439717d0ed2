/- Several texts in one. (Layer 19.) -/
import Derived.Test.YtljenganlknhbaaGreatPkF
/- reliquaryref12.thing, ahead, tokens, walked: the same as the program's own. At most 1,000,000 tokens. (Layer 12.) -/
namespace Go.Proofs.YtljenganlknhbaaGreat.Mk
set_option linter.unusedVariables false
open Go.RowKit
theorem rthing_any (a b : Int) (s : ByteArray) (w : World) : Calls Tryz.prog 145 #[.int .i64 a, .int .i64 b, .string s] w fun e w' => e = .returned (.bool (thingB ⟨a, b, s⟩)) ∧ w = w' := by
  have HT := Lib.hid (show thingB ⟨a, b, s⟩ = decide (1 ≤ a ∧ a ≤ 7 ∧ 1 ≤ b ∧ b ≤ 1073741824 ∧ s.size = 32) from rfl)
  go_enter Tryz.func145, Tryz.ntmps145
  go_wp2_with fail
  all_goals
    go_ret
    refine ⟨ret_b ?_, rfl⟩
    rw [HT.out]
    first
      | (rw [Bool.eq_iff_iff]; simp only [beq_iff_eq, decide_eq_true_eq]; omega)
      | (symm; rw [decide_eq_false_iff_not]; omega)
theorem rahead_any (a b c d : Int) (w : World) : Calls Tryz.prog 104 #[.int .i64 a, .int .i64 b, .int .i64 c, .int .i64 d] w fun e w' => e = .returned (.bool (decide (a < c ∨ a = c ∧ b < d))) ∧ w = w' := by
  go_enter Tryz.func104, Tryz.ntmps104
  rcases Int.lt_trichotomy a c with h | h | h
  · go_wp2_with fail
    go_ret
    exact ⟨ret_b (by simp [h]), rfl⟩
  · subst h
    have e0 : ((a : Int) == a) = true := by simp
    have e1 : decide (a < a) = false := by simp
    go_wp2_with fail
    go_ret
    exact ⟨ret_b (by simp), rfl⟩
  · have e0 : ((a : Int) == c) = false := by rw [beq_eq_false_iff_ne]; omega
    have e1 : decide (a < c) = false := by simp; omega
    go_wp2_with fail
    go_ret
    refine ⟨ret_b ?_, rfl⟩
    symm
    rw [decide_eq_false_iff_not]
    omega
/-- So far all is right. -/
def TokSo (l : List Tok) (k : Nat) : Prop := (∀ x ∈ l.take k, thingB x = true) ∧ ∀ i, i + 1 < k → ∀ (h : i + 1 < l.length), aheadB l[i] l[i + 1] = true
theorem TokSo.all {l : List Tok} (h : TokSo l l.length) : (l.all thingB && riseB aheadB l) = true := by
  rw [Bool.and_eq_true, List.all_eq_true, riseB_iff]
  refine ⟨fun x hx => h.1 x (by rw [List.take_length]; exact hx), fun i hi => h.2 i hi hi⟩
theorem tokensB_of {l : List Tok} (h : TokSo l l.length) : tokensB l = decide (l.length ≤ 256) := by
  have h2 := h.all
  rw [Bool.and_eq_true] at h2
  unfold tokensB
  rw [h2.1, h2.2, Bool.and_true, Bool.and_true]
theorem tokensB_thing {l : List Tok} {k : Nat} (hk : k < l.length) (h : thingB l[k] = false) : tokensB l = false := by
  have : l.all thingB = false := by rw [List.all_eq_false]; exact ⟨l[k], List.getElem_mem hk, by simp [h]⟩
  unfold tokensB
  rw [this, Bool.and_false, Bool.false_and]
theorem tokensB_rise {l : List Tok} {k : Nat} (hk : k + 1 < l.length) (h : aheadB l[k] l[k + 1] = false) : tokensB l = false := by
  have : riseB aheadB l = false := by
    cases hr : riseB aheadB l
    · rfl
    · have := (riseB_iff _ _).1 hr k hk
      rw [h] at this; cases this
  unfold tokensB
  rw [this, Bool.and_false]
theorem TokSo.step {l : List Tok} {k : Nat} (h : TokSo l k) (hk : k < l.length) (h1 : thingB l[k] = true) (h2 : ∀ i, i + 1 = k → ∀ (h : i + 1 < l.length), aheadB l[i] l[i + 1] = true) : TokSo l (k + 1) := by
  refine ⟨fun x hx => ?_, fun i hi hl => ?_⟩
  · rw [take_snoc' hk] at hx
    rcases List.mem_append.1 hx with hx | hx
    · exact h.1 x hx
    · rcases List.mem_singleton.1 hx with rfl; exact h1
  · rcases Nat.lt_or_ge (i + 1) k with hlt | hge
    · exact h.2 i hlt hl
    · exact h2 i (by omega) hl
set_option maxRecDepth 100000 in
set_option maxHeartbeats 4000000 in
theorem rtokens_any (v : Value) (l : List Tok) (w : World) (h : RowAt 3 vTok w v l) (hn : l.length ≤ 1000000) : Calls Tryz.prog 101 #[v] w fun e w' => e = .returned (.bool (tokensB l)) ∧ Below w.heap.size w w' := by
  obtain ⟨ao, cap, rfl, hlc, hcm, hcell⟩ := h
  obtain ⟨n, hnn⟩ : ∃ n, n = l.length := ⟨_, rfl⟩
  rw [← hnn] at hn hlc ⊢
  have HL := Lib.hid hnn
  have HC := Lib.hid hcell
  clear hcell hnn
  go_enter Tryz.func101, Tryz.ntmps101
  go_wp2_with fail
  go_loopw [3] (fun i wr => ∃ k : Nat, i = .int .i64 (k : Int) ∧ k ≤ n ∧ Hid (TokSo l k) ∧ Hid (Below w.heap.size w wr)) (fun i _ => n - (intOf i).toNat)
  case atStart => exact ⟨0, rfl, Nat.zero_le _, Lib.hid ⟨fun x hx => by simp at hx, fun i hi => absurd hi (Nat.not_lt_zero _)⟩, Lib.hid (Below.refl _ _)⟩
  case round =>
    obtain ⟨k, rfl, hkl, HM, HB⟩ := hrel
    rcases Nat.lt_or_ge k n with hlt | hge
    · have ki : (k : Int) < n := by omega
      have hkL : k < l.length := by rw [← HL.out]; exact hlt
      obtain ⟨b, off, rfl, hblt, hc⟩ := HC.out (by rw [← HL.out]; omega)
      have hbr : b < wr.heap.size := Nat.lt_of_lt_of_le hblt HB.out.size
      obtain ⟨x, hx⟩ : ∃ x, x = l[k] := ⟨_, rfl⟩
      obtain ⟨q, hq⟩ : ∃ q, q = thingB x := ⟨_, rfl⟩
      have HQ := Lib.hid (show q = thingB l[k] by rw [hq, hx])
      obtain ⟨a0, a1, a2⟩ := x
      have T := rthing_any a0 a1 a2
      rw [← hq] at T
      have T := Lib.hid T
      have hwk : IntKind.i64.wrap (k : Int) = (k : Int) := IntWalk.i64_in _ (by omega)
      have x0 : ∀ X : LaterOf wr, X.w.cell? ⟨b, off + k * 3, none⟩ = some (.int .i64 a0) := fun X => by
        have := hc (k) (by rw [← HL.out]; omega) 0 (.int .i64 a0) (by rw [← hx]; rfl)
        rw [X.h.cell hbr, HB.out.cell hblt]; simpa using this
      have x1 : ∀ X : LaterOf wr, X.w.cell? ⟨b, off + k * 3 + 1, none⟩ = some (.int .i64 a1) := fun X => by
        have := hc (k) (by rw [← HL.out]; omega) 1 (.int .i64 a1) (by rw [← hx]; rfl)
        rw [X.h.cell hbr, HB.out.cell hblt]; simpa using this
      have x2 : ∀ X : LaterOf wr, X.w.cell? ⟨b, off + k * 3 + 2, none⟩ = some (.string a2) := fun X => by
        have := hc (k) (by rw [← HL.out]; omega) 2 (.string a2) (by rw [← hx]; rfl)
        rw [X.h.cell hbr, HB.out.cell hblt]; simpa using this
      cases q
      · clear hc hq hx
        go_wp2_with fail
        refine wp_region_all (fun w' => ∃ x : LaterOf wr, w' = x.w) (by kernel_rfl) (by kernel_rfl) ⟨LaterOf.start wr, rfl⟩ ?_
        repeat (go_big_quiet_step (with_reducible exact LaterOf.call_same _ (T.out _)))
        refine wpQuiet_nil ?_
        intro w3 hw3
        obtain ⟨X, rfl⟩ := hw3
        have H3 := Lib.hid (HB.out.trans (X.h.mono HB.out.size))
        obtain ⟨w3, hx3⟩ := X
        clear x0 x1 x2
        go_wp2_with fail
        go_ret
        exact ⟨ret_b (tokensB_thing hkL HQ.out.symm).symm, H3.out⟩
      · rcases Nat.eq_zero_or_pos k with h0 | h0
        · have HK := Lib.hid h0
          have z0 : decide (0 < k) = false := by rw [h0]; rfl
          clear hc hq hx h0
          go_wp2_with fail
          refine wp_region_all (fun w' => ∃ x : LaterOf wr, w' = x.w) (by kernel_rfl) (by kernel_rfl) ⟨LaterOf.start wr, rfl⟩ ?_
          repeat (go_big_quiet_step (with_reducible exact LaterOf.call_same _ (T.out _)))
          refine wpQuiet_nil ?_
          intro w3 hw3
          obtain ⟨X, rfl⟩ := hw3
          have H3 := Lib.hid (HB.out.trans (X.h.mono HB.out.size))
          obtain ⟨w3, hx3⟩ := X
          clear x0 x1 x2
          go_wp2_with fail
          exact ⟨⟨k + 1, by simp, by omega, Lib.hid (HM.out.step hkL HQ.out.symm fun i hi => absurd hi (by have := HK.out; omega)), H3⟩, by simp [intOf]; omega⟩
        · obtain ⟨j, rfl⟩ : ∃ j, k = j + 1 := ⟨k - 1, by omega⟩
          obtain ⟨y, hy⟩ : ∃ y, y = l[j] := ⟨_, rfl⟩
          have HA := Lib.hid (show decide (y.node < a0 ∨ y.node = a0 ∧ y.n < a1) = aheadB l[j] l[j + 1] by rw [← hx, hy]; rfl)
          obtain ⟨b0, b1, b2⟩ := y
          have S := rahead_any b0 b1 a0 a1
          dsimp only at HA
          obtain ⟨r, hr⟩ : ∃ r, r = decide (b0 < a0 ∨ b0 = a0 ∧ b1 < a1) := ⟨_, rfl⟩
          rw [← hr] at S HA
          have S := Lib.hid S
          have hwj : IntKind.i64.wrap (j : Int) = (j : Int) := IntWalk.i64_in _ (by omega)
          have jn : (j : Int) < n := by omega
          have z0 : decide (0 < j + 1) = true := by simp
          have y0 : ∀ X : LaterOf wr, X.w.cell? ⟨b, off + j * 3, none⟩ = some (.int .i64 b0) := fun X => by
            have := hc (j) (by rw [← HL.out]; omega) 0 (.int .i64 b0) (by rw [← hy]; rfl)
            rw [X.h.cell hbr, HB.out.cell hblt]; simpa using this
          have y1 : ∀ X : LaterOf wr, X.w.cell? ⟨b, off + j * 3 + 1, none⟩ = some (.int .i64 b1) := fun X => by
            have := hc (j) (by rw [← HL.out]; omega) 1 (.int .i64 b1) (by rw [← hy]; rfl)
            rw [X.h.cell hbr, HB.out.cell hblt]; simpa using this
          have y2 : ∀ X : LaterOf wr, X.w.cell? ⟨b, off + j * 3 + 2, none⟩ = some (.string b2) := fun X => by
            have := hc (j) (by rw [← HL.out]; omega) 2 (.string b2) (by rw [← hy]; rfl)
            rw [X.h.cell hbr, HB.out.cell hblt]; simpa using this
          clear hc hq hx hr hy h0
          cases r
          · skip
            go_wp2_with fail
            refine wp_region_all (fun w' => ∃ x : LaterOf wr, w' = x.w) (by kernel_rfl) (by kernel_rfl) ⟨LaterOf.start wr, rfl⟩ ?_
            repeat (go_big_quiet_step (first | with_reducible exact LaterOf.call_same _ (T.out _) | with_reducible exact LaterOf.call_same _ (S.out _)))
            refine wpQuiet_nil ?_
            intro w3 hw3
            obtain ⟨X, rfl⟩ := hw3
            have H3 := Lib.hid (HB.out.trans (X.h.mono HB.out.size))
            obtain ⟨w3, hx3⟩ := X
            clear x0 x1 x2 y0 y1 y2
            go_wp2_with fail
            go_ret
            exact ⟨ret_b (tokensB_rise hkL HA.out.symm).symm, H3.out⟩
          · skip
            go_wp2_with fail
            refine wp_region_all (fun w' => ∃ x : LaterOf wr, w' = x.w) (by kernel_rfl) (by kernel_rfl) ⟨LaterOf.start wr, rfl⟩ ?_
            repeat (go_big_quiet_step (first | with_reducible exact LaterOf.call_same _ (T.out _) | with_reducible exact LaterOf.call_same _ (S.out _)))
            refine wpQuiet_nil ?_
            intro w3 hw3
            obtain ⟨X, rfl⟩ := hw3
            have H3 := Lib.hid (HB.out.trans (X.h.mono HB.out.size))
            obtain ⟨w3, hx3⟩ := X
            clear x0 x1 x2 y0 y1 y2
            go_wp2_with fail
            exact ⟨⟨j + 1 + 1, by simp, by omega, Lib.hid (HM.out.step hkL HQ.out.symm fun i hi hl => (by
              obtain rfl : i = j := by omega
              exact HA.out.symm)), H3⟩, by simp [intOf]; omega⟩
    · have ki : decide (k < n) = false := decide_eq_false (by omega)
      obtain rfl : k = n := by omega
      go_wp2_with fail
      go_ret
      refine ⟨?_, HB.out⟩
      have hm := HM.out
      rw [HL.out] at hm
      rw [tokensB_of hm, ← HL.out]
      exact ret_b (by rw [decide_eq_decide]; omega)
end Go.Proofs.YtljenganlknhbaaGreat.Mk

/- reliquaryref12.tomb, walked: the same as the program's own. At most 1,000,000 things in each list. (Layer 12.) -/
namespace Go.Proofs.YtljenganlknhbaaGreat.Mk
set_option linter.unusedVariables false
open Go.RowKit
theorem tombB_cov {t : Tb} {k : Nat} (hk : k < t.cov.length) (h : sameId t t.cov[k] = false) : tombB t = false := by
  have : t.cov.all (sameId t) = false := by rw [List.all_eq_false]; exact ⟨t.cov[k], List.getElem_mem hk, by simp [h]⟩
  unfold tombB
  rw [this]; simp
theorem tombB_ack {t : Tb} {k : Nat} (hk : k < t.acks.length) (h : isNodeB t.acks[k] = false) : tombB t = false := by
  have : t.acks.all isNodeB = false := by rw [List.all_eq_false]; exact ⟨t.acks[k], List.getElem_mem hk, by simp [h]⟩
  unfold tombB
  rw [this]; simp
theorem tombB_lt {t : Tb} {k : Nat} (hk : k + 1 < t.acks.length) (h : ltB t.acks[k] t.acks[k + 1] = false) : tombB t = false := by
  have : riseB ltB t.acks = false := by
    cases hr : riseB ltB t.acks
    · rfl
    · have := (riseB_iff _ _).1 hr k hk
      rw [h] at this; cases this
  unfold tombB
  rw [this]; simp
def CovSo (t : Tb) (k : Nat) : Prop := ∀ x ∈ t.cov.take k, sameId t x = true
def AckSo (l : List Int) (k : Nat) : Prop := (∀ x ∈ l.take k, isNodeB x = true) ∧ ∀ i, i + 1 < k → ∀ (h : i + 1 < l.length), ltB l[i] l[i + 1] = true
theorem AckSo.step {l : List Int} {k : Nat} (h : AckSo l k) (hk : k < l.length) (h1 : isNodeB l[k] = true) (h2 : ∀ i, i + 1 = k → ∀ (h : i + 1 < l.length), ltB l[i] l[i + 1] = true) : AckSo l (k + 1) := by
  refine ⟨fun x hx => ?_, fun i hi hl => ?_⟩
  · rw [take_snoc' hk] at hx
    rcases List.mem_append.1 hx with hx | hx
    · exact h.1 x hx
    · rcases List.mem_singleton.1 hx with rfl; exact h1
  · rcases Nat.lt_or_ge (i + 1) k with hlt | hge
    · exact h.2 i hlt hl
    · exact h2 i (by omega) hl
theorem tombB_so {t : Tb} (h1 : CovSo t t.cov.length) (h2 : AckSo t.acks t.acks.length) : tombB t = (thingB (thingOf t) && tokensB t.cov) := by
  have e1 : t.cov.all (sameId t) = true := by rw [List.all_eq_true]; exact fun x hx => h1 x (by rw [List.take_length]; exact hx)
  have e2 : t.acks.all isNodeB = true := by rw [List.all_eq_true]; exact fun x hx => h2.1 x (by rw [List.take_length]; exact hx)
  have e3 : riseB ltB t.acks = true := (riseB_iff _ _).2 fun i hi => h2.2 i hi hi
  unfold tombB
  rw [e1, e2, e3]; simp
set_option maxRecDepth 100000 in
set_option maxHeartbeats 4000000 in
theorem rtomb_any (x : TbR) (w : World) (h : x.Reads w) (hn1 : x.t.cov.length ≤ 1000000) (hn2 : x.t.acks.length ≤ 1000000) : Calls Tryz.prog 103 #[aTb x] w fun e w' => e = .returned (.bool (tombB x.t)) ∧ Below w.heap.size w w' := by
  obtain ⟨t, v3, v4⟩ := x
  obtain ⟨hc1, hc2⟩ := h
  dsimp only at hc1 hc2 hn1 hn2
  have HR := Lib.hid (And.intro hc1 hc2)
  obtain ⟨ao1, c1, rfl, -, -⟩ := hc1.form
  obtain ⟨ao2, c2, rfl, -, -⟩ := hc2.form
  have T1 := Lib.hid (fun w => rthing_any t.node t.n t.id w)
  have T2 := Lib.hid (fun W (hW : Below w.heap.size w W) => rtokens_any (.slice ao1 t.cov.length c1) t.cov W (HR.out.1.later hW) hn1)
  obtain ⟨q1, hq1⟩ : ∃ q, q = thingB (thingOf t) := ⟨_, rfl⟩
  obtain ⟨q2, hq2⟩ : ∃ q, q = tokensB t.cov := ⟨_, rfl⟩
  rw [show thingB ⟨t.node, t.n, t.id⟩ = thingB (thingOf t) from rfl, ← hq1] at T1
  rw [← hq2] at T2
  have HQ := Lib.hid (And.intro hq1 hq2)
  obtain ⟨n1, h1⟩ : ∃ n, n = t.cov.length := ⟨_, rfl⟩
  obtain ⟨n2, h2⟩ : ∃ n, n = t.acks.length := ⟨_, rfl⟩
  show Calls Tryz.prog 103 #[.agg #[.int .i64 t.node, .int .i64 t.n, .string t.id, .slice ao1 t.cov.length c1, .slice ao2 t.acks.length c2]] w fun e w' => e = .returned (.bool (tombB t)) ∧ Below w.heap.size w w'
  rw [← h1] at T2 hn1 ⊢
  rw [← h2] at hn2 ⊢
  obtain ⟨a0, ha0⟩ : ∃ a, a = t.node := ⟨_, rfl⟩
  obtain ⟨a1, ha1⟩ : ∃ a, a = t.n := ⟨_, rfl⟩
  obtain ⟨a2, ha2⟩ : ∃ a, a = t.id := ⟨_, rfl⟩
  rw [← ha0, ← ha1, ← ha2] at T1 ⊢
  have HI := Lib.hid (And.intro h1 (And.intro h2 ha2))
  obtain ⟨Q, hQ⟩ : ∃ Q, Q = tombB t := ⟨_, rfl⟩
  rw [← hQ]
  have HQQ := Lib.hid hQ
  clear hQ
  obtain ⟨W1, hW1⟩ : ∃ W1, W1 = w.alloc (.cells #[.int .i64 a0, .int .i64 a1, .string a2, .slice ao1 n1 c1, .slice ao2 n2 c2] 54) := ⟨_, rfl⟩
  have hb1 : Below w.heap.size w W1 := by rw [hW1]; exact (Below.refl _ _).alloc (Nat.le_refl _) _
  have k1 : BlkIs W1 w.heap.size 54 #[.int .i64 a0, .int .i64 a1, .string a2, .slice ao1 n1 c1, .slice ao2 n2 c2] := by rw [hW1]; exact BlkIs.new _ _ _
  have H1 := Lib.hid (And.intro k1 hb1)
  have HC := Lib.hid (show RowAt 3 vTok W1 (.slice ao1 n1 c1) t.cov ∧ RowAt 1 vInt W1 (.slice ao2 n2 c2) t.acks from by rw [h1, h2]; exact ⟨HR.out.1.later hb1, HR.out.2.later hb1⟩)
  have HW := Lib.hid hW1
  clear hc1 hc2 HR hq1 hq2 h1 h2 ha0 ha1 ha2 hW1 hb1 k1
  go_enter Tryz.func103, Tryz.ntmps103
  go_wp2_with fail
  rw [← HW.out]
  go_loopw [3] (fun i wr => ∃ k : Nat, i = .int .i64 (k : Int) ∧ k ≤ n1 ∧ Hid (CovSo t k) ∧ Hid (Below W1.heap.size W1 wr)) (fun i _ => n1 - (intOf i).toNat)
  case atStart => exact ⟨0, rfl, Nat.zero_le _, Lib.hid (fun x hx => by simp at hx), Lib.hid (Below.refl _ _)⟩
  case round =>
    obtain ⟨k, rfl, hkl, HM, HB⟩ := hrel
    rcases Nat.lt_or_ge k n1 with hlt | hge
    · have ki : (k : Int) < n1 := by omega
      have hkL : k < t.cov.length := by rw [← HI.out.1]; exact hlt
      obtain ⟨b, off, rfl, hblt, hc⟩ := HC.out.1.at_ (by omega)
      obtain ⟨u, hu⟩ : ∃ u, u = t.cov[k].id := ⟨_, rfl⟩
      have hq : sameId t t.cov[k] = (t.cov[k].id.toList == t.id.toList) := rfl
      rw [← hu, ← HI.out.2.2] at hq
      obtain ⟨q, hqq⟩ : ∃ q, q = (u.toList == a2.toList) := ⟨_, rfl⟩
      rw [← hqq] at hq
      have e1 := hqq.symm
      have HQ2 := Lib.hid hq
      have x2 : ∀ X : LaterOf wr, X.w.cell? ⟨b, off + k * 3 + 2, none⟩ = some (.string u) := fun X => by
        have := hc k hkL 2 (.string u) (by rw [hu]; rfl)
        rw [X.h.cell (Nat.lt_of_lt_of_le hblt HB.out.size), HB.out.cell hblt]; simpa using this
      have y2 : ∀ X : LaterOf wr, X.w.cell? ⟨w.heap.size, 2, none⟩ = some (.string a2) := fun X => ((H1.out.1.below HB.out H1.out.1.lt).below X.h (H1.out.1.below HB.out H1.out.1.lt).lt).cell 2
      have y3 : ∀ X : LaterOf wr, X.w.cell? ⟨w.heap.size, 3, none⟩ = some (.slice (some ⟨b, off, none⟩) n1 c1) := fun X => ((H1.out.1.below HB.out H1.out.1.lt).below X.h (H1.out.1.below HB.out H1.out.1.lt).lt).cell 3
      have d2 : wr.cell? ⟨w.heap.size, 2, none⟩ = some (.string a2) := (H1.out.1.below HB.out H1.out.1.lt).cell 2
      have d3 : wr.cell? ⟨w.heap.size, 3, none⟩ = some (.slice (some ⟨b, off, none⟩) n1 c1) := (H1.out.1.below HB.out H1.out.1.lt).cell 3
      clear hc hu hq hqq
      cases q
      · have e2 : (u.toList != a2.toList) = true := by rw [bne, e1]; rfl
        go_wp2_with fail
        refine wp_region_all (fun w' => ∃ x : LaterOf wr, w' = x.w) (by kernel_rfl) (by kernel_rfl) ⟨LaterOf.start wr, rfl⟩ ?_
        repeat (go_big_quiet_step (fail))
        refine wpQuiet_nil ?_
        intro w3 hw3
        obtain ⟨X, rfl⟩ := hw3
        have H3 := Lib.hid (HB.out.trans (X.h.mono HB.out.size))
        obtain ⟨w3, hx3⟩ := X
        clear x2 y2 y3
        go_wp2_with fail
        go_ret
        exact ⟨ret_b (HQQ.out.trans (tombB_cov hkL HQ2.out)).symm, H1.out.2.trans (H3.out.mono H1.out.2.size)⟩
      · have e2 : (u.toList != a2.toList) = false := by rw [bne, e1]; rfl
        go_wp2_with fail
        refine wp_region_all (fun w' => ∃ x : LaterOf wr, w' = x.w) (by kernel_rfl) (by kernel_rfl) ⟨LaterOf.start wr, rfl⟩ ?_
        repeat (go_big_quiet_step (fail))
        refine wpQuiet_nil ?_
        intro w3 hw3
        obtain ⟨X, rfl⟩ := hw3
        have H3 := Lib.hid (HB.out.trans (X.h.mono HB.out.size))
        obtain ⟨w3, hx3⟩ := X
        clear x2 y2 y3
        go_wp2_with fail
        refine ⟨⟨k + 1, by simp, by omega, Lib.hid (fun x hx => ?_), H3⟩, by simp [intOf]; omega⟩
        rw [take_snoc' hkL] at hx
        rcases List.mem_append.1 hx with hx | hx
        · exact HM.out x hx
        · rcases List.mem_singleton.1 hx with rfl; exact HQ2.out
    · have ki : decide (k < n1) = false := decide_eq_false (by omega)
      obtain rfl : n1 = k := by omega
      have d3 : wr.cell? ⟨w.heap.size, 3, none⟩ = some (.slice ao1 n1 c1) := (H1.out.1.below HB.out H1.out.1.lt).cell 3
      have d4 : wr.cell? ⟨w.heap.size, 4, none⟩ = some (.slice ao2 n2 c2) := (H1.out.1.below HB.out H1.out.1.lt).cell 4
      have HCov := Lib.hid (show CovSo t t.cov.length by have := HM.out; rwa [HI.out.1] at this)
      go_wp2_with fail
      obtain ⟨Wa, hWa⟩ : ∃ Wa, Wa = wr := ⟨_, rfl⟩
      subst hWa
      have HBa := HB
      clear d3 d4 HM HB
      go_loopw [4] (fun i wr => ∃ j : Nat, i = .int .i64 (j : Int) ∧ j ≤ n2 ∧ Hid (AckSo t.acks j) ∧ Hid (Below W1.heap.size W1 wr)) (fun i _ => n2 - (intOf i).toNat)
      case atStart => exact ⟨0, rfl, Nat.zero_le _, Lib.hid ⟨fun x hx => by simp at hx, fun i hi => absurd hi (Nat.not_lt_zero _)⟩, HBa⟩
      case round =>
        obtain ⟨j, rfl, hjl, HM, HB⟩ := hrel
        clear HBa
        rcases Nat.lt_or_ge j n2 with hlt | hge
        · have ji : (j : Int) < n2 := by omega
          have hjL : j < t.acks.length := by rw [← HI.out.2.1]; exact hlt
          obtain ⟨b, off, rfl, hblt, hc⟩ := HC.out.2.at_ (by omega)
          obtain ⟨z, hz⟩ : ∃ z, z = t.acks[j] := ⟨_, rfl⟩
          have x0 : ∀ X : LaterOf wr, X.w.cell? ⟨b, off + j, none⟩ = some (.int .i64 z) := fun X => by
            have := hc j hjL 0 (.int .i64 z) (by rw [hz]; rfl)
            rw [X.h.cell (Nat.lt_of_lt_of_le hblt HB.out.size), HB.out.cell hblt]; simpa using this
          have HN := Lib.hid (show isNodeB t.acks[j] = decide (1 ≤ z ∧ z ≤ 7) by rw [hz]; rfl)
          have HZ := Lib.hid hz
          have y4 : ∀ X : LaterOf wr, X.w.cell? ⟨w.heap.size, 4, none⟩ = some (.slice (some ⟨b, off, none⟩) n2 c2) := fun X => ((H1.out.1.below HB.out H1.out.1.lt).below X.h (H1.out.1.below HB.out H1.out.1.lt).lt).cell 4
          have d4 : wr.cell? ⟨w.heap.size, 4, none⟩ = some (.slice (some ⟨b, off, none⟩) n2 c2) := (H1.out.1.below HB.out H1.out.1.lt).cell 4
          have hwj : IntKind.i64.wrap (j : Int) = (j : Int) := IntWalk.i64_in _ (by omega)
          clear hz
          by_cases hr : z < 1 ∨ 7 < z
          · have hno : isNodeB t.acks[j] = false := by rw [HN.out]; exact decide_eq_false (by omega)
            have HNo := Lib.hid hno
            clear hno
            rcases Int.lt_or_le z 1 with hz1 | hz1
            · have g1 : decide (z < 1) = true := decide_eq_true hz1
              clear hc hr hz1
              go_wp2_with fail
              refine wp_region_all (fun w' => ∃ x : LaterOf wr, w' = x.w) (by kernel_rfl) (by kernel_rfl) ⟨LaterOf.start wr, rfl⟩ ?_
              repeat (go_big_quiet_step (fail))
              refine wpQuiet_nil ?_
              intro w3 hw3
              obtain ⟨X, rfl⟩ := hw3
              have H3 := Lib.hid (HB.out.trans (X.h.mono HB.out.size))
              obtain ⟨w3, hx3⟩ := X
              clear x0 y4
              go_wp2_with fail
              go_ret
              exact ⟨ret_b (HQQ.out.trans (tombB_ack hjL HNo.out)).symm, H1.out.2.trans (H3.out.mono H1.out.2.size)⟩
            · have g1 : decide (z < 1) = false := decide_eq_false (by omega)
              have g2 : decide (7 < z) = true := decide_eq_true (by omega)
              clear hc hr hz1
              go_wp2_with fail
              refine wp_region_all (fun w' => ∃ x : LaterOf wr, w' = x.w) (by kernel_rfl) (by kernel_rfl) ⟨LaterOf.start wr, rfl⟩ ?_
              repeat (go_big_quiet_step (fail))
              refine wpQuiet_nil ?_
              intro w3 hw3
              obtain ⟨X, rfl⟩ := hw3
              have H3 := Lib.hid (HB.out.trans (X.h.mono HB.out.size))
              obtain ⟨w3, hx3⟩ := X
              clear x0 y4
              go_wp2_with fail
              go_ret
              exact ⟨ret_b (HQQ.out.trans (tombB_ack hjL HNo.out)).symm, H1.out.2.trans (H3.out.mono H1.out.2.size)⟩
          · have hyes : isNodeB t.acks[j] = true := by rw [HN.out]; exact decide_eq_true (by omega)
            have HYe := Lib.hid hyes
            have g1 : decide (z < 1) = false := decide_eq_false (by omega)
            have g2 : decide (7 < z) = false := decide_eq_false (by omega)
            clear hyes hr
            rcases Nat.eq_zero_or_pos j with h0 | h0
            · have HK := Lib.hid h0
              have z0 : decide (0 < j) = false := by rw [h0]; rfl
              clear hc h0
              go_wp2_with fail
              refine wp_region_all (fun w' => ∃ x : LaterOf wr, w' = x.w) (by kernel_rfl) (by kernel_rfl) ⟨LaterOf.start wr, rfl⟩ ?_
              repeat (go_big_quiet_step (fail))
              refine wpQuiet_nil ?_
              intro w3 hw3
              obtain ⟨X, rfl⟩ := hw3
              have H3 := Lib.hid (HB.out.trans (X.h.mono HB.out.size))
              obtain ⟨w3, hx3⟩ := X
              clear x0 y4
              go_wp2_with fail
              exact ⟨⟨j + 1, by simp, by omega, Lib.hid (HM.out.step hjL HYe.out fun i hi => absurd hi (by have := HK.out; omega)), H3⟩, by simp [intOf]; omega⟩
            · obtain ⟨m, rfl⟩ : ∃ m, j = m + 1 := ⟨j - 1, by omega⟩
              obtain ⟨y, hy⟩ : ∃ y, y = t.acks[m] := ⟨_, rfl⟩
              have HA := Lib.hid (show ltB t.acks[m] t.acks[m + 1] = decide (y < z) by rw [HZ.out, hy]; rfl)
              have u0 : ∀ X : LaterOf wr, X.w.cell? ⟨b, off + m, none⟩ = some (.int .i64 y) := fun X => by
                have := hc m (by omega) 0 (.int .i64 y) (by rw [hy]; rfl)
                rw [X.h.cell (Nat.lt_of_lt_of_le hblt HB.out.size), HB.out.cell hblt]; simpa using this
              have hwm : IntKind.i64.wrap (m : Int) = (m : Int) := IntWalk.i64_in _ (by omega)
              have mn : (m : Int) < n2 := by omega
              have z0 : decide (0 < m + 1) = true := by simp
              clear hc hy h0
              rcases Int.lt_or_le y z with hyz | hyz
              · have g3 : decide (z ≤ y) = false := decide_eq_false (by omega)
                have HA2 := Lib.hid (show ltB t.acks[m] t.acks[m + 1] = true by rw [HA.out]; exact decide_eq_true hyz)
                clear hyz
                go_wp2_with fail
                refine wp_region_all (fun w' => ∃ x : LaterOf wr, w' = x.w) (by kernel_rfl) (by kernel_rfl) ⟨LaterOf.start wr, rfl⟩ ?_
                repeat (go_big_quiet_step (fail))
                refine wpQuiet_nil ?_
                intro w3 hw3
                obtain ⟨X, rfl⟩ := hw3
                have H3 := Lib.hid (HB.out.trans (X.h.mono HB.out.size))
                obtain ⟨w3, hx3⟩ := X
                clear x0 y4 u0
                go_wp2_with fail
                exact ⟨⟨m + 1 + 1, by simp, by omega, Lib.hid (HM.out.step hjL HYe.out fun i hi hl => (by
                  obtain rfl : i = m := by omega
                  exact HA2.out)), H3⟩, by simp [intOf]; omega⟩
              · have g3 : decide (z ≤ y) = true := decide_eq_true hyz
                have HA2 := Lib.hid (show ltB t.acks[m] t.acks[m + 1] = false by rw [HA.out]; exact decide_eq_false (by omega))
                clear hyz
                go_wp2_with fail
                refine wp_region_all (fun w' => ∃ x : LaterOf wr, w' = x.w) (by kernel_rfl) (by kernel_rfl) ⟨LaterOf.start wr, rfl⟩ ?_
                repeat (go_big_quiet_step (fail))
                refine wpQuiet_nil ?_
                intro w3 hw3
                obtain ⟨X, rfl⟩ := hw3
                have H3 := Lib.hid (HB.out.trans (X.h.mono HB.out.size))
                obtain ⟨w3, hx3⟩ := X
                clear x0 y4 u0
                go_wp2_with fail
                go_ret
                exact ⟨ret_b (HQQ.out.trans (tombB_lt hjL HA2.out)).symm, H1.out.2.trans (H3.out.mono H1.out.2.size)⟩
        · have ji : decide (j < n2) = false := decide_eq_false (by omega)
          obtain rfl : n2 = j := by omega
          have d0 : wr.cell? ⟨w.heap.size, 0, none⟩ = some (.int .i64 a0) := (H1.out.1.below HB.out H1.out.1.lt).cell 0
          have d1 : wr.cell? ⟨w.heap.size, 1, none⟩ = some (.int .i64 a1) := (H1.out.1.below HB.out H1.out.1.lt).cell 1
          have d2 : wr.cell? ⟨w.heap.size, 2, none⟩ = some (.string a2) := (H1.out.1.below HB.out H1.out.1.lt).cell 2
          have d3 : wr.cell? ⟨w.heap.size, 3, none⟩ = some (.slice ao1 n1 c1) := (H1.out.1.below HB.out H1.out.1.lt).cell 3
          have d4 : wr.cell? ⟨w.heap.size, 4, none⟩ = some (.slice ao2 n2 c2) := (H1.out.1.below HB.out H1.out.1.lt).cell 4
          have hso := tombB_so HCov.out (by have := HM.out; rwa [HI.out.2.1] at this)
          rw [← HQ.out.1, ← HQ.out.2] at hso
          have HSo := Lib.hid (HQQ.out.trans hso)
          clear hso
          have T := Lib.hid (T2.out wr (H1.out.2.trans (HB.out.mono H1.out.2.size)))
          clear T2
          cases q1
          · go_wp2_with fail
            refine (T1.out _).mono ?_
            rintro e w5 ⟨rfl, rfl⟩
            go_wp2_with fail
            go_ret
            exact ⟨ret_b (by rw [HSo.out]; simp), H1.out.2.trans (HB.out.mono H1.out.2.size)⟩
          · go_wp2_with fail
            refine (T1.out _).mono ?_
            rintro e w5 ⟨rfl, rfl⟩
            go_wp2_with fail
            refine T.out.mono ?_
            rintro e w6 ⟨rfl, hb⟩
            have H6 := Lib.hid (H1.out.2.trans ((HB.out.mono H1.out.2.size).trans (hb.mono (Nat.le_trans H1.out.2.size HB.out.size))))
            clear hb T
            go_wp2_with fail
            go_ret
            exact ⟨ret_b (by rw [HSo.out]; simp), H6.out⟩
end Go.Proofs.YtljenganlknhbaaGreat.Mk

