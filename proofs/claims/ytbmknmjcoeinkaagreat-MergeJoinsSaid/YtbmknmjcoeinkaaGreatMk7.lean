/- reliquaryref12.thing, ahead, tokens, walked: the same as the program's own. At most 1,000,000 tokens. (Layer 12.) -/
import Derived.Test.YtbmknmjcoeinkaaGreatMk5
namespace Go.Proofs.YtbmknmjcoeinkaaGreat.Mk
set_option linter.unusedVariables false
open Go.RowKit
theorem rthing_any (a b : Int) (s : ByteArray) (w : World) : Calls Tryz.prog 109 #[.int .i64 a, .int .i64 b, .string s] w fun e w' => e = .returned (.bool (thingB ⟨a, b, s⟩)) ∧ w = w' := by
  have HT := Lib.hid (show thingB ⟨a, b, s⟩ = decide (1 ≤ a ∧ a ≤ 7 ∧ 1 ≤ b ∧ b ≤ 1073741824 ∧ s.size = 32) from rfl)
  go_enter Tryz.func109, Tryz.ntmps109
  go_wp2_with fail
  all_goals
    go_ret
    refine ⟨ret_b ?_, rfl⟩
    rw [HT.out]
    first
      | (rw [Bool.eq_iff_iff]; simp only [beq_iff_eq, decide_eq_true_eq]; omega)
      | (symm; rw [decide_eq_false_iff_not]; omega)
theorem rahead_any (a b c d : Int) (w : World) : Calls Tryz.prog 76 #[.int .i64 a, .int .i64 b, .int .i64 c, .int .i64 d] w fun e w' => e = .returned (.bool (decide (a < c ∨ a = c ∧ b < d))) ∧ w = w' := by
  go_enter Tryz.func76, Tryz.ntmps76
  rcases Int.lt_trichotomy a c with h | h | h
  · go_wp2_with fail
    go_ret
    exact ⟨ret_b (by simp [h]), rfl⟩
  · subst h
    have e0 : ((a : Int) == a) = true := by simp
    have e1 : decide (a < a) = false := by simp
    go_wp2_with fail
    go_ret
    exact ⟨ret_b (by simp), rfl⟩
  · have e0 : ((a : Int) == c) = false := by rw [beq_eq_false_iff_ne]; omega
    have e1 : decide (a < c) = false := by simp; omega
    go_wp2_with fail
    go_ret
    refine ⟨ret_b ?_, rfl⟩
    symm
    rw [decide_eq_false_iff_not]
    omega
/-- So far all is right. -/
def TokSo (l : List Tok) (k : Nat) : Prop := (∀ x ∈ l.take k, thingB x = true) ∧ ∀ i, i + 1 < k → ∀ (h : i + 1 < l.length), aheadB l[i] l[i + 1] = true
theorem TokSo.all {l : List Tok} (h : TokSo l l.length) : (l.all thingB && riseB aheadB l) = true := by
  rw [Bool.and_eq_true, List.all_eq_true, riseB_iff]
  refine ⟨fun x hx => h.1 x (by rw [List.take_length]; exact hx), fun i hi => h.2 i hi hi⟩
theorem tokensB_of {l : List Tok} (h : TokSo l l.length) : tokensB l = decide (l.length ≤ 256) := by
  have h2 := h.all
  rw [Bool.and_eq_true] at h2
  unfold tokensB
  rw [h2.1, h2.2, Bool.and_true, Bool.and_true]
theorem tokensB_thing {l : List Tok} {k : Nat} (hk : k < l.length) (h : thingB l[k] = false) : tokensB l = false := by
  have : l.all thingB = false := by rw [List.all_eq_false]; exact ⟨l[k], List.getElem_mem hk, by simp [h]⟩
  unfold tokensB
  rw [this, Bool.and_false, Bool.false_and]
theorem tokensB_rise {l : List Tok} {k : Nat} (hk : k + 1 < l.length) (h : aheadB l[k] l[k + 1] = false) : tokensB l = false := by
  have : riseB aheadB l = false := by
    cases hr : riseB aheadB l
    · rfl
    · have := (riseB_iff _ _).1 hr k hk
      rw [h] at this; cases this
  unfold tokensB
  rw [this, Bool.and_false]
theorem TokSo.step {l : List Tok} {k : Nat} (h : TokSo l k) (hk : k < l.length) (h1 : thingB l[k] = true) (h2 : ∀ i, i + 1 = k → ∀ (h : i + 1 < l.length), aheadB l[i] l[i + 1] = true) : TokSo l (k + 1) := by
  refine ⟨fun x hx => ?_, fun i hi hl => ?_⟩
  · rw [take_snoc' hk] at hx
    rcases List.mem_append.1 hx with hx | hx
    · exact h.1 x hx
    · rcases List.mem_singleton.1 hx with rfl; exact h1
  · rcases Nat.lt_or_ge (i + 1) k with hlt | hge
    · exact h.2 i hlt hl
    · exact h2 i (by omega) hl
set_option maxRecDepth 100000 in
set_option maxHeartbeats 4000000 in
theorem rtokens_any (v : Value) (l : List Tok) (w : World) (h : RowAt 3 vTok w v l) (hn : l.length ≤ 1000000) : Calls Tryz.prog 73 #[v] w fun e w' => e = .returned (.bool (tokensB l)) ∧ Below w.heap.size w w' := by
  obtain ⟨ao, cap, rfl, hlc, hcm, hcell⟩ := h
  obtain ⟨n, hnn⟩ : ∃ n, n = l.length := ⟨_, rfl⟩
  rw [← hnn] at hn hlc ⊢
  have HL := Lib.hid hnn
  have HC := Lib.hid hcell
  clear hcell hnn
  go_enter Tryz.func73, Tryz.ntmps73
  go_wp2_with fail
  go_loopw [3] (fun i wr => ∃ k : Nat, i = .int .i64 (k : Int) ∧ k ≤ n ∧ Hid (TokSo l k) ∧ Hid (Below w.heap.size w wr)) (fun i _ => n - (intOf i).toNat)
  case atStart => exact ⟨0, rfl, Nat.zero_le _, Lib.hid ⟨fun x hx => by simp at hx, fun i hi => absurd hi (Nat.not_lt_zero _)⟩, Lib.hid (Below.refl _ _)⟩
  case round =>
    obtain ⟨k, rfl, hkl, HM, HB⟩ := hrel
    rcases Nat.lt_or_ge k n with hlt | hge
    · have ki : (k : Int) < n := by omega
      have hkL : k < l.length := by rw [← HL.out]; exact hlt
      obtain ⟨b, off, rfl, hblt, hc⟩ := HC.out (by rw [← HL.out]; omega)
      have hbr : b < wr.heap.size := Nat.lt_of_lt_of_le hblt HB.out.size
      obtain ⟨x, hx⟩ : ∃ x, x = l[k] := ⟨_, rfl⟩
      obtain ⟨q, hq⟩ : ∃ q, q = thingB x := ⟨_, rfl⟩
      have HQ := Lib.hid (show q = thingB l[k] by rw [hq, hx])
      obtain ⟨a0, a1, a2⟩ := x
      have T := rthing_any a0 a1 a2
      rw [← hq] at T
      have T := Lib.hid T
      have hwk : IntKind.i64.wrap (k : Int) = (k : Int) := IntWalk.i64_in _ (by omega)
      have x0 : ∀ X : LaterOf wr, X.w.cell? ⟨b, off + k * 3, none⟩ = some (.int .i64 a0) := fun X => by
        have := hc (k) (by rw [← HL.out]; omega) 0 (.int .i64 a0) (by rw [← hx]; rfl)
        rw [X.h.cell hbr, HB.out.cell hblt]; simpa using this
      have x1 : ∀ X : LaterOf wr, X.w.cell? ⟨b, off + k * 3 + 1, none⟩ = some (.int .i64 a1) := fun X => by
        have := hc (k) (by rw [← HL.out]; omega) 1 (.int .i64 a1) (by rw [← hx]; rfl)
        rw [X.h.cell hbr, HB.out.cell hblt]; simpa using this
      have x2 : ∀ X : LaterOf wr, X.w.cell? ⟨b, off + k * 3 + 2, none⟩ = some (.string a2) := fun X => by
        have := hc (k) (by rw [← HL.out]; omega) 2 (.string a2) (by rw [← hx]; rfl)
        rw [X.h.cell hbr, HB.out.cell hblt]; simpa using this
      cases q
      · clear hc hq hx
        go_wp2_with fail
        refine wp_region_all (fun w' => ∃ x : LaterOf wr, w' = x.w) (by kernel_rfl) (by kernel_rfl) ⟨LaterOf.start wr, rfl⟩ ?_
        repeat (go_big_quiet_step (with_reducible exact LaterOf.call_same _ (T.out _)))
        refine wpQuiet_nil ?_
        intro w3 hw3
        obtain ⟨X, rfl⟩ := hw3
        have H3 := Lib.hid (HB.out.trans (X.h.mono HB.out.size))
        obtain ⟨w3, hx3⟩ := X
        clear x0 x1 x2
        go_wp2_with fail
        go_ret
        exact ⟨ret_b (tokensB_thing hkL HQ.out.symm).symm, H3.out⟩
      · rcases Nat.eq_zero_or_pos k with h0 | h0
        · have HK := Lib.hid h0
          have z0 : decide (0 < k) = false := by rw [h0]; rfl
          clear hc hq hx h0
          go_wp2_with fail
          refine wp_region_all (fun w' => ∃ x : LaterOf wr, w' = x.w) (by kernel_rfl) (by kernel_rfl) ⟨LaterOf.start wr, rfl⟩ ?_
          repeat (go_big_quiet_step (with_reducible exact LaterOf.call_same _ (T.out _)))
          refine wpQuiet_nil ?_
          intro w3 hw3
          obtain ⟨X, rfl⟩ := hw3
          have H3 := Lib.hid (HB.out.trans (X.h.mono HB.out.size))
          obtain ⟨w3, hx3⟩ := X
          clear x0 x1 x2
          go_wp2_with fail
          exact ⟨⟨k + 1, by simp, by omega, Lib.hid (HM.out.step hkL HQ.out.symm fun i hi => absurd hi (by have := HK.out; omega)), H3⟩, by simp [intOf]; omega⟩
        · obtain ⟨j, rfl⟩ : ∃ j, k = j + 1 := ⟨k - 1, by omega⟩
          obtain ⟨y, hy⟩ : ∃ y, y = l[j] := ⟨_, rfl⟩
          have HA := Lib.hid (show decide (y.node < a0 ∨ y.node = a0 ∧ y.n < a1) = aheadB l[j] l[j + 1] by rw [← hx, hy]; rfl)
          obtain ⟨b0, b1, b2⟩ := y
          have S := rahead_any b0 b1 a0 a1
          dsimp only at HA
          obtain ⟨r, hr⟩ : ∃ r, r = decide (b0 < a0 ∨ b0 = a0 ∧ b1 < a1) := ⟨_, rfl⟩
          rw [← hr] at S HA
          have S := Lib.hid S
          have hwj : IntKind.i64.wrap (j : Int) = (j : Int) := IntWalk.i64_in _ (by omega)
          have jn : (j : Int) < n := by omega
          have z0 : decide (0 < j + 1) = true := by simp
          have y0 : ∀ X : LaterOf wr, X.w.cell? ⟨b, off + j * 3, none⟩ = some (.int .i64 b0) := fun X => by
            have := hc (j) (by rw [← HL.out]; omega) 0 (.int .i64 b0) (by rw [← hy]; rfl)
            rw [X.h.cell hbr, HB.out.cell hblt]; simpa using this
          have y1 : ∀ X : LaterOf wr, X.w.cell? ⟨b, off + j * 3 + 1, none⟩ = some (.int .i64 b1) := fun X => by
            have := hc (j) (by rw [← HL.out]; omega) 1 (.int .i64 b1) (by rw [← hy]; rfl)
            rw [X.h.cell hbr, HB.out.cell hblt]; simpa using this
          have y2 : ∀ X : LaterOf wr, X.w.cell? ⟨b, off + j * 3 + 2, none⟩ = some (.string b2) := fun X => by
            have := hc (j) (by rw [← HL.out]; omega) 2 (.string b2) (by rw [← hy]; rfl)
            rw [X.h.cell hbr, HB.out.cell hblt]; simpa using this
          clear hc hq hx hr hy h0
          cases r
          · skip
            go_wp2_with fail
            refine wp_region_all (fun w' => ∃ x : LaterOf wr, w' = x.w) (by kernel_rfl) (by kernel_rfl) ⟨LaterOf.start wr, rfl⟩ ?_
            repeat (go_big_quiet_step (first | with_reducible exact LaterOf.call_same _ (T.out _) | with_reducible exact LaterOf.call_same _ (S.out _)))
            refine wpQuiet_nil ?_
            intro w3 hw3
            obtain ⟨X, rfl⟩ := hw3
            have H3 := Lib.hid (HB.out.trans (X.h.mono HB.out.size))
            obtain ⟨w3, hx3⟩ := X
            clear x0 x1 x2 y0 y1 y2
            go_wp2_with fail
            go_ret
            exact ⟨ret_b (tokensB_rise hkL HA.out.symm).symm, H3.out⟩
          · skip
            go_wp2_with fail
            refine wp_region_all (fun w' => ∃ x : LaterOf wr, w' = x.w) (by kernel_rfl) (by kernel_rfl) ⟨LaterOf.start wr, rfl⟩ ?_
            repeat (go_big_quiet_step (first | with_reducible exact LaterOf.call_same _ (T.out _) | with_reducible exact LaterOf.call_same _ (S.out _)))
            refine wpQuiet_nil ?_
            intro w3 hw3
            obtain ⟨X, rfl⟩ := hw3
            have H3 := Lib.hid (HB.out.trans (X.h.mono HB.out.size))
            obtain ⟨w3, hx3⟩ := X
            clear x0 x1 x2 y0 y1 y2
            go_wp2_with fail
            exact ⟨⟨j + 1 + 1, by simp, by omega, Lib.hid (HM.out.step hkL HQ.out.symm fun i hi hl => (by
              obtain rfl : i = j := by omega
              exact HA.out.symm)), H3⟩, by simp [intOf]; omega⟩
    · have ki : decide (k < n) = false := decide_eq_false (by omega)
      obtain rfl : k = n := by omega
      go_wp2_with fail
      go_ret
      refine ⟨?_, HB.out⟩
      have hm := HM.out
      rw [HL.out] at hm
      rw [tokensB_of hm, ← HL.out]
      exact ret_b (by rw [decide_eq_decide]; omega)
end Go.Proofs.YtbmknmjcoeinkaaGreat.Mk
