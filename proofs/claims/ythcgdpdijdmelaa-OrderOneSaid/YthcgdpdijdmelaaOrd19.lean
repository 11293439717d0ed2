/- THE LAWS OrderStands AND OrderLogs, walked. Conditions: the facts as they lie. (Layer 11.) -/
import Derived.Test.YthcgdpdijdmelaaOrd18
namespace Go.Proofs.Ythcgdpdijdmelaa.Ord
set_option linter.unusedVariables false
open Go.RowKit Go.Sort Go.Lib
theorem bestF_at (f : Nat → Fv) : ∀ k, ∃ i, i ≤ k ∧ bestF f k = f i
  | 0 => ⟨0, Nat.le_refl _, rfl⟩
  | k + 1 => by
    obtain ⟨i, hi, h⟩ := bestF_at f k
    unfold bestF
    split
    · exact ⟨k + 1, Nat.le_refl _, rfl⟩
    · exact ⟨i, by omega, h⟩
theorem best_strs {w : World} {ao : Option Addr} {n : Nat} {f : Nat → Fv} (h : FactsAt w ao n f) : StrsAt w (bestOf f n).pa (bestOf f n).np (bestOf f n).p := by
  unfold bestOf
  split
  · exact StrsAt.none_ _ _
  · obtain ⟨i, hi, he⟩ := bestF_at f (n - 1)
    rw [he]
    exact h.2.2 i (by omega)
theorem same_self (x : Fv) : SameF x x := ⟨rfl, rfl, rfl, fun _ _ => rfl⟩
theorem not_great {n : Nat} {f : Nat → Fv} (h : ¬ GreatF n f) : n ≤ 1000000 ∧ ∀ i, i < n → (f i).np ≤ 1000000 := by
  refine ⟨?_, fun i hi => ?_⟩
  · rcases Nat.lt_or_ge 60 n with h1 | h1
    · exact absurd (Or.inl h1) h
    · omega
  · rcases Nat.lt_or_ge 20 (f i).np with h1 | h1
    · exact absurd (Or.inr ⟨i, hi, h1⟩) h
    · omega
set_option maxRecDepth 100000 in
set_option maxHeartbeats 1000000 in
theorem stands_any (x y : Fv) (ao : Option Addr) (n cap : Nat) (f : Nat → Fv) (w : World) (hx : StrsAt w x.pa x.np x.p) (hy : StrsAt w y.pa y.np y.p) (hF : FactsAt w ao n f) :
    Calls Try.prog 3 #[.agg #[.string x.id, .int .i64 x.h, .slice x.pa x.np x.pc], .agg #[.string y.id, .int .i64 y.h, .slice y.pa y.np y.pc], .slice ao n cap] w fun e w' => e = .returned (.bool true) ∧ Below w.heap.size w w' := by
  have H0 := Lib.hid (show ∃ W, W = (w.alloc (.cells #[.string x.id, .int .i64 x.h, .slice x.pa x.np x.pc] 24)).alloc (.cells #[.string y.id, .int .i64 y.h, .slice y.pa y.np y.pc] 24) ∧ BlkIs W w.heap.size 24 #[.string x.id, .int .i64 x.h, .slice x.pa x.np x.pc] ∧ BlkIs W (w.heap.size + 1) 24 #[.string y.id, .int .i64 y.h, .slice y.pa y.np y.pc] ∧ Below w.heap.size w W from
    ⟨_, rfl, (BlkIs.new _ _ _).alloc _, BlkIs.new2 _ _ _ _, ((Below.refl _ _).alloc (Nat.le_refl _) _).alloc (by simp) _⟩)
  have HF := Lib.hid hF
  have A := Lib.hid awake
  clear hx hy hF
  go_enter Try.func3, Try.ntmps3
  go_wp2_with fail
  obtain ⟨W, hW, H0⟩ := H0.out
  rw [← hW]
  have H0 := Lib.hid H0
  clear hW
  refine (A.out W).mono ?_
  rintro e w1 ⟨rfl, hb1⟩
  have H1 := Lib.hid (And.intro (H0.out.1.below hb1 H0.out.1.lt) (And.intro (H0.out.2.1.below hb1 H0.out.2.1.lt) (H0.out.2.2.trans (hb1.mono H0.out.2.2.size))))
  clear hb1 A H0
  go_wp2_with fail
  refine (great_any ao n cap f w1 (HF.out.later H1.out.2.2)).mono ?_
  rintro e w2 ⟨rfl, rfl⟩
  by_cases hg : GreatF n f
  · rw [holds_true hg]
    clear hg
    go_wp2_with fail
    go_ret
    exact ⟨rfl, H1.out.2.2⟩
  rw [holds_false hg]
  clear hg
  have HF1 := Lib.hid (HF.out.later H1.out.2.2)
  clear HF
  obtain ⟨z, hz⟩ : ∃ z, z = bestOf f n := ⟨_, rfl⟩
  have HZ := Lib.hid hz
  have B1 := Lib.hid (best_any ao n cap f w1 HF1.out)
  have B2 := Lib.hid (fun W (h : FactsAt W ao n f) => rbest_any ao n cap f W h)
  rw [← hz] at B1 B2
  unfold factCells at B1 B2
  obtain ⟨q, hq⟩ : ∃ q, q = decide (0 < n) := ⟨_, rfl⟩
  rw [← hq] at B1 B2
  have hqq : (q == q) = true := by simp
  clear hz hq
  go_wp2_with fail
  refine B1.out.mono ?_
  rintro e w3 ⟨rfl, hb3⟩
  clear B1
  have H3 := Lib.hid (show ∃ W, W = w3.alloc (.cells #[.string z.id, .int .i64 z.h, .slice z.pa z.np z.pc] 24) ∧ BlkIs W w3.heap.size 24 #[.string z.id, .int .i64 z.h, .slice z.pa z.np z.pc] ∧ Below w1.heap.size w1 W from
    ⟨_, rfl, BlkIs.new _ _ _, hb3.alloc hb3.size _⟩)
  clear hb3
  go_wp2_with fail
  obtain ⟨W3, hW3, H3⟩ := H3.out
  rw [← hW3]
  have H3 := Lib.hid H3
  clear hW3
  refine (B2.out W3 (HF1.out.later H3.out.2)).mono ?_
  rintro e w4 ⟨rfl, hb4⟩
  clear B2
  have H4 := Lib.hid (show ∃ W, W = w4.alloc (.cells #[.string z.id, .int .i64 z.h, .slice z.pa z.np z.pc] 24) ∧ BlkIs W w4.heap.size 24 #[.string z.id, .int .i64 z.h, .slice z.pa z.np z.pc] ∧ BlkIs W w3.heap.size 24 #[.string z.id, .int .i64 z.h, .slice z.pa z.np z.pc] ∧ Below w1.heap.size w1 W from
    ⟨_, rfl, BlkIs.new _ _ _, (H3.out.1.below hb4 H3.out.1.lt).alloc _, by have h := H3.out.2.trans (hb4.mono H3.out.2.size); exact h.alloc h.size _⟩)
  clear hb4 H3
  go_upto_region 7 with (fail)
  obtain ⟨W4, hW4, H4⟩ := H4.out
  rw [← hW4]
  have H4 := Lib.hid H4
  clear hW4
  obtain ⟨c, hc⟩ : ∃ c, c = cmpF x y := ⟨_, rfl⟩
  have C1 := Lib.hid (fun u : LaterOf W4 => compare_below x y u.w)
  have C2 := Lib.hid (fun u : LaterOf W4 => ref_compare x y u.w)
  have C3 := Lib.hid (fun u : LaterOf W4 => by
    have h := best_strs (HF1.out.later (H4.out.2.2.trans (u.h.mono H4.out.2.2.size)))
    rw [← HZ.out] at h
    have := same_any z z u.w h h
    rw [holds_true (same_self z)] at this
    exact this)
  rw [← hc] at C1 C2
  have hcc : (c == c) = true := by simp
  have b0 := H1.out.1.below H4.out.2.2 H1.out.1.lt
  have b1 := H1.out.2.1.below H4.out.2.2 H1.out.2.1.lt
  have x0 : ∀ u : LaterOf W4, u.w.cell? ⟨w.heap.size, 0, none⟩ = some (.string x.id) := fun u => (u.blk b0).cell 0
  have x1 : ∀ u : LaterOf W4, u.w.cell? ⟨w.heap.size, 1, none⟩ = some (.int .i64 x.h) := fun u => (u.blk b0).cell 1
  have x2 : ∀ u : LaterOf W4, u.w.cell? ⟨w.heap.size, 2, none⟩ = some (.slice x.pa x.np x.pc) := fun u => (u.blk b0).cell 2
  have y0 : ∀ u : LaterOf W4, u.w.cell? ⟨w.heap.size + 1, 0, none⟩ = some (.string y.id) := fun u => (u.blk b1).cell 0
  have y1 : ∀ u : LaterOf W4, u.w.cell? ⟨w.heap.size + 1, 1, none⟩ = some (.int .i64 y.h) := fun u => (u.blk b1).cell 1
  have y2 : ∀ u : LaterOf W4, u.w.cell? ⟨w.heap.size + 1, 2, none⟩ = some (.slice y.pa y.np y.pc) := fun u => (u.blk b1).cell 2
  have z0 : ∀ u : LaterOf W4, u.w.cell? ⟨w3.heap.size, 0, none⟩ = some (.string z.id) := fun u => (u.blk H4.out.2.1).cell 0
  have z1 : ∀ u : LaterOf W4, u.w.cell? ⟨w3.heap.size, 1, none⟩ = some (.int .i64 z.h) := fun u => (u.blk H4.out.2.1).cell 1
  have z2 : ∀ u : LaterOf W4, u.w.cell? ⟨w3.heap.size, 2, none⟩ = some (.slice z.pa z.np z.pc) := fun u => (u.blk H4.out.2.1).cell 2
  have v0 : ∀ u : LaterOf W4, u.w.cell? ⟨w4.heap.size, 0, none⟩ = some (.string z.id) := fun u => (u.blk H4.out.1).cell 0
  have v1 : ∀ u : LaterOf W4, u.w.cell? ⟨w4.heap.size, 1, none⟩ = some (.int .i64 z.h) := fun u => (u.blk H4.out.1).cell 1
  have v2 : ∀ u : LaterOf W4, u.w.cell? ⟨w4.heap.size, 2, none⟩ = some (.slice z.pa z.np z.pc) := fun u => (u.blk H4.out.1).cell 2
  clear hc b0 b1
  refine wp_region_all (fun w' => ∃ u : LaterOf W4, w' = u.w) (by kernel_rfl) (by kernel_rfl) ⟨LaterOf.start W4, rfl⟩ ?_
  repeat (go_big_quiet_step (first | exact LaterOf.call _ (C1.out _) | exact LaterOf.call _ (C2.out _) | exact LaterOf.call _ (C3.out _)))
  refine wpQuiet_nil ?_
  intro w8 hw8
  obtain ⟨u, rfl⟩ := hw8
  clear C1 C2 C3 x0 x1 x2 y0 y1 y2 z0 z1 z2 v0 v1 v2
  go_wp2_with fail
  go_ret
  have h1 := H1.out.2.2.trans (H4.out.2.2.mono H1.out.2.2.size)
  exact ⟨rfl, h1.trans (u.h.mono h1.size)⟩
theorem base_same {n : Nat} {f : Nat → Fv} {a b : ByteArray} {w w1 u u1 : World} {e1 e2 : Ending} (h1 : BaseOut n f a b w w1 e1) (h2 : BaseOut n f a b u u1 e2) :
    ∃ (s : ByteArray) (c : Int), e1 = .returned (.tuple #[.string s, .int .i64 c]) ∧ e2 = .returned (.tuple #[.string s, .int .i64 c]) := by
  obtain ⟨_, c, L, hL, h1⟩ := h1
  obtain ⟨_, c', L', hL', h2⟩ := h2
  obtain ⟨rfl, rfl⟩ := log_unique hL hL'
  rcases h1 with ⟨hc, rfl⟩ | ⟨rfl, d, M, hM, h1⟩
  · rcases h2 with ⟨_, rfl⟩ | ⟨rfl, _⟩
    · exact ⟨_, _, rfl, rfl⟩
    · exact absurd rfl hc
  · rcases h2 with ⟨hc, _⟩ | ⟨_, d', M', hM', h2⟩
    · exact absurd rfl hc
    obtain ⟨rfl, rfl⟩ := log_unique hM hM'
    rcases h1 with ⟨hd, rfl⟩ | ⟨rfl, rfl⟩
    · rcases h2 with ⟨_, rfl⟩ | ⟨rfl, _⟩
      · exact ⟨_, _, rfl, rfl⟩
      · exact absurd rfl hd
    · rcases h2 with ⟨hd, _⟩ | ⟨_, rfl⟩
      · exact absurd rfl hd
      · exact ⟨_, _, rfl, rfl⟩
set_option maxRecDepth 100000 in
set_option maxHeartbeats 1000000 in
theorem logs_any (ao : Option Addr) (n cap : Nat) (f : Nat → Fv) (a b : ByteArray) (w : World) (hF : FactsAt w ao n f) :
    Calls Try.prog 4 #[.slice ao n cap, .string a, .string b] w fun e w' => e = .returned (.bool true) ∧ Below w.heap.size w w' := by
  have HF := Lib.hid hF
  have A := Lib.hid awake
  clear hF
  go_enter Try.func4, Try.ntmps4
  go_wp2_with fail
  refine (A.out w).mono ?_
  rintro e w1 ⟨rfl, hb1⟩
  have H1 := Lib.hid (And.intro (HF.out.later hb1) hb1)
  clear hb1 A HF
  go_wp2_with fail
  refine (great_any ao n cap f w1 H1.out.1).mono ?_
  rintro e w2 ⟨rfl, rfl⟩
  by_cases hg : GreatF n f
  · rw [holds_true hg]
    clear hg
    go_wp2_with fail
    go_ret
    exact ⟨rfl, H1.out.2⟩
  rw [holds_false hg]
  have HG := Lib.hid (not_great hg)
  clear hg
  go_wp2_with fail
  refine (heights_any ao n cap f w1 H1.out.1).mono ?_
  rintro e w2 ⟨rfl, rfl⟩
  by_cases hh : HighF n f
  case neg =>
    rw [holds_false hh]
    clear hh
    go_wp2_with fail
    go_ret
    exact ⟨rfl, H1.out.2⟩
  rw [holds_true hh]
  clear hh
  go_wp2_with fail
  refine (log_any ao n cap f a w1 H1.out.1 HG.out.1 HG.out.2).mono ?_
  rintro e w2 ⟨c, L, ao2, cap2, rfl, hL, hS, hb2⟩
  have H2 := Lib.hid (And.intro (H1.out.1.later hb2) (And.intro hS (And.intro hL (H1.out.2.trans (hb2.mono H1.out.2.size)))))
  clear hL hS hb2 H1
  go_wp2_with fail
  refine (rlog_any ao n cap f a w2 H2.out.1 HG.out.1 HG.out.2).mono ?_
  rintro e w3 ⟨c', L', ao3, cap3, rfl, hL, hS, hb3⟩
  obtain ⟨rfl, rfl⟩ := log_unique H2.out.2.2.1 hL
  have T := Lib.hid (texts_any ao2 L.length cap2 (fun i => L[i]!) ao3 L.length cap3 (fun i => L[i]!) w3 (H2.out.2.1.later hb3) hS)
  rw [holds_true (p := SameTexts _ _ _ _) ⟨rfl, fun _ _ => rfl⟩] at T
  have H3 := Lib.hid (And.intro (H2.out.1.later hb3) (H2.out.2.2.2.trans (hb3.mono H2.out.2.2.2.size)))
  have hcc : (c != c) = false := by simp
  have hcc' : (c == c) = true := by simp
  clear hL hS hb3 H2
  go_wp2_with fail
  refine T.out.mono ?_
  rintro e w4 ⟨rfl, hb4⟩
  have H4 := Lib.hid (And.intro (H3.out.1.later hb4) (H3.out.2.trans (hb4.mono H3.out.2.size)))
  clear hb4 H3 T
  go_wp2_with fail
  refine (above_any ao n cap f a b w4 H4.out.1 HG.out.1 HG.out.2).mono ?_
  rintro e w5 ⟨d, M, rfl, hM, hb5⟩
  have H5 := Lib.hid (And.intro (H4.out.1.later hb5) (And.intro hM (H4.out.2.trans (hb5.mono H4.out.2.size))))
  obtain ⟨r, hr⟩ : ∃ r, r = holds (a ≠ b ∧ b ∈ M) := ⟨_, rfl⟩
  rw [← hr]
  have HR := Lib.hid hr
  clear hM hb5 H4 hr
  go_wp2_with fail
  refine (rabove_any ao n cap f a b w5 H5.out.1 HG.out.1 HG.out.2).mono ?_
  rintro e w6 ⟨d', M', rfl, hM, hb6⟩
  obtain ⟨rfl, rfl⟩ := log_unique H5.out.2.1 hM
  rw [← HR.out]
  have H6 := Lib.hid (And.intro (H5.out.1.later hb6) (H5.out.2.2.trans (hb6.mono H5.out.2.2.size)))
  have hdd : (d != d) = false := by simp
  have hrr : (r != r) = false := by simp
  clear hM hb6 H5 HR
  go_wp2_with fail
  refine (base_any ao n cap f a b w6 H6.out.1 HG.out.1 HG.out.2).mono ?_
  intro e w7 hB
  have H7 := Lib.hid (And.intro (H6.out.1.later hB.1) (H6.out.2.trans (hB.1.mono H6.out.2.size)))
  obtain ⟨s, k, rfl, _⟩ := base_same hB hB
  have HB := Lib.hid hB
  clear hB H6
  go_wp2_with fail
  refine (rbase_any ao n cap f a b w7 H7.out.1 HG.out.1 HG.out.2).mono ?_
  intro e w8 hB
  have H8 := Lib.hid (H7.out.2.trans (hB.1.mono H7.out.2.size))
  obtain ⟨s', k', he, rfl⟩ := base_same HB.out hB
  obtain ⟨rfl, rfl⟩ : s = s' ∧ k = k' := by
    injection he with he
    injection he with he
    simpa using he
  have hss : (s.toList == s.toList) = true := by simp
  have hkk : (k == k) = true := by simp
  clear hB HB he H7
  go_wp2_with fail
  go_ret
  exact ⟨rfl, H8.out⟩
end Go.Proofs.Ythcgdpdijdmelaa.Ord
