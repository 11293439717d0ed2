/- THE LAW OrderOne, walked: the order is one. Conditions: the facts as they lie. (Layer 11.) -/
import Derived.Test.YthcgdpdijdmelaaOrd19
namespace Go.Proofs.Ythcgdpdijdmelaa.Ord
set_option linter.unusedVariables false
open Go.RowKit Go.Sort Go.Lib
theorem cmp_le_trans {x y z : Fv} (h1 : cmpF x y ≤ 0) (h2 : cmpF y z ≤ 0) : ¬ cmpF x z > 0 := by
  intro h3
  have h4 : lowF z x := (cmp_neg _ _).1 (by rw [cmp_anti]; omega)
  have a1 : lowF x y ∨ (x.h = y.h ∧ x.id = y.id) := by
    rcases Int.lt_or_le (cmpF x y) 0 with h | h
    · exact Or.inl ((cmp_neg _ _).1 h)
    · exact Or.inr ((cmp_zero _ _).1 (by omega))
  have a2 : lowF y z ∨ (y.h = z.h ∧ y.id = z.id) := by
    rcases Int.lt_or_le (cmpF y z) 0 with h | h
    · exact Or.inl ((cmp_neg _ _).1 h)
    · exact Or.inr ((cmp_zero _ _).1 (by omega))
  have e : ∀ {p q r : Fv}, p.h = q.h → p.id = q.id → lowF r p → lowF r q := by
    intro p q r e1 e2 h
    unfold lowF at *
    rw [← e1, ← e2]; exact h
  rcases a1 with a1 | ⟨e1, e2⟩ <;> rcases a2 with a2 | ⟨e3, e4⟩
  · exact low_irrefl _ (low_trans (low_trans a1 a2) h4)
  · have h5 : lowF y x := by
      rcases h4 with h | ⟨h, h'⟩
      · exact Or.inl (by omega)
      · exact Or.inr ⟨by omega, by rw [e4]; exact h'⟩
    exact low_irrefl _ (low_trans a1 h5)
  · exact low_irrefl _ (low_trans (e e1 e2 h4) a2)
  · have h5 := e e1 e2 h4
    exact low_irrefl _ (e e3 e4 h5)
theorem bestF_max (f : Nat → Fv) : ∀ k j, j ≤ k → ¬ cmpF (f j) (bestF f k) > 0
  | 0, j, h => by
    obtain rfl : j = 0 := by omega
    show ¬ cmpF (f 0) (f 0) > 0
    rw [(cmp_zero _ _).2 ⟨rfl, rfl⟩]
    decide
  | k + 1, j, h => by
    unfold bestF
    split
    · next hc =>
      rcases Nat.lt_or_ge k j with h1 | h1
      · obtain rfl : j = k + 1 := by omega
        rw [(cmp_zero _ _).2 ⟨rfl, rfl⟩]
        decide
      · have h2 := bestF_max f k j h1
        refine cmp_le_trans (y := bestF f k) (by omega) ?_
        have := cmp_anti (f (k + 1)) (bestF f k)
        omega
    · next hc =>
      rcases Nat.lt_or_ge k j with h1 | h1
      · obtain rfl : j = k + 1 := by omega
        exact hc
      · exact bestF_max f k j h1
theorem cmp_three (x y : Fv) : cmpF x y = -1 ∨ cmpF x y = 0 ∨ cmpF x y = 1 := by
  rw [cmp_val]
  split
  · exact Or.inl rfl
  · split
    · exact Or.inr (Or.inr rfl)
    · split
      · exact Or.inr (Or.inl rfl)
      · split
        · exact Or.inl rfl
        · exact Or.inr (Or.inr rfl)
/-- Three facts as they lie, from a world on. -/
def Lie3 (Wb : World) (b1 b2 b3 : Nat) (x y z : Fv) : Prop :=
  ∀ W', Below Wb.heap.size Wb W' → (W'.cell? ⟨b1, 0, none⟩ = some (.string x.id) ∧ W'.cell? ⟨b1, 1, none⟩ = some (.int .i64 x.h) ∧ W'.cell? ⟨b1, 2, none⟩ = some (.slice x.pa x.np x.pc)) ∧
    (W'.cell? ⟨b2, 0, none⟩ = some (.string y.id) ∧ W'.cell? ⟨b2, 1, none⟩ = some (.int .i64 y.h) ∧ W'.cell? ⟨b2, 2, none⟩ = some (.slice y.pa y.np y.pc)) ∧
    (W'.cell? ⟨b3, 0, none⟩ = some (.string z.id) ∧ W'.cell? ⟨b3, 1, none⟩ = some (.int .i64 z.h) ∧ W'.cell? ⟨b3, 2, none⟩ = some (.slice z.pa z.np z.pc))
theorem Lie3.mk {Wb : World} {b1 b2 b3 : Nat} {x y z : Fv} (h1 : BlkIs Wb b1 24 (factCells x)) (h2 : BlkIs Wb b2 24 (factCells y)) (h3 : BlkIs Wb b3 24 (factCells z)) : Lie3 Wb b1 b2 b3 x y z := fun W' hb => by
  have k1 := h1.below hb h1.lt
  have k2 := h2.below hb h2.lt
  have k3 := h3.below hb h3.lt
  exact ⟨⟨k1.cell 0, k1.cell 1, k1.cell 2⟩, ⟨k2.cell 0, k2.cell 1, k2.cell 2⟩, ⟨k3.cell 0, k3.cell 1, k3.cell 2⟩⟩

set_option maxRecDepth 100000 in
set_option maxHeartbeats 2000000 in
theorem one_zero (x y : Fv) (ao : Option Addr) (n cap : Nat) (f : Nat → Fv) (w : World) (hn : n = 0) (hF : FactsAt w ao n f) :
    Calls Try.prog 5 #[.agg #[.string x.id, .int .i64 x.h, .slice x.pa x.np x.pc], .agg #[.string y.id, .int .i64 y.h, .slice y.pa y.np y.pc], .slice ao n cap] w fun e w' => e = .returned (.bool true) ∧ Below w.heap.size w w' := by
  have H0 := Lib.hid (show ∃ W, W = (w.alloc (.cells #[.string x.id, .int .i64 x.h, .slice x.pa x.np x.pc] 24)).alloc (.cells #[.string y.id, .int .i64 y.h, .slice y.pa y.np y.pc] 24) ∧ BlkIs W w.heap.size 24 (factCells x) ∧ BlkIs W (w.heap.size + 1) 24 (factCells y) ∧ Below w.heap.size w W from
    ⟨_, rfl, (BlkIs.new _ _ _).alloc _, BlkIs.new2 _ _ _ _, ((Below.refl _ _).alloc (Nat.le_refl _) _).alloc (by simp) _⟩)
  have HF := Lib.hid hF
  have A := Lib.hid awake
  subst hn
  clear hF
  go_enter Try.func5, Try.ntmps5
  go_wp2_with fail
  obtain ⟨W, hW, H0⟩ := H0.out
  rw [← hW]
  have H0 := Lib.hid H0
  clear hW
  refine (A.out W).mono ?_
  rintro e w1 ⟨rfl, hb1⟩
  have H1 := Lib.hid (And.intro (H0.out.1.below hb1 H0.out.1.lt) (And.intro (H0.out.2.1.below hb1 H0.out.2.1.lt) (H0.out.2.2.trans (hb1.mono H0.out.2.2.size))))
  clear hb1 A H0
  go_wp2_with fail
  refine (great_any ao 0 cap f w1 (HF.out.later H1.out.2.2)).mono ?_
  rintro e w2 ⟨rfl, rfl⟩
  by_cases hg : GreatF 0 f
  · rw [holds_true hg]
    clear hg
    go_wp2_with fail
    go_ret
    exact ⟨rfl, H1.out.2.2⟩
  rw [holds_false hg]
  clear hg
  have HF1 := Lib.hid (HF.out.later H1.out.2.2)
  clear HF
  obtain ⟨c, hc⟩ : ∃ c, c = cmpF x y := ⟨_, rfl⟩
  have C1 := Lib.hid (fun W => compare_below x y W)
  have C2 := Lib.hid (fun W => compare_below y x W)
  obtain ⟨d, hd⟩ : ∃ d, d = cmpF y x := ⟨_, rfl⟩
  rw [← hc] at C1
  rw [← hd] at C2
  have HC := Lib.hid hc
  have HD := Lib.hid (show wrap64 (-d) = c ∧ (c != c) = false from ⟨by rw [hd, cmp_anti, ← hc]; rcases cmp_three x y with h | h | h <;> rw [← hc] at h <;> rw [h] <;> decide +kernel, by simp⟩)
  have HZ := Lib.hid (show (x.h = y.h ∧ x.id = y.id) ↔ c = 0 from by rw [hc]; exact (cmp_zero x y).symm)
  have X0 : w1.cell? ⟨w.heap.size, 0, none⟩ = some (.string x.id) := H1.out.1.cell 0
  have X1 : w1.cell? ⟨w.heap.size, 1, none⟩ = some (.int .i64 x.h) := H1.out.1.cell 1
  have X2 : w1.cell? ⟨w.heap.size, 2, none⟩ = some (.slice x.pa x.np x.pc) := H1.out.1.cell 2
  have Y0 : w1.cell? ⟨w.heap.size + 1, 0, none⟩ = some (.string y.id) := H1.out.2.1.cell 0
  have Y1 : w1.cell? ⟨w.heap.size + 1, 1, none⟩ = some (.int .i64 y.h) := H1.out.2.1.cell 1
  have Y2 : w1.cell? ⟨w.heap.size + 1, 2, none⟩ = some (.slice y.pa y.np y.pc) := H1.out.2.1.cell 2
  clear hc hd
  go_wp2_with fail
  refine (C1.out w1).mono ?_
  rintro e w3 ⟨rfl, hb3⟩
  have H3 := Lib.hid (And.intro (H1.out.1.below hb3 H1.out.1.lt) (And.intro (H1.out.2.1.below hb3 H1.out.2.1.lt) (And.intro (H1.out.2.2.trans (hb3.mono H1.out.2.2.size)) (HF1.out.later hb3))))
  have X0 : w3.cell? ⟨w.heap.size, 0, none⟩ = some (.string x.id) := H3.out.1.cell 0
  have X1 : w3.cell? ⟨w.heap.size, 1, none⟩ = some (.int .i64 x.h) := H3.out.1.cell 1
  have X2 : w3.cell? ⟨w.heap.size, 2, none⟩ = some (.slice x.pa x.np x.pc) := H3.out.1.cell 2
  have Y0 : w3.cell? ⟨w.heap.size + 1, 0, none⟩ = some (.string y.id) := H3.out.2.1.cell 0
  have Y1 : w3.cell? ⟨w.heap.size + 1, 1, none⟩ = some (.int .i64 y.h) := H3.out.2.1.cell 1
  have Y2 : w3.cell? ⟨w.heap.size + 1, 2, none⟩ = some (.slice y.pa y.np y.pc) := H3.out.2.1.cell 2
  clear hb3 C1 HF1 H1
  go_upto_region 6 with (fail)
  go_cut [42] from 20 to 42 (fun s wx => s = .bool false ∧ Hid (Below w3.heap.size w3 wx))
  case first =>
    have hdc := HD.out.1
    have hcc := HD.out.2
    by_cases hh : x.h = y.h
    · have h1 : (x.h == y.h) = true := by simpa using hh
      by_cases hi : x.id = y.id
      · have h2 : (x.id.toList == y.id.toList) = true := by rw [hi]; simp
        have hc0 : c = 0 := HZ.out.1 ⟨hh, hi⟩
        have h3 : (c == 0) = true := by simpa using hc0
        clear hh hi hc0
        go_wp2_with fail
        refine (C2.out w3).mono ?_
        rintro e w4 ⟨rfl, hb4⟩
        have HB := Lib.hid hb4
        have k1 := H3.out.1.below hb4 H3.out.1.lt
        have k2 := H3.out.2.1.below hb4 H3.out.2.1.lt
        have X0 : w4.cell? ⟨w.heap.size, 0, none⟩ = some (.string x.id) := k1.cell 0
        have X1 : w4.cell? ⟨w.heap.size, 1, none⟩ = some (.int .i64 x.h) := k1.cell 1
        have Y0 : w4.cell? ⟨w.heap.size + 1, 0, none⟩ = some (.string y.id) := k2.cell 0
        have Y1 : w4.cell? ⟨w.heap.size + 1, 1, none⟩ = some (.int .i64 y.h) := k2.cell 1
        clear hb4 k1 k2
        go_wp2_with fail
        go_meet
        case rel => exact ⟨rfl, HB⟩
      · have h2 := ne_list hi
        have hc0 : ¬ c = 0 := fun h => hi (HZ.out.2 h).2
        have h3 : (c == 0) = false := by simpa using hc0
        clear hh hi hc0
        go_wp2_with fail
        refine (C2.out w3).mono ?_
        rintro e w4 ⟨rfl, hb4⟩
        have HB := Lib.hid hb4
        have k1 := H3.out.1.below hb4 H3.out.1.lt
        have k2 := H3.out.2.1.below hb4 H3.out.2.1.lt
        have X0 : w4.cell? ⟨w.heap.size, 0, none⟩ = some (.string x.id) := k1.cell 0
        have X1 : w4.cell? ⟨w.heap.size, 1, none⟩ = some (.int .i64 x.h) := k1.cell 1
        have Y0 : w4.cell? ⟨w.heap.size + 1, 0, none⟩ = some (.string y.id) := k2.cell 0
        have Y1 : w4.cell? ⟨w.heap.size + 1, 1, none⟩ = some (.int .i64 y.h) := k2.cell 1
        clear hb4 k1 k2
        go_wp2_with fail
        go_meet
        case rel => exact ⟨rfl, HB⟩
    · have h1 : (x.h == y.h) = false := by simpa using hh
      have hc0 : ¬ c = 0 := fun h => hh (HZ.out.2 h).1
      have h3 : (c == 0) = false := by simpa using hc0
      clear hh hc0
      go_wp2_with fail
      refine (C2.out w3).mono ?_
      rintro e w4 ⟨rfl, hb4⟩
      have HB := Lib.hid hb4
      have k1 := H3.out.1.below hb4 H3.out.1.lt
      have k2 := H3.out.2.1.below hb4 H3.out.2.1.lt
      have X0 : w4.cell? ⟨w.heap.size, 0, none⟩ = some (.string x.id) := k1.cell 0
      have X1 : w4.cell? ⟨w.heap.size, 1, none⟩ = some (.int .i64 x.h) := k1.cell 1
      have Y0 : w4.cell? ⟨w.heap.size + 1, 0, none⟩ = some (.string y.id) := k2.cell 0
      have Y1 : w4.cell? ⟨w.heap.size + 1, 1, none⟩ = some (.int .i64 y.h) := k2.cell 1
      clear hb4 k1 k2
      go_wp2_with fail
      go_meet
      case rel => exact ⟨rfl, HB⟩
  case rest =>
    obtain ⟨rfl, hcb⟩ := hcut
    have HF3 := Lib.hid (H3.out.2.2.2.later hcb.out)
    have B1 := Lib.hid (best_any ao 0 cap f wc HF3.out)
    obtain ⟨z, hz⟩ : ∃ z, z = bestOf f 0 := ⟨_, rfl⟩
    rw [← hz] at B1
    rw [show decide (0 < 0) = false from rfl] at B1
    unfold factCells at B1
    have HZZ := Lib.hid hz
    clear C2 HD HZ X0 X1 X2 Y0 Y1 Y2 hz
    go_wp2_with fail
    refine B1.out.mono ?_
    rintro e w5 ⟨rfl, hb5⟩
    have H5 := Lib.hid (show ∃ W, W = w5.alloc (.cells #[.string z.id, .int .i64 z.h, .slice z.pa z.np z.pc] 24) ∧ Lie3 W w.heap.size (w.heap.size + 1) w5.heap.size x y z ∧ Below w.heap.size w W ∧ FactsAt W ao 0 f from by
      have h1 := hcb.out.trans (hb5.mono hcb.out.size)
      have h2 := h1.alloc h1.size (.cells #[.string z.id, .int .i64 z.h, .slice z.pa z.np z.pc] 24)
      exact ⟨_, rfl, Lie3.mk (H3.out.1.below h2 H3.out.1.lt) (H3.out.2.1.below h2 H3.out.2.1.lt) (BlkIs.new _ _ _), H3.out.2.2.1.trans (h2.mono H3.out.2.2.1.size), H3.out.2.2.2.later h2⟩)
    clear hb5 B1
    go_wp2_with fail
    obtain ⟨Wb, hWb, H5⟩ := H5.out
    rw [← hWb]
    have H5 := Lib.hid H5
    clear hWb

    go_loopw [10, 11] (fun s i wr => s = .bool true ∧ i = .int .i64 0 ∧ Wb = wr) (fun _ i _ => 0)
    case atStart => exact ⟨rfl, rfl, rfl⟩
    case round =>
      obtain ⟨rfl, rfl, rfl⟩ := hrel
      go_wp2_with fail
      go_ret
      exact ⟨rfl, H5.out.2.1⟩
set_option maxRecDepth 100000 in
set_option maxHeartbeats 2000000 in
theorem one_pos (x y : Fv) (ao : Option Addr) (n cap : Nat) (f : Nat → Fv) (w : World) (hn : 0 < n) (hF : FactsAt w ao n f) :
    Calls Try.prog 5 #[.agg #[.string x.id, .int .i64 x.h, .slice x.pa x.np x.pc], .agg #[.string y.id, .int .i64 y.h, .slice y.pa y.np y.pc], .slice ao n cap] w fun e w' => e = .returned (.bool true) ∧ Below w.heap.size w w' := by
  have H0 := Lib.hid (show ∃ W, W = (w.alloc (.cells #[.string x.id, .int .i64 x.h, .slice x.pa x.np x.pc] 24)).alloc (.cells #[.string y.id, .int .i64 y.h, .slice y.pa y.np y.pc] 24) ∧ BlkIs W w.heap.size 24 (factCells x) ∧ BlkIs W (w.heap.size + 1) 24 (factCells y) ∧ Below w.heap.size w W from
    ⟨_, rfl, (BlkIs.new _ _ _).alloc _, BlkIs.new2 _ _ _ _, ((Below.refl _ _).alloc (Nat.le_refl _) _).alloc (by simp) _⟩)
  have HF := Lib.hid hF
  have A := Lib.hid awake
  clear hF
  go_enter Try.func5, Try.ntmps5
  go_wp2_with fail
  obtain ⟨W, hW, H0⟩ := H0.out
  rw [← hW]
  have H0 := Lib.hid H0
  clear hW
  refine (A.out W).mono ?_
  rintro e w1 ⟨rfl, hb1⟩
  have H1 := Lib.hid (And.intro (H0.out.1.below hb1 H0.out.1.lt) (And.intro (H0.out.2.1.below hb1 H0.out.2.1.lt) (H0.out.2.2.trans (hb1.mono H0.out.2.2.size))))
  clear hb1 A H0
  go_wp2_with fail
  refine (great_any ao n cap f w1 (HF.out.later H1.out.2.2)).mono ?_
  rintro e w2 ⟨rfl, rfl⟩
  by_cases hg : GreatF n f
  · rw [holds_true hg]
    clear hg
    go_wp2_with fail
    go_ret
    exact ⟨rfl, H1.out.2.2⟩
  rw [holds_false hg]
  clear hg
  have HF1 := Lib.hid (HF.out.later H1.out.2.2)
  clear HF
  obtain ⟨c, hc⟩ : ∃ c, c = cmpF x y := ⟨_, rfl⟩
  have C1 := Lib.hid (fun W => compare_below x y W)
  have C2 := Lib.hid (fun W => compare_below y x W)
  obtain ⟨d, hd⟩ : ∃ d, d = cmpF y x := ⟨_, rfl⟩
  rw [← hc] at C1
  rw [← hd] at C2
  have HC := Lib.hid hc
  have HD := Lib.hid (show wrap64 (-d) = c ∧ (c != c) = false from ⟨by rw [hd, cmp_anti, ← hc]; rcases cmp_three x y with h | h | h <;> rw [← hc] at h <;> rw [h] <;> decide +kernel, by simp⟩)
  have HZ := Lib.hid (show (x.h = y.h ∧ x.id = y.id) ↔ c = 0 from by rw [hc]; exact (cmp_zero x y).symm)
  have X0 : w1.cell? ⟨w.heap.size, 0, none⟩ = some (.string x.id) := H1.out.1.cell 0
  have X1 : w1.cell? ⟨w.heap.size, 1, none⟩ = some (.int .i64 x.h) := H1.out.1.cell 1
  have X2 : w1.cell? ⟨w.heap.size, 2, none⟩ = some (.slice x.pa x.np x.pc) := H1.out.1.cell 2
  have Y0 : w1.cell? ⟨w.heap.size + 1, 0, none⟩ = some (.string y.id) := H1.out.2.1.cell 0
  have Y1 : w1.cell? ⟨w.heap.size + 1, 1, none⟩ = some (.int .i64 y.h) := H1.out.2.1.cell 1
  have Y2 : w1.cell? ⟨w.heap.size + 1, 2, none⟩ = some (.slice y.pa y.np y.pc) := H1.out.2.1.cell 2
  clear hc hd
  go_wp2_with fail
  refine (C1.out w1).mono ?_
  rintro e w3 ⟨rfl, hb3⟩
  have H3 := Lib.hid (And.intro (H1.out.1.below hb3 H1.out.1.lt) (And.intro (H1.out.2.1.below hb3 H1.out.2.1.lt) (And.intro (H1.out.2.2.trans (hb3.mono H1.out.2.2.size)) (HF1.out.later hb3))))
  have X0 : w3.cell? ⟨w.heap.size, 0, none⟩ = some (.string x.id) := H3.out.1.cell 0
  have X1 : w3.cell? ⟨w.heap.size, 1, none⟩ = some (.int .i64 x.h) := H3.out.1.cell 1
  have X2 : w3.cell? ⟨w.heap.size, 2, none⟩ = some (.slice x.pa x.np x.pc) := H3.out.1.cell 2
  have Y0 : w3.cell? ⟨w.heap.size + 1, 0, none⟩ = some (.string y.id) := H3.out.2.1.cell 0
  have Y1 : w3.cell? ⟨w.heap.size + 1, 1, none⟩ = some (.int .i64 y.h) := H3.out.2.1.cell 1
  have Y2 : w3.cell? ⟨w.heap.size + 1, 2, none⟩ = some (.slice y.pa y.np y.pc) := H3.out.2.1.cell 2
  clear hb3 C1 HF1 H1
  go_upto_region 6 with (fail)
  go_cut [42] from 20 to 42 (fun s wx => s = .bool false ∧ Hid (Below w3.heap.size w3 wx))
  case first =>
    have hdc := HD.out.1
    have hcc := HD.out.2
    by_cases hh : x.h = y.h
    · have h1 : (x.h == y.h) = true := by simpa using hh
      by_cases hi : x.id = y.id
      · have h2 : (x.id.toList == y.id.toList) = true := by rw [hi]; simp
        have hc0 : c = 0 := HZ.out.1 ⟨hh, hi⟩
        have h3 : (c == 0) = true := by simpa using hc0
        clear hh hi hc0
        go_wp2_with fail
        refine (C2.out w3).mono ?_
        rintro e w4 ⟨rfl, hb4⟩
        have HB := Lib.hid hb4
        have k1 := H3.out.1.below hb4 H3.out.1.lt
        have k2 := H3.out.2.1.below hb4 H3.out.2.1.lt
        have X0 : w4.cell? ⟨w.heap.size, 0, none⟩ = some (.string x.id) := k1.cell 0
        have X1 : w4.cell? ⟨w.heap.size, 1, none⟩ = some (.int .i64 x.h) := k1.cell 1
        have Y0 : w4.cell? ⟨w.heap.size + 1, 0, none⟩ = some (.string y.id) := k2.cell 0
        have Y1 : w4.cell? ⟨w.heap.size + 1, 1, none⟩ = some (.int .i64 y.h) := k2.cell 1
        clear hb4 k1 k2
        go_wp2_with fail
        go_meet
        case rel => exact ⟨rfl, HB⟩
      · have h2 := ne_list hi
        have hc0 : ¬ c = 0 := fun h => hi (HZ.out.2 h).2
        have h3 : (c == 0) = false := by simpa using hc0
        clear hh hi hc0
        go_wp2_with fail
        refine (C2.out w3).mono ?_
        rintro e w4 ⟨rfl, hb4⟩
        have HB := Lib.hid hb4
        have k1 := H3.out.1.below hb4 H3.out.1.lt
        have k2 := H3.out.2.1.below hb4 H3.out.2.1.lt
        have X0 : w4.cell? ⟨w.heap.size, 0, none⟩ = some (.string x.id) := k1.cell 0
        have X1 : w4.cell? ⟨w.heap.size, 1, none⟩ = some (.int .i64 x.h) := k1.cell 1
        have Y0 : w4.cell? ⟨w.heap.size + 1, 0, none⟩ = some (.string y.id) := k2.cell 0
        have Y1 : w4.cell? ⟨w.heap.size + 1, 1, none⟩ = some (.int .i64 y.h) := k2.cell 1
        clear hb4 k1 k2
        go_wp2_with fail
        go_meet
        case rel => exact ⟨rfl, HB⟩
    · have h1 : (x.h == y.h) = false := by simpa using hh
      have hc0 : ¬ c = 0 := fun h => hh (HZ.out.2 h).1
      have h3 : (c == 0) = false := by simpa using hc0
      clear hh hc0
      go_wp2_with fail
      refine (C2.out w3).mono ?_
      rintro e w4 ⟨rfl, hb4⟩
      have HB := Lib.hid hb4
      have k1 := H3.out.1.below hb4 H3.out.1.lt
      have k2 := H3.out.2.1.below hb4 H3.out.2.1.lt
      have X0 : w4.cell? ⟨w.heap.size, 0, none⟩ = some (.string x.id) := k1.cell 0
      have X1 : w4.cell? ⟨w.heap.size, 1, none⟩ = some (.int .i64 x.h) := k1.cell 1
      have Y0 : w4.cell? ⟨w.heap.size + 1, 0, none⟩ = some (.string y.id) := k2.cell 0
      have Y1 : w4.cell? ⟨w.heap.size + 1, 1, none⟩ = some (.int .i64 y.h) := k2.cell 1
      clear hb4 k1 k2
      go_wp2_with fail
      go_meet
      case rel => exact ⟨rfl, HB⟩
  case rest =>
    obtain ⟨rfl, hcb⟩ := hcut
    have HF3 := Lib.hid (H3.out.2.2.2.later hcb.out)
    have B1 := Lib.hid (best_any ao n cap f wc HF3.out)
    obtain ⟨z, hz⟩ : ∃ z, z = bestOf f n := ⟨_, rfl⟩
    rw [← hz] at B1
    rw [show decide (0 < n) = true from decide_eq_true hn] at B1
    unfold factCells at B1
    have HZZ := Lib.hid hz
    clear C2 HD HZ X0 X1 X2 Y0 Y1 Y2 hz
    go_wp2_with fail
    refine B1.out.mono ?_
    rintro e w5 ⟨rfl, hb5⟩
    have H5 := Lib.hid (show ∃ W, W = w5.alloc (.cells #[.string z.id, .int .i64 z.h, .slice z.pa z.np z.pc] 24) ∧ Lie3 W w.heap.size (w.heap.size + 1) w5.heap.size x y z ∧ Below w.heap.size w W ∧ FactsAt W ao n f from by
      have h1 := hcb.out.trans (hb5.mono hcb.out.size)
      have h2 := h1.alloc h1.size (.cells #[.string z.id, .int .i64 z.h, .slice z.pa z.np z.pc] 24)
      exact ⟨_, rfl, Lie3.mk (H3.out.1.below h2 H3.out.1.lt) (H3.out.2.1.below h2 H3.out.2.1.lt) (BlkIs.new _ _ _), H3.out.2.2.1.trans (h2.mono H3.out.2.2.1.size), H3.out.2.2.2.later h2⟩)
    clear hb5 B1
    go_wp2_with fail
    obtain ⟨Wb, hWb, H5⟩ := H5.out
    rw [← hWb]
    have H5 := Lib.hid H5
    clear hWb

    have n1 : (0 : Int) < n := by omega
    have hmn := H5.out.2.2.1
    have HMAX := Lib.hid (fun j (hj : j < n) => show ¬ cmpF (f j) z > 0 from by rw [HZZ.out]; unfold bestOf; rw [if_neg (by omega)]; exact bestF_max f (n - 1) j (by omega))
    have HIN := Lib.hid (show ∃ i, i < n ∧ z = f i from by
      obtain ⟨i, hi, he⟩ := bestF_at f (n - 1)
      exact ⟨i, by omega, by rw [HZZ.out]; unfold bestOf; rw [if_neg (by omega)]; exact he⟩)
    have HST := Lib.hid (fun W' (hb : Below Wb.heap.size Wb W') => show StrsAt W' z.pa z.np z.p from by rw [HZZ.out]; exact best_strs (H5.out.2.2.later hb))
    go_loopw [10, 11] (fun s i wr => ∃ (b : Bool) (k : Nat), s = .bool b ∧ i = .int .i64 (k : Int) ∧ k ≤ n ∧ Hid ((b = false → ∀ j, j < k → ¬ SameF (f j) z) ∧ Below Wb.heap.size Wb wr)) (fun _ i _ => ((n : Int) - intOf i).toNat)
    case atStart => exact ⟨false, 0, rfl, rfl, by omega, Lib.hid ⟨fun _ j hj => by omega, Below.refl _ _⟩⟩
    case round =>
      obtain ⟨b, k, rfl, rfl, hk, HR⟩ := hrel
      rcases Nat.lt_or_ge k n with hk1 | hk1
      · have ki : (k : Int) < n := by omega
        obtain ⟨bl, offl, rfl, hltl, hcell⟩ := H5.out.2.2.2.1 (by omega)
        have hst := H5.out.2.2.2.2 k hk1
        have hcu := hcell k hk1
        obtain ⟨v, hv⟩ : ∃ v, v = f k := ⟨_, rfl⟩
        rw [← hv] at hst hcu
        have HV := Lib.hid hv
        have HU := Lib.hid (fun (W' : World) (hb : Below Wb.heap.size Wb W') => show (W'.cell? ⟨bl, offl + k * 3, none⟩ = some (.string v.id) ∧ W'.cell? ⟨bl, offl + k * 3 + 1, none⟩ = some (.int .i64 v.h) ∧ W'.cell? ⟨bl, offl + k * 3 + 2, none⟩ = some (.slice v.pa v.np v.pc)) ∧ StrsAt W' v.pa v.np v.p from ⟨by
          rw [hb.cell hltl, hb.cell hltl, hb.cell hltl]; exact hcu, hst.later hb⟩)
        have hgt : ¬ 0 < cmpF v z := by rw [hv]; exact HMAX.out k hk1
        obtain ⟨g, hg⟩ : ∃ g, g = cmpF v z := ⟨_, rfl⟩
        rw [← hg] at hgt
        have hg0 : decide (0 < g) = false := by simpa using hgt
        have HGG := Lib.hid hg
        clear hcell hst hcu hv hgt hg
        have HWa := Lib.hid (fun u : LaterOf wr => HR.out.2.trans (u.h.mono HR.out.2.size))
        have v0a : ∀ u : LaterOf wr, u.w.cell? ⟨bl, offl + k * 3, none⟩ = some (.string v.id) := fun u => (HU.out _ (HWa.out u)).1.1
        have v1a : ∀ u : LaterOf wr, u.w.cell? ⟨bl, offl + k * 3 + 1, none⟩ = some (.int .i64 v.h) := fun u => (HU.out _ (HWa.out u)).1.2.1
        have v2a : ∀ u : LaterOf wr, u.w.cell? ⟨bl, offl + k * 3 + 2, none⟩ = some (.slice v.pa v.np v.pc) := fun u => (HU.out _ (HWa.out u)).1.2.2
        have z0a : ∀ u : LaterOf wr, u.w.cell? ⟨w5.heap.size, 0, none⟩ = some (.string z.id) := fun u => (H5.out.1 _ (HWa.out u)).2.2.1
        have z1a : ∀ u : LaterOf wr, u.w.cell? ⟨w5.heap.size, 1, none⟩ = some (.int .i64 z.h) := fun u => (H5.out.1 _ (HWa.out u)).2.2.2.1
        have z2a : ∀ u : LaterOf wr, u.w.cell? ⟨w5.heap.size, 2, none⟩ = some (.slice z.pa z.np z.pc) := fun u => (H5.out.1 _ (HWa.out u)).2.2.2.2
        have Ca := Lib.hid (fun u : LaterOf wr => by have := compare_below v z u.w; rw [← HGG.out] at this; exact this)
        go_upto_region 15 with (fail)
        refine wp_region_all (fun w' => ∃ u : LaterOf wr, w' = u.w) (by kernel_rfl) (by kernel_rfl) ⟨LaterOf.start wr, rfl⟩ ?_
        repeat (go_big_quiet_step (first | with_reducible exact LaterOf.call _ (Ca.out _)))
        refine wpQuiet_nil ?_
        intro wqa hwq
        obtain ⟨u, hu⟩ := hwq
        have HBa := Lib.hid (show Below Wb.heap.size Wb wqa from by rw [hu]; exact HWa.out u)
        clear hu u HWa v0a v1a v2a z0a z1a z2a Ca
        cases b
        case true =>
          have HWb := Lib.hid (fun u : LaterOf wqa => HBa.out.trans (u.h.mono HBa.out.size))
          go_upto_region 16 with (fail)
          refine wp_region_all (fun w' => ∃ u : LaterOf wqa, w' = u.w) (by kernel_rfl) (by kernel_rfl) ⟨LaterOf.start wqa, rfl⟩ ?_
          repeat (go_big_quiet_step (fail))
          refine wpQuiet_nil ?_
          intro wqb hwq
          obtain ⟨u, hu⟩ := hwq
          have HBb := Lib.hid (show Below Wb.heap.size Wb wqb from by rw [hu]; exact HWb.out u)
          clear hu u HWb 
          have HIN2 := Lib.hid (show (true = false → ∀ j, j < k + 1 → ¬ SameF (f j) z) from fun h => by cases h)
          by_cases hc1 : c ≤ 0
          · have hcl : decide (c ≤ 0) = true := by simpa using hc1
            obtain ⟨p, hp⟩ : ∃ p, p = cmpF y v := ⟨_, rfl⟩
            by_cases hp1 : p ≤ 0
            · have hpl : decide (p ≤ 0) = true := by simpa using hp1
              obtain ⟨q, hq⟩ : ∃ q, q = cmpF x v := ⟨_, rfl⟩
              have hq1 : ¬ 0 < q := by rw [hq]; exact cmp_le_trans (y := y) (by rw [← HC.out]; exact hc1) (by rw [← hp]; exact hp1)
              have hql : decide (0 < q) = false := by simpa using hq1
              have HP := Lib.hid hp
              have HQ := Lib.hid hq
              clear hc1 hp1 hq1 hp hq
              have HWc := Lib.hid (fun u : LaterOf wqb => HBb.out.trans (u.h.mono HBb.out.size))
              have x0c : ∀ u : LaterOf wqb, u.w.cell? ⟨w.heap.size, 0, none⟩ = some (.string x.id) := fun u => (H5.out.1 _ (HWc.out u)).1.1
              have x1c : ∀ u : LaterOf wqb, u.w.cell? ⟨w.heap.size, 1, none⟩ = some (.int .i64 x.h) := fun u => (H5.out.1 _ (HWc.out u)).1.2.1
              have x2c : ∀ u : LaterOf wqb, u.w.cell? ⟨w.heap.size, 2, none⟩ = some (.slice x.pa x.np x.pc) := fun u => (H5.out.1 _ (HWc.out u)).1.2.2
              have y0c : ∀ u : LaterOf wqb, u.w.cell? ⟨w.heap.size + 1, 0, none⟩ = some (.string y.id) := fun u => (H5.out.1 _ (HWc.out u)).2.1.1
              have y1c : ∀ u : LaterOf wqb, u.w.cell? ⟨w.heap.size + 1, 1, none⟩ = some (.int .i64 y.h) := fun u => (H5.out.1 _ (HWc.out u)).2.1.2.1
              have y2c : ∀ u : LaterOf wqb, u.w.cell? ⟨w.heap.size + 1, 2, none⟩ = some (.slice y.pa y.np y.pc) := fun u => (H5.out.1 _ (HWc.out u)).2.1.2.2
              have v0c : ∀ u : LaterOf wqb, u.w.cell? ⟨bl, offl + k * 3, none⟩ = some (.string v.id) := fun u => (HU.out _ (HWc.out u)).1.1
              have v1c : ∀ u : LaterOf wqb, u.w.cell? ⟨bl, offl + k * 3 + 1, none⟩ = some (.int .i64 v.h) := fun u => (HU.out _ (HWc.out u)).1.2.1
              have v2c : ∀ u : LaterOf wqb, u.w.cell? ⟨bl, offl + k * 3 + 2, none⟩ = some (.slice v.pa v.np v.pc) := fun u => (HU.out _ (HWc.out u)).1.2.2
              have Cc := Lib.hid (fun u : LaterOf wqb => by have := compare_below y v u.w; rw [← HP.out] at this; exact this)
              have Cd := Lib.hid (fun u : LaterOf wqb => by have := compare_below x v u.w; rw [← HQ.out] at this; exact this)
              go_upto_region 19 with (fail)
              refine wp_region_all (fun w' => ∃ u : LaterOf wqb, w' = u.w) (by kernel_rfl) (by kernel_rfl) ⟨LaterOf.start wqb, rfl⟩ ?_
              repeat (go_big_quiet_step (first | with_reducible exact LaterOf.call _ (Cc.out _) | with_reducible exact LaterOf.call _ (Cd.out _)))
              refine wpQuiet_nil ?_
              intro wqc hwq
              obtain ⟨u, hu⟩ := hwq
              have HBc := Lib.hid (show Below Wb.heap.size Wb wqc from by rw [hu]; exact HWc.out u)
              clear hu u HWc x0c x1c x2c y0c y1c y2c v0c v1c v2c Cc Cd
              skip
              go_wp2_with fail
              refine ⟨⟨true, k + 1, rfl, rfl, hk1, Lib.hid ⟨HIN2.out, HBc.out⟩⟩, ?_⟩
              simp [intOf]
              omega
            · have hpl : decide (p ≤ 0) = false := by simpa using hp1
              have HP := Lib.hid hp
              clear hc1 hp1 hp
              have HWc := Lib.hid (fun u : LaterOf wqb => HBb.out.trans (u.h.mono HBb.out.size))
              have y0c : ∀ u : LaterOf wqb, u.w.cell? ⟨w.heap.size + 1, 0, none⟩ = some (.string y.id) := fun u => (H5.out.1 _ (HWc.out u)).2.1.1
              have y1c : ∀ u : LaterOf wqb, u.w.cell? ⟨w.heap.size + 1, 1, none⟩ = some (.int .i64 y.h) := fun u => (H5.out.1 _ (HWc.out u)).2.1.2.1
              have y2c : ∀ u : LaterOf wqb, u.w.cell? ⟨w.heap.size + 1, 2, none⟩ = some (.slice y.pa y.np y.pc) := fun u => (H5.out.1 _ (HWc.out u)).2.1.2.2
              have v0c : ∀ u : LaterOf wqb, u.w.cell? ⟨bl, offl + k * 3, none⟩ = some (.string v.id) := fun u => (HU.out _ (HWc.out u)).1.1
              have v1c : ∀ u : LaterOf wqb, u.w.cell? ⟨bl, offl + k * 3 + 1, none⟩ = some (.int .i64 v.h) := fun u => (HU.out _ (HWc.out u)).1.2.1
              have v2c : ∀ u : LaterOf wqb, u.w.cell? ⟨bl, offl + k * 3 + 2, none⟩ = some (.slice v.pa v.np v.pc) := fun u => (HU.out _ (HWc.out u)).1.2.2
              have Cc := Lib.hid (fun u : LaterOf wqb => by have := compare_below y v u.w; rw [← HP.out] at this; exact this)
              go_upto_region 19 with (fail)
              refine wp_region_all (fun w' => ∃ u : LaterOf wqb, w' = u.w) (by kernel_rfl) (by kernel_rfl) ⟨LaterOf.start wqb, rfl⟩ ?_
              repeat (go_big_quiet_step (first | with_reducible exact LaterOf.call _ (Cc.out _)))
              refine wpQuiet_nil ?_
              intro wqc hwq
              obtain ⟨u, hu⟩ := hwq
              have HBc := Lib.hid (show Below Wb.heap.size Wb wqc from by rw [hu]; exact HWc.out u)
              clear hu u HWc y0c y1c y2c v0c v1c v2c Cc
              skip
              go_wp2_with fail
              refine ⟨⟨true, k + 1, rfl, rfl, hk1, Lib.hid ⟨HIN2.out, HBc.out⟩⟩, ?_⟩
              simp [intOf]
              omega
          · have hcl : decide (c ≤ 0) = false := by simpa using hc1
            clear hc1
            have HWc := Lib.hid (fun u : LaterOf wqb => HBb.out.trans (u.h.mono HBb.out.size))
            go_upto_region 19 with (fail)
            refine wp_region_all (fun w' => ∃ u : LaterOf wqb, w' = u.w) (by kernel_rfl) (by kernel_rfl) ⟨LaterOf.start wqb, rfl⟩ ?_
            repeat (go_big_quiet_step (fail))
            refine wpQuiet_nil ?_
            intro wqc hwq
            obtain ⟨u, hu⟩ := hwq
            have HBc := Lib.hid (show Below Wb.heap.size Wb wqc from by rw [hu]; exact HWc.out u)
            clear hu u HWc 
            go_wp2_with fail
            refine ⟨⟨true, k + 1, rfl, rfl, hk1, Lib.hid ⟨HIN2.out, HBc.out⟩⟩, ?_⟩
            simp [intOf]
            omega
        case false =>
          have HWb := Lib.hid (fun u : LaterOf wqa => HBa.out.trans (u.h.mono HBa.out.size))
          have v0b : ∀ u : LaterOf wqa, u.w.cell? ⟨bl, offl + k * 3, none⟩ = some (.string v.id) := fun u => (HU.out _ (HWb.out u)).1.1
          have v1b : ∀ u : LaterOf wqa, u.w.cell? ⟨bl, offl + k * 3 + 1, none⟩ = some (.int .i64 v.h) := fun u => (HU.out _ (HWb.out u)).1.2.1
          have v2b : ∀ u : LaterOf wqa, u.w.cell? ⟨bl, offl + k * 3 + 2, none⟩ = some (.slice v.pa v.np v.pc) := fun u => (HU.out _ (HWb.out u)).1.2.2
          have z0b : ∀ u : LaterOf wqa, u.w.cell? ⟨w5.heap.size, 0, none⟩ = some (.string z.id) := fun u => (H5.out.1 _ (HWb.out u)).2.2.1
          have z1b : ∀ u : LaterOf wqa, u.w.cell? ⟨w5.heap.size, 1, none⟩ = some (.int .i64 z.h) := fun u => (H5.out.1 _ (HWb.out u)).2.2.2.1
          have z2b : ∀ u : LaterOf wqa, u.w.cell? ⟨w5.heap.size, 2, none⟩ = some (.slice z.pa z.np z.pc) := fun u => (H5.out.1 _ (HWb.out u)).2.2.2.2
          have Cb := Lib.hid (fun u : LaterOf wqa => same_any v z u.w (HU.out _ (HWb.out u)).2 (HST.out _ (HWb.out u)))
          go_upto_region 16 with (fail)
          refine wp_region_all (fun w' => ∃ u : LaterOf wqa, w' = u.w) (by kernel_rfl) (by kernel_rfl) ⟨LaterOf.start wqa, rfl⟩ ?_
          repeat (go_big_quiet_step (first | with_reducible exact LaterOf.call _ (Cb.out _)))
          refine wpQuiet_nil ?_
          intro wqb hwq
          obtain ⟨u, hu⟩ := hwq
          have HBb := Lib.hid (show Below Wb.heap.size Wb wqb from by rw [hu]; exact HWb.out u)
          clear hu u HWb v0b v1b v2b z0b z1b z2b Cb
          have HIN2 := Lib.hid (show (holds (SameF v z) = false → ∀ j, j < k + 1 → ¬ SameF (f j) z) from fun h j hj => by
            rcases Nat.lt_or_ge j k with h1 | h1
            · exact HR.out.1 rfl j h1
            · obtain rfl : j = k := by omega
              rw [← HV.out]; exact fun h2 => by rw [holds_true h2] at h; cases h)
          obtain ⟨b2, hb2⟩ : ∃ b2, b2 = holds (SameF v z) := ⟨_, rfl⟩
          rw [← hb2] at HIN2 ⊢
          clear hb2
          by_cases hc1 : c ≤ 0
          · have hcl : decide (c ≤ 0) = true := by simpa using hc1
            obtain ⟨p, hp⟩ : ∃ p, p = cmpF y v := ⟨_, rfl⟩
            by_cases hp1 : p ≤ 0
            · have hpl : decide (p ≤ 0) = true := by simpa using hp1
              obtain ⟨q, hq⟩ : ∃ q, q = cmpF x v := ⟨_, rfl⟩
              have hq1 : ¬ 0 < q := by rw [hq]; exact cmp_le_trans (y := y) (by rw [← HC.out]; exact hc1) (by rw [← hp]; exact hp1)
              have hql : decide (0 < q) = false := by simpa using hq1
              have HP := Lib.hid hp
              have HQ := Lib.hid hq
              clear hc1 hp1 hq1 hp hq
              have HWc := Lib.hid (fun u : LaterOf wqb => HBb.out.trans (u.h.mono HBb.out.size))
              have x0c : ∀ u : LaterOf wqb, u.w.cell? ⟨w.heap.size, 0, none⟩ = some (.string x.id) := fun u => (H5.out.1 _ (HWc.out u)).1.1
              have x1c : ∀ u : LaterOf wqb, u.w.cell? ⟨w.heap.size, 1, none⟩ = some (.int .i64 x.h) := fun u => (H5.out.1 _ (HWc.out u)).1.2.1
              have x2c : ∀ u : LaterOf wqb, u.w.cell? ⟨w.heap.size, 2, none⟩ = some (.slice x.pa x.np x.pc) := fun u => (H5.out.1 _ (HWc.out u)).1.2.2
              have y0c : ∀ u : LaterOf wqb, u.w.cell? ⟨w.heap.size + 1, 0, none⟩ = some (.string y.id) := fun u => (H5.out.1 _ (HWc.out u)).2.1.1
              have y1c : ∀ u : LaterOf wqb, u.w.cell? ⟨w.heap.size + 1, 1, none⟩ = some (.int .i64 y.h) := fun u => (H5.out.1 _ (HWc.out u)).2.1.2.1
              have y2c : ∀ u : LaterOf wqb, u.w.cell? ⟨w.heap.size + 1, 2, none⟩ = some (.slice y.pa y.np y.pc) := fun u => (H5.out.1 _ (HWc.out u)).2.1.2.2
              have v0c : ∀ u : LaterOf wqb, u.w.cell? ⟨bl, offl + k * 3, none⟩ = some (.string v.id) := fun u => (HU.out _ (HWc.out u)).1.1
              have v1c : ∀ u : LaterOf wqb, u.w.cell? ⟨bl, offl + k * 3 + 1, none⟩ = some (.int .i64 v.h) := fun u => (HU.out _ (HWc.out u)).1.2.1
              have v2c : ∀ u : LaterOf wqb, u.w.cell? ⟨bl, offl + k * 3 + 2, none⟩ = some (.slice v.pa v.np v.pc) := fun u => (HU.out _ (HWc.out u)).1.2.2
              have Cc := Lib.hid (fun u : LaterOf wqb => by have := compare_below y v u.w; rw [← HP.out] at this; exact this)
              have Cd := Lib.hid (fun u : LaterOf wqb => by have := compare_below x v u.w; rw [← HQ.out] at this; exact this)
              go_upto_region 19 with (fail)
              refine wp_region_all (fun w' => ∃ u : LaterOf wqb, w' = u.w) (by kernel_rfl) (by kernel_rfl) ⟨LaterOf.start wqb, rfl⟩ ?_
              repeat (go_big_quiet_step (first | with_reducible exact LaterOf.call _ (Cc.out _) | with_reducible exact LaterOf.call _ (Cd.out _)))
              refine wpQuiet_nil ?_
              intro wqc hwq
              obtain ⟨u, hu⟩ := hwq
              have HBc := Lib.hid (show Below Wb.heap.size Wb wqc from by rw [hu]; exact HWc.out u)
              clear hu u HWc x0c x1c x2c y0c y1c y2c v0c v1c v2c Cc Cd
              skip
              go_wp2_with fail
              refine ⟨⟨b2, k + 1, rfl, rfl, hk1, Lib.hid ⟨HIN2.out, HBc.out⟩⟩, ?_⟩
              simp [intOf]
              omega
            · have hpl : decide (p ≤ 0) = false := by simpa using hp1
              have HP := Lib.hid hp
              clear hc1 hp1 hp
              have HWc := Lib.hid (fun u : LaterOf wqb => HBb.out.trans (u.h.mono HBb.out.size))
              have y0c : ∀ u : LaterOf wqb, u.w.cell? ⟨w.heap.size + 1, 0, none⟩ = some (.string y.id) := fun u => (H5.out.1 _ (HWc.out u)).2.1.1
              have y1c : ∀ u : LaterOf wqb, u.w.cell? ⟨w.heap.size + 1, 1, none⟩ = some (.int .i64 y.h) := fun u => (H5.out.1 _ (HWc.out u)).2.1.2.1
              have y2c : ∀ u : LaterOf wqb, u.w.cell? ⟨w.heap.size + 1, 2, none⟩ = some (.slice y.pa y.np y.pc) := fun u => (H5.out.1 _ (HWc.out u)).2.1.2.2
              have v0c : ∀ u : LaterOf wqb, u.w.cell? ⟨bl, offl + k * 3, none⟩ = some (.string v.id) := fun u => (HU.out _ (HWc.out u)).1.1
              have v1c : ∀ u : LaterOf wqb, u.w.cell? ⟨bl, offl + k * 3 + 1, none⟩ = some (.int .i64 v.h) := fun u => (HU.out _ (HWc.out u)).1.2.1
              have v2c : ∀ u : LaterOf wqb, u.w.cell? ⟨bl, offl + k * 3 + 2, none⟩ = some (.slice v.pa v.np v.pc) := fun u => (HU.out _ (HWc.out u)).1.2.2
              have Cc := Lib.hid (fun u : LaterOf wqb => by have := compare_below y v u.w; rw [← HP.out] at this; exact this)
              go_upto_region 19 with (fail)
              refine wp_region_all (fun w' => ∃ u : LaterOf wqb, w' = u.w) (by kernel_rfl) (by kernel_rfl) ⟨LaterOf.start wqb, rfl⟩ ?_
              repeat (go_big_quiet_step (first | with_reducible exact LaterOf.call _ (Cc.out _)))
              refine wpQuiet_nil ?_
              intro wqc hwq
              obtain ⟨u, hu⟩ := hwq
              have HBc := Lib.hid (show Below Wb.heap.size Wb wqc from by rw [hu]; exact HWc.out u)
              clear hu u HWc y0c y1c y2c v0c v1c v2c Cc
              skip
              go_wp2_with fail
              refine ⟨⟨b2, k + 1, rfl, rfl, hk1, Lib.hid ⟨HIN2.out, HBc.out⟩⟩, ?_⟩
              simp [intOf]
              omega
          · have hcl : decide (c ≤ 0) = false := by simpa using hc1
            clear hc1
            have HWc := Lib.hid (fun u : LaterOf wqb => HBb.out.trans (u.h.mono HBb.out.size))
            go_upto_region 19 with (fail)
            refine wp_region_all (fun w' => ∃ u : LaterOf wqb, w' = u.w) (by kernel_rfl) (by kernel_rfl) ⟨LaterOf.start wqb, rfl⟩ ?_
            repeat (go_big_quiet_step (fail))
            refine wpQuiet_nil ?_
            intro wqc hwq
            obtain ⟨u, hu⟩ := hwq
            have HBc := Lib.hid (show Below Wb.heap.size Wb wqc from by rw [hu]; exact HWc.out u)
            clear hu u HWc 
            go_wp2_with fail
            refine ⟨⟨b2, k + 1, rfl, rfl, hk1, Lib.hid ⟨HIN2.out, HBc.out⟩⟩, ?_⟩
            simp [intOf]
            omega
      · have ki : (n : Int) ≤ (k : Int) := by omega
        have hb : b = true := by
          cases b
          · obtain ⟨i, hi, he⟩ := HIN.out
            exact absurd (by rw [he]; exact same_self _) (HR.out.1 rfl i (by omega))
          · rfl
        subst hb
        go_wp2_with fail
        go_ret
        exact ⟨rfl, H5.out.2.1.trans (HR.out.2.mono H5.out.2.1.size)⟩
theorem one_any (x y : Fv) (ao : Option Addr) (n cap : Nat) (f : Nat → Fv) (w : World) (hx : StrsAt w x.pa x.np x.p) (hy : StrsAt w y.pa y.np y.p) (hF : FactsAt w ao n f) :
    Calls Try.prog 5 #[.agg #[.string x.id, .int .i64 x.h, .slice x.pa x.np x.pc], .agg #[.string y.id, .int .i64 y.h, .slice y.pa y.np y.pc], .slice ao n cap] w fun e w' => e = .returned (.bool true) ∧ Below w.heap.size w w' := by
  rcases Nat.eq_zero_or_pos n with h | h
  · exact one_zero x y ao n cap f w h hF
  · exact one_pos x y ao n cap f w h hF
end Go.Proofs.Ythcgdpdijdmelaa.Ord
