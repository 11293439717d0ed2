/- The reference's Best, walked; place; texts compared; the laws' own small functions. Conditions: the slices' cells as they lie. (Layer 11.) -/
import Derived.Test.YthcgdpdijdmelaaOrd3
namespace Go.Proofs.Ythcgdpdijdmelaa.Ord
set_option linter.unusedVariables false
open Go.RowKit Go.Sort Go.Lib
theorem rbest_end' (w w8 : World) (n : Nat) (f : Nat → Fv) (k : Nat) (x : Fv) (v : Bool) (tmps : Array Value) (h2 : tmps.getD 2 undef = .pointer (some ⟨w.heap.size, 0, none⟩)) (h3 : tmps.getD 3 undef = .bool v) (kb : BlkIs w8 w.heap.size 24 (factCells x)) (hb : Below w.heap.size w w8) (hx : x = bestF f (n - 1)) :
    bodyPost Try.prog Try.f11 (fun e w' => e = .returned (.tuple #[.agg (factCells (bestF f (n - 1))), .bool v]) ∧ Below w.heap.size w w') Exit.ret ⟨tmps, []⟩ w8 := by
  rw [← hx]
  exact rbest_end w w8 x v tmps h2 h3 kb hb
set_option maxRecDepth 100000 in
theorem rbest_some (ao : Option Addr) (n cap : Nat) (f : Nat → Fv) (w : World) (h : FactsAt w ao n f) (hn : 0 < n) :
    Calls Try.prog 11 #[.slice ao n cap] w fun e w' => e = .returned (.tuple #[.agg (factCells (bestF f (n - 1))), .bool true]) ∧ Below w.heap.size w w' := by
  obtain ⟨hm, hc, hp⟩ := h
  obtain ⟨b, off, rfl, hb, hcell⟩ := hc hn
  have Hc := Lib.hid hcell
  obtain ⟨c00, c01, c02⟩ := hcell 0 hn
  simp only [Nat.zero_mul, Nat.add_zero] at c00 c01 c02
  obtain ⟨x, hx⟩ : ∃ x, x = f 0 := ⟨_, rfl⟩
  rw [← hx] at c00 c01 c02
  have Hx := Lib.hid hx
  have n1 : (1 : Int) ≤ n := by omega
  have n2 : ((n : Int) == 0) = false := by simp; omega
  clear hcell hc hp hx
  go_enter Try.func11, Try.ntmps11
  go_wp2_with fail
  obtain ⟨W, hW⟩ : ∃ W, W = ((w.alloc (.cells #[.string ⟨#[]⟩, .int .i64 0, .slice none 0 0] 24)).alloc (.cells #[.string x.id, .int .i64 x.h, .slice x.pa x.np x.pc] 24)) := ⟨_, rfl⟩
  have H0 := Lib.hid (show BlkIs W w.heap.size 24 noFact ∧ BlkIs W (w.heap.size + 1) 24 (factCells (bestF f 0)) ∧ Below w.heap.size w W from by
    rw [hW, bestF, ← Hx.out]
    exact ⟨(BlkIs.new _ _ _).alloc _, BlkIs.new2 _ _ _ _, ((Below.refl _ _).alloc (Nat.le_refl _) _).alloc (by simp) _⟩)
  rw [← hW]
  clear hW c00 c01 c02
  go_loopw [5] (fun i wr => ∃ k : Nat, i = .int .i64 ((k : Int) + 1) ∧ k < n ∧ Hid (BlkIs wr w.heap.size 24 noFact ∧ BlkIs wr (w.heap.size + 1) 24 (factCells (bestF f k)) ∧ Below w.heap.size w wr)) (fun i _ => ((n : Int) - intOf i).toNat)
  case atStart => exact ⟨0, rfl, hn, H0⟩
  case round =>
    obtain ⟨k, rfl, hk, HR⟩ := hrel
    rcases Nat.lt_or_ge (k + 1) n with hk1 | hk1
    · have ki : (k : Int) + 1 < n := by omega
      obtain ⟨y, hy⟩ : ∃ y, y = f (k + 1) := ⟨_, rfl⟩
      obtain ⟨z, hz⟩ : ∃ z, z = bestF f k := ⟨_, rfl⟩
      have HY := Lib.hid (And.intro hy hz)
      have e0 : ∀ u : LaterOf wr, u.w.cell? ⟨b, off + (k + 1) * 3, none⟩ = some (.string y.id) := fun u => by rw [u.h.cell (Nat.lt_of_lt_of_le hb HR.out.2.2.size), HR.out.2.2.cell hb, hy]; exact (Hc.out (k + 1) hk1).1
      have e1 : ∀ u : LaterOf wr, u.w.cell? ⟨b, off + (k + 1) * 3 + 1, none⟩ = some (.int .i64 y.h) := fun u => by rw [u.h.cell (Nat.lt_of_lt_of_le hb HR.out.2.2.size), HR.out.2.2.cell hb, hy]; exact (Hc.out (k + 1) hk1).2.1
      have e2 : ∀ u : LaterOf wr, u.w.cell? ⟨b, off + (k + 1) * 3 + 2, none⟩ = some (.slice y.pa y.np y.pc) := fun u => by rw [u.h.cell (Nat.lt_of_lt_of_le hb HR.out.2.2.size), HR.out.2.2.cell hb, hy]; exact (Hc.out (k + 1) hk1).2.2
      have g0 : ∀ u : LaterOf wr, u.w.cell? ⟨w.heap.size + 1, 0, none⟩ = some (.string z.id) := fun u => by rw [hz]; exact (u.blk HR.out.2.1).cell 0
      have g1 : ∀ u : LaterOf wr, u.w.cell? ⟨w.heap.size + 1, 1, none⟩ = some (.int .i64 z.h) := fun u => by rw [hz]; exact (u.blk HR.out.2.1).cell 1
      have g2 : ∀ u : LaterOf wr, u.w.cell? ⟨w.heap.size + 1, 2, none⟩ = some (.slice z.pa z.np z.pc) := fun u => by rw [hz]; exact (u.blk HR.out.2.1).cell 2
      have C := Lib.hid (fun u : LaterOf wr => ref_compare y z u.w)
      obtain ⟨c, hcc⟩ : ∃ c, c = cmpF y z := ⟨_, rfl⟩
      rw [← hcc] at C
      have HC := Lib.hid hcc
      clear hy hz hcc
      go_upto_region 7 with (fail)
      refine wp_region_all (fun w' => ∃ u : LaterOf wr, w' = u.w) (by kernel_rfl) (by kernel_rfl) ⟨LaterOf.start wr, rfl⟩ ?_
      repeat (go_big_quiet_step (first | exact LaterOf.call _ (C.out _)))
      refine wpQuiet_nil ?_
      intro w8 hw8
      obtain ⟨u, rfl⟩ := hw8
      clear C
      have E := Lib.hid (And.intro (e0 u) (And.intro (e1 u) (e2 u)))
      have K := Lib.hid (show BlkIs u.w w.heap.size 24 noFact ∧ BlkIs u.w (w.heap.size + 1) 24 (factCells (bestF f k)) ∧ Below w.heap.size w u.w from ⟨u.blk HR.out.1, u.blk HR.out.2.1, HR.out.2.2.trans (u.h.mono HR.out.2.2.size)⟩)
      obtain ⟨w8, hw8⟩ : ∃ w8, w8 = u.w := ⟨_, rfl⟩
      rw [← hw8] at E K ⊢
      clear hw8 e0 e1 e2 g0 g1 g2 HR
      have f0 : ∀ i, w8.frozen? ⟨w.heap.size + 1, i, none⟩ = false := fun i => K.out.2.1.free i
      obtain ⟨q0, q1, q2⟩ := E.out
      have hz0 := K.out.2.1
      rw [← HY.out.2] at hz0
      have m0 : w8.cell? ⟨w.heap.size + 1, 0, none⟩ = some (.string z.id) := hz0.cell 0
      have m1 : w8.cell? ⟨w.heap.size + 1, 1, none⟩ = some (.int .i64 z.h) := hz0.cell 1
      have m2 : w8.cell? ⟨w.heap.size + 1, 2, none⟩ = some (.slice z.pa z.np z.pc) := hz0.cell 2
      clear hz0
      by_cases hc : 0 < c
      · have HCC := Lib.hid hc
        go_wp2_with fail
        refine ⟨⟨k + 1, rfl, hk1, Lib.hid ⟨?_, ?_, ?_⟩⟩, ?_⟩
        · exact ((K.out.1.far (by simp) _).far (by simp) _).far (by simp) _
        · rw [bestF, if_pos (by rw [← HY.out.1, ← HY.out.2, ← HC.out]; exact HCC.out), ← HY.out.1]
          exact ((K.out.2.1.put 0 _).put 1 _).put 2 _
        · exact ((K.out.2.2.setCell (by simp) _).setCell (by simp) _).setCell (by simp) _
        · simp [intOf]
          omega
      · have HCC := Lib.hid hc
        have hc0 : decide (0 < c) = false := by simpa using hc
        clear hc
        go_wp2_with fail
        refine ⟨⟨k + 1, rfl, hk1, Lib.hid ⟨K.out.1, ?_, K.out.2.2⟩⟩, ?_⟩
        · rw [bestF, if_neg (by rw [← HY.out.1, ← HY.out.2, ← HC.out]; exact HCC.out)]
          exact K.out.2.1
        · simp [intOf]
          omega
    · have ki : (n : Int) ≤ (k : Int) + 1 := by omega
      obtain ⟨z, hz⟩ : ∃ z, z = bestF f k := ⟨_, rfl⟩
      have HZ := Lib.hid hz
      have g0 : wr.cell? ⟨w.heap.size + 1, 0, none⟩ = some (.string z.id) := by rw [hz]; exact HR.out.2.1.cell 0
      have g1 : wr.cell? ⟨w.heap.size + 1, 1, none⟩ = some (.int .i64 z.h) := by rw [hz]; exact HR.out.2.1.cell 1
      have g2 : wr.cell? ⟨w.heap.size + 1, 2, none⟩ = some (.slice z.pa z.np z.pc) := by rw [hz]; exact HR.out.2.1.cell 2
      have hr := HR.out.1
      have r0 : wr.cell? ⟨w.heap.size, 0, none⟩ = some (.string ⟨#[]⟩) := hr.cell 0
      have r1 : wr.cell? ⟨w.heap.size, 1, none⟩ = some (.int .i64 0) := hr.cell 1
      have r2 : wr.cell? ⟨w.heap.size, 2, none⟩ = some (.slice none 0 0) := hr.cell 2
      have f0 : ∀ i, wr.frozen? ⟨w.heap.size, i, none⟩ = false := fun i => hr.free i
      clear hz
      go_wp2_with fail
      exact rbest_end' w _ n f k z _ _ rfl rfl (fact_put (w := w) hr ⟨_, _, _, rfl⟩) (((HR.out.2.2.setCell (p := ⟨w.heap.size, 0, none⟩) (Nat.le_refl _) (.string z.id)).setCell (p := ⟨w.heap.size, 1, none⟩) (Nat.le_refl _) (.int .i64 z.h)).setCell (p := ⟨w.heap.size, 2, none⟩) (Nat.le_refl _) (.slice z.pa z.np z.pc)) (by rw [HZ.out, show n - 1 = k by omega])
set_option maxRecDepth 100000 in
theorem rbest_any (ao : Option Addr) (n cap : Nat) (f : Nat → Fv) (w : World) (h : FactsAt w ao n f) :
    Calls Try.prog 11 #[.slice ao n cap] w fun e w' => e = .returned (.tuple #[.agg (factCells (bestOf f n)), .bool (decide (0 < n))]) ∧ Below w.heap.size w w' := by
  rcases Nat.eq_zero_or_pos n with rfl | hn
  · have e0 : bestOf f 0 = default := rfl
    have e1 : decide (0 < 0) = false := rfl
    rw [e0, e1]
    clear e0 e1 h
    go_enter Try.func11, Try.ntmps11
    go_wp2_with fail
    have hz : Below w.heap.size w (w.alloc (.cells #[.string ⟨#[]⟩, .int .i64 0, .slice none 0 0] 24)) := (Below.refl _ _).alloc (Nat.le_refl _) _
    exact rbest_end w _ default false _ rfl rfl (BlkIs.new w 24 _) hz
  · have e1 : bestOf f n = bestF f (n - 1) := by unfold bestOf; rw [if_neg (by omega)]
    rw [e1, decide_eq_true hn]
    exact rbest_some ao n cap f w h hn
/-- Where the first fact with an id stands; -1: nowhere. -/
def placeV (f : Nat → Fv) (n : Nat) (x : ByteArray) : Int := if place f x n < n then (place f x n : Int) else -1
theorem place_low (f : Nat → Fv) (x : ByteArray) : ∀ n k, k ≤ n → (∀ j, j < k → (f j).id ≠ x) → k ≤ place f x n
  | 0, k, hk, _ => by omega
  | n + 1, k, hk, h => by
    rcases Nat.lt_or_ge n k with h1 | h1
    · obtain rfl : k = n + 1 := by omega
      have ih := place_low f x n n (Nat.le_refl _) fun j hj => h j (by omega)
      have := place_le f x n
      unfold place
      rw [if_neg (by omega), if_neg (h n (by omega))]
      exact Nat.le_refl _
    · have ih := place_low f x n k h1 h
      unfold place
      split
      · exact ih
      · split <;> omega
theorem place_found {f : Nat → Fv} {x : ByteArray} {n k : Nat} (hk : k < n) (h : ∀ j, j < k → (f j).id ≠ x) (he : (f k).id = x) : place f x n = k := by
  have h1 := place_low f x n k (by omega) h
  rcases Nat.lt_or_ge k (place f x n) with h2 | h2
  · exact absurd he (place_before f x n k h2)
  · omega
theorem place_any (ao : Option Addr) (n cap : Nat) (f : Nat → Fv) (s : ByteArray) (w : World) (h : FactsAt w ao n f) :
    Calls Try.prog 35 #[.slice ao n cap, .string s] w fun e w' => e = .returned (.int .i64 (placeV f n s)) ∧ w = w' := by
  obtain ⟨hm, hc, hp⟩ := h
  have Hc := Lib.hid hc
  obtain ⟨r, hr⟩ : ∃ r, r = placeV f n s := ⟨_, rfl⟩
  rw [← hr]
  have HR := Lib.hid hr
  clear hc hp hr
  go_enter Try.func35, Try.ntmps35
  go_wp2_with fail
  go_loopw [5] (fun i wr => ∃ k : Nat, i = .int .i64 (k : Int) ∧ k ≤ n ∧ Hid (∀ j, j < k → (f j).id ≠ s) ∧ wr = w) (fun i _ => ((n : Int) - intOf i).toNat)
  case atStart => exact ⟨0, rfl, by omega, Lib.hid (fun j hj => by omega), rfl⟩
  case round =>
    obtain ⟨k, rfl, hk, hb, rfl⟩ := hrel
    rcases Nat.lt_or_ge k n with hk1 | hk1
    · obtain ⟨b, off, rfl, hlt, hcell⟩ := Hc.out (by omega)
      have c0 := (hcell k hk1).1
      have ki : (k : Int) < n := by omega
      obtain ⟨y, hy⟩ : ∃ y, y = (f k).id := ⟨_, rfl⟩
      rw [← hy] at c0
      have HY := Lib.hid hy
      clear hcell hy
      by_cases he : y = s
      · subst he
        have z : (y.toList == y.toList) = true := by simp
        go_wp2_with fail
        go_ret
        exact ⟨by rw [HR.out]; unfold placeV; rw [place_found hk1 hb.out HY.out.symm, if_pos hk1]; rfl, rfl⟩
      · have z := ne_list he
        have HE := Lib.hid he
        clear he
        go_wp2_with fail
        refine ⟨⟨k + 1, rfl, hk1, Lib.hid fun j hj => ?_, trivial⟩, ?_⟩
        · rcases Nat.lt_or_ge j k with h1 | h1
          · exact hb.out j h1
          · obtain rfl : j = k := by omega
            rw [← HY.out]; exact HE.out
        · simp [intOf]
          omega
    · have ki : (n : Int) ≤ (k : Int) := by omega
      go_wp2_with fail
      go_ret
      refine ⟨?_, rfl⟩
      have := place_low f s n n (Nat.le_refl _) fun j hj => hb.out j (by omega)
      rw [HR.out]; unfold placeV; rw [if_neg (by omega)]; rfl
end Go.Proofs.Ythcgdpdijdmelaa.Ord
