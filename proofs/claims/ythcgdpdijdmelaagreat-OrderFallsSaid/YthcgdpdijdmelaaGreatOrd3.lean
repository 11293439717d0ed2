/- Facts in a slice; the best of them, by the program (slices.MaxFunc) and by the reference, walked. Conditions: the slice's cells as they lie. (Layer 11.) -/
import Derived.Test.YthcgdpdijdmelaaGreatOrd2
import Derived.Test.YthcgdpdijdmelaaGreatCell
namespace Go.Proofs.YthcgdpdijdmelaaGreat.Ord
set_option linter.unusedVariables false
open Go.RowKit Go.Sort Go.Lib
/-- The strings of a slice, and where they lie. -/
def StrsAt (w : World) (ao : Option Addr) (n : Nat) (f : Nat → ByteArray) : Prop :=
  (n : Int) ≤ 9223372036854775807 ∧ (0 < n → ∃ b off, ao = some ⟨b, off, none⟩ ∧ b < w.heap.size ∧ ∀ i, i < n → w.cell? ⟨b, off + i, none⟩ = some (.string (f i)))
theorem StrsAt.later {w w' : World} {ao : Option Addr} {n : Nat} {f : Nat → ByteArray} (h : StrsAt w ao n f) (hb : Below w.heap.size w w') : StrsAt w' ao n f := by
  refine ⟨h.1, fun hn => ?_⟩
  obtain ⟨b, off, ha, hlt, hc⟩ := h.2 hn
  exact ⟨b, off, ha, Nat.lt_of_lt_of_le hlt hb.size, fun i hi => by rw [hb.cell hlt, hc i hi]⟩
theorem StrsAt.none_ (w : World) (f : Nat → ByteArray) : StrsAt w none 0 f := ⟨by decide, fun h => absurd h (by omega)⟩
/-- The facts of a slice, where they lie, their parents readable. -/
def FactsAt (w : World) (ao : Option Addr) (n : Nat) (f : Nat → Fv) : Prop :=
  (n : Int) ≤ 9223372036854775807 ∧ (0 < n → ∃ b off, ao = some ⟨b, off, none⟩ ∧ b < w.heap.size ∧ ∀ i, i < n → w.cell? ⟨b, off + i * 3, none⟩ = some (.string (f i).id) ∧ w.cell? ⟨b, off + i * 3 + 1, none⟩ = some (.int .i64 (f i).h) ∧ w.cell? ⟨b, off + i * 3 + 2, none⟩ = some (.slice (f i).pa (f i).np (f i).pc)) ∧ ∀ i, i < n → StrsAt w (f i).pa (f i).np (f i).p
theorem FactsAt.later {w w' : World} {ao : Option Addr} {n : Nat} {f : Nat → Fv} (h : FactsAt w ao n f) (hb : Below w.heap.size w w') : FactsAt w' ao n f := by
  refine ⟨h.1, fun hn => ?_, fun i hi => (h.2.2 i hi).later hb⟩
  obtain ⟨b, off, ha, hlt, hc⟩ := h.2.1 hn
  exact ⟨b, off, ha, Nat.lt_of_lt_of_le hlt hb.size, fun i hi => by rw [hb.cell hlt, hb.cell hlt, hb.cell hlt]; exact hc i hi⟩
/-- The best of the first k + 1 facts. -/
def bestF (f : Nat → Fv) : Nat → Fv
  | 0 => f 0
  | k + 1 => if cmpF (f (k + 1)) (bestF f k) > 0 then f (k + 1) else bestF f k
def factCells (x : Fv) : Array Value := #[.string x.id, .int .i64 x.h, .slice x.pa x.np x.pc]
def noFact : Array Value := #[.string ⟨#[]⟩, .int .i64 0, .slice none 0 0]
set_option maxRecDepth 100000 in
theorem max_fact (ao : Option Addr) (n cap : Nat) (f : Nat → Fv) (w : World) (h : FactsAt w ao n f) (hn : 0 < n) :
    Calls Tryz.prog 33 #[.slice ao n cap, .func (.func 12) #[] #[]] w fun e w' => e = .returned (.agg (factCells (bestF f (n - 1)))) ∧ Below w.heap.size w w' := by
  obtain ⟨hm, hc, hp⟩ := h
  obtain ⟨b, off, rfl, hb, hcell⟩ := hc hn
  have Hc := Lib.hid hcell
  obtain ⟨c00, c01, c02⟩ := hcell 0 hn
  simp only [Nat.zero_mul, Nat.add_zero] at c00 c01 c02
  obtain ⟨x, hx⟩ : ∃ x, x = f 0 := ⟨_, rfl⟩
  rw [← hx] at c00 c01 c02
  have Hx := Lib.hid hx
  have n1 : (1 : Int) ≤ n := by omega
  have n2 : ¬ ((n : Int) < 1) := by omega
  clear hcell hc hp hx
  go_enter Tryz.func33, Tryz.ntmps33
  go_wp2_with fail
  obtain ⟨W, hW⟩ : ∃ W, W = ((w.alloc (.cells #[.string ⟨#[]⟩, .int .i64 0, .slice none 0 0] 28)).alloc (.cells #[.string x.id, .int .i64 x.h, .slice x.pa x.np x.pc] 28)) := ⟨_, rfl⟩
  have H0 := Lib.hid (show BlkIs W w.heap.size 28 noFact ∧ BlkIs W (w.heap.size + 1) 28 (factCells (bestF f 0)) ∧ Below w.heap.size w W from by
    rw [hW, bestF, ← Hx.out]
    exact ⟨(BlkIs.new _ _ _).alloc _, BlkIs.new2 _ _ _ _, ((Below.refl _ _).alloc (Nat.le_refl _) _).alloc (by simp) _⟩)
  rw [← hW]
  clear hW c00 c01 c02
  go_loopw [6] (fun i wr => ∃ k : Nat, i = .int .i64 ((k : Int) + 1) ∧ k < n ∧ Hid (BlkIs wr w.heap.size 28 noFact ∧ BlkIs wr (w.heap.size + 1) 28 (factCells (bestF f k)) ∧ Below w.heap.size w wr)) (fun i _ => ((n : Int) - intOf i).toNat)
  case atStart => exact ⟨0, rfl, hn, H0⟩
  case round =>
    obtain ⟨k, rfl, hk, HR⟩ := hrel
    rcases Nat.lt_or_ge (k + 1) n with hk1 | hk1
    · have ki : (k : Int) + 1 < n := by omega
      obtain ⟨y, hy⟩ : ∃ y, y = f (k + 1) := ⟨_, rfl⟩
      obtain ⟨z, hz⟩ : ∃ z, z = bestF f k := ⟨_, rfl⟩
      have HY := Lib.hid (And.intro hy hz)
      have e0 : ∀ u : LaterOf wr, u.w.cell? ⟨b, off + (k + 1) * 3, none⟩ = some (.string y.id) := fun u => by rw [u.h.cell (Nat.lt_of_lt_of_le hb HR.out.2.2.size), HR.out.2.2.cell hb, hy]; exact (Hc.out (k + 1) hk1).1
      have e1 : ∀ u : LaterOf wr, u.w.cell? ⟨b, off + (k + 1) * 3 + 1, none⟩ = some (.int .i64 y.h) := fun u => by rw [u.h.cell (Nat.lt_of_lt_of_le hb HR.out.2.2.size), HR.out.2.2.cell hb, hy]; exact (Hc.out (k + 1) hk1).2.1
      have e2 : ∀ u : LaterOf wr, u.w.cell? ⟨b, off + (k + 1) * 3 + 2, none⟩ = some (.slice y.pa y.np y.pc) := fun u => by rw [u.h.cell (Nat.lt_of_lt_of_le hb HR.out.2.2.size), HR.out.2.2.cell hb, hy]; exact (Hc.out (k + 1) hk1).2.2
      have g0 : ∀ u : LaterOf wr, u.w.cell? ⟨w.heap.size + 1, 0, none⟩ = some (.string z.id) := fun u => by rw [hz]; exact (u.blk HR.out.2.1).cell 0
      have g1 : ∀ u : LaterOf wr, u.w.cell? ⟨w.heap.size + 1, 1, none⟩ = some (.int .i64 z.h) := fun u => by rw [hz]; exact (u.blk HR.out.2.1).cell 1
      have g2 : ∀ u : LaterOf wr, u.w.cell? ⟨w.heap.size + 1, 2, none⟩ = some (.slice z.pa z.np z.pc) := fun u => by rw [hz]; exact (u.blk HR.out.2.1).cell 2
      have C := Lib.hid (fun u : LaterOf wr => compare_below y z u.w)
      obtain ⟨c, hcc⟩ : ∃ c, c = cmpF y z := ⟨_, rfl⟩
      rw [← hcc] at C
      have HC := Lib.hid hcc
      clear hy hz hcc
      go_upto_region 7 with (fail)
      refine wp_region_all (fun w' => ∃ u : LaterOf wr, w' = u.w) (by kernel_rfl) (by kernel_rfl) ⟨LaterOf.start wr, rfl⟩ ?_
      repeat (go_big_quiet_step (first | exact LaterOf.call _ (C.out _)))
      refine wpQuiet_nil ?_
      intro w8 hw8
      obtain ⟨u, rfl⟩ := hw8
      clear C
      have E := Lib.hid (And.intro (e0 u) (And.intro (e1 u) (e2 u)))
      have K := Lib.hid (show BlkIs u.w w.heap.size 28 noFact ∧ BlkIs u.w (w.heap.size + 1) 28 (factCells (bestF f k)) ∧ Below w.heap.size w u.w from ⟨u.blk HR.out.1, u.blk HR.out.2.1, HR.out.2.2.trans (u.h.mono HR.out.2.2.size)⟩)
      obtain ⟨w8, hw8⟩ : ∃ w8, w8 = u.w := ⟨_, rfl⟩
      rw [← hw8] at E K ⊢
      clear hw8 e0 e1 e2 g0 g1 g2 HR
      have f0 : ∀ i, w8.frozen? ⟨w.heap.size + 1, i, none⟩ = false := fun i => K.out.2.1.free i
      obtain ⟨q0, q1, q2⟩ := E.out
      have hz0 := K.out.2.1
      rw [← HY.out.2] at hz0
      have m0 : w8.cell? ⟨w.heap.size + 1, 0, none⟩ = some (.string z.id) := hz0.cell 0
      have m1 : w8.cell? ⟨w.heap.size + 1, 1, none⟩ = some (.int .i64 z.h) := hz0.cell 1
      have m2 : w8.cell? ⟨w.heap.size + 1, 2, none⟩ = some (.slice z.pa z.np z.pc) := hz0.cell 2
      clear hz0
      by_cases hc : 0 < c
      · have HCC := Lib.hid hc
        go_wp2_with fail
        refine ⟨⟨k + 1, rfl, hk1, Lib.hid ⟨?_, ?_, ?_⟩⟩, ?_⟩
        · exact ((K.out.1.far (by simp) _).far (by simp) _).far (by simp) _
        · rw [bestF, if_pos (by rw [← HY.out.1, ← HY.out.2, ← HC.out]; exact HCC.out), ← HY.out.1]
          exact ((K.out.2.1.put 0 _).put 1 _).put 2 _
        · exact ((K.out.2.2.setCell (by simp) _).setCell (by simp) _).setCell (by simp) _
        · simp [intOf]
          omega
      · have HCC := Lib.hid hc
        have hc0 : decide (0 < c) = false := by simpa using hc
        clear hc
        go_wp2_with fail
        refine ⟨⟨k + 1, rfl, hk1, Lib.hid ⟨K.out.1, ?_, K.out.2.2⟩⟩, ?_⟩
        · rw [bestF, if_neg (by rw [← HY.out.1, ← HY.out.2, ← HC.out]; exact HCC.out)]
          exact K.out.2.1
        · simp [intOf]
          omega
    · have ki : (n : Int) ≤ (k : Int) + 1 := by omega
      obtain ⟨z, hz⟩ : ∃ z, z = bestF f k := ⟨_, rfl⟩
      have HZ := Lib.hid hz
      have g0 : wr.cell? ⟨w.heap.size + 1, 0, none⟩ = some (.string z.id) := by rw [hz]; exact HR.out.2.1.cell 0
      have g1 : wr.cell? ⟨w.heap.size + 1, 1, none⟩ = some (.int .i64 z.h) := by rw [hz]; exact HR.out.2.1.cell 1
      have g2 : wr.cell? ⟨w.heap.size + 1, 2, none⟩ = some (.slice z.pa z.np z.pc) := by rw [hz]; exact HR.out.2.1.cell 2
      have hr := HR.out.1
      have r0 : wr.cell? ⟨w.heap.size, 0, none⟩ = some (.string ⟨#[]⟩) := hr.cell 0
      have r1 : wr.cell? ⟨w.heap.size, 1, none⟩ = some (.int .i64 0) := hr.cell 1
      have r2 : wr.cell? ⟨w.heap.size, 2, none⟩ = some (.slice none 0 0) := hr.cell 2
      have f0 : ∀ i, wr.frozen? ⟨w.heap.size, i, none⟩ = false := fun i => hr.free i
      clear hz
      go_wp2_with fail
      have h0 : (((wr.setCell ⟨w.heap.size, 0, none⟩ (.string z.id)).setCell ⟨w.heap.size, 1, none⟩ (.int .i64 z.h)).setCell ⟨w.heap.size, 2, none⟩ (.slice z.pa z.np z.pc)).heap[w.heap.size]? = some (.cells #[.string z.id, .int .i64 z.h, .slice z.pa z.np z.pc] 28 (0, 0)) := ((hr.put 0 _).put 1 _).put 2 _
      have hbl := Lib.hid (((HR.out.2.2.setCell (p := ⟨w.heap.size, 0, none⟩) (Nat.le_refl _) (.string z.id)).setCell (p := ⟨w.heap.size, 1, none⟩) (Nat.le_refl _) (.int .i64 z.h)).setCell (p := ⟨w.heap.size, 2, none⟩) (Nat.le_refl _) (.slice z.pa z.np z.pc))
      refine bodyPost_ret (results_cell1 rfl _ _ w.heap.size 28 (factCells z) (0, 0) _ rfl h0 Tryz.underlying28 rfl (by show _ = some 3; kernel_rfl)) rfl ?_
      exact ⟨by rw [HZ.out, show n - 1 = k by omega], hbl.out⟩
/-- What Best answers. -/
def bestOf (f : Nat → Fv) (n : Nat) : Fv := if n = 0 then default else bestF f (n - 1)
theorem best_end (w w8 : World) (x : Fv) (v : Bool) (tmps : Array Value) (h2 : tmps.getD 2 undef = .pointer (some ⟨w.heap.size, 0, none⟩)) (h3 : tmps.getD 3 undef = .bool v) (k : BlkIs w8 w.heap.size 28 (factCells x)) (hb : Below w.heap.size w w8) :
    bodyPost Tryz.prog Tryz.f16 (fun e w' => e = .returned (.tuple #[.agg (factCells x), .bool v]) ∧ Below w.heap.size w w') Exit.ret ⟨tmps, []⟩ w8 := by
  refine bodyPost_ret (results_cell_tmp' rfl _ _ w.heap.size 28 (factCells x) (0, 0) _ h2 k Tryz.underlying28 rfl (by show _ = some 3; kernel_rfl)) rfl ?_
  exact ⟨by rw [h3], hb⟩
/-- A block of a fact, written over. -/
theorem fact_put {w w' : World} {g : Nat} {y : Fv} {cs : Array Value} (h : BlkIs w' g 28 cs) (hs : ∃ a b c, cs = #[a, b, c]) :
    BlkIs (((w'.setCell ⟨g, 0, none⟩ (.string y.id)).setCell ⟨g, 1, none⟩ (.int .i64 y.h)).setCell ⟨g, 2, none⟩ (.slice y.pa y.np y.pc)) g 28 (factCells y) := by
  obtain ⟨a, b, c, rfl⟩ := hs
  exact ((h.put 0 _).put 1 _).put 2 _
set_option maxRecDepth 100000 in
theorem best_any (ao : Option Addr) (n cap : Nat) (f : Nat → Fv) (w : World) (h : FactsAt w ao n f) :
    Calls Tryz.prog 16 #[.slice ao n cap] w fun e w' => e = .returned (.tuple #[.agg (factCells (bestOf f n)), .bool (decide (0 < n))]) ∧ Below w.heap.size w w' := by
  rcases Nat.eq_zero_or_pos n with rfl | hn
  · have e0 : bestOf f 0 = default := rfl
    have e1 : decide (0 < 0) = false := rfl
    rw [e0, e1]
    clear e0 e1 h
    go_enter Tryz.func16, Tryz.ntmps16
    go_wp2_with fail
    have hz : Below w.heap.size w (w.alloc (.cells #[.string ⟨#[]⟩, .int .i64 0, .slice none 0 0] 28)) := (Below.refl _ _).alloc (Nat.le_refl _) _
    exact best_end w _ default false _ rfl rfl (BlkIs.new w 28 _) hz
  · have M := Lib.hid (fun w' (h' : FactsAt w' ao n f) => max_fact ao n cap f w' h' hn)
    have n0 : ((n : Int) == 0) = false := by simp; omega
    have hbo : bestOf f n = bestF f (n - 1) := by unfold bestOf; rw [if_neg (by omega)]
    rw [← hbo] at M
    generalize bestOf f n = x at *
    have H1 := Lib.hid (h.later ((Below.refl w.heap.size w).alloc (Nat.le_refl _) (.cells noFact 28)))
    have HB := Lib.hid (show BlkIs (w.alloc (.cells noFact 28)) w.heap.size 28 noFact from BlkIs.new w _ _)
    have HL := Lib.hid ((Below.refl w.heap.size w).alloc (Nat.le_refl _) (.cells noFact 28))
    have HN := Lib.hid hn
    unfold noFact at H1 HB HL
    clear h hbo hn
    go_enter Tryz.func16, Tryz.ntmps16
    go_wp2_with fail
    refine (M.out _ H1.out).mono ?_
    rintro e w1 ⟨rfl, hb1⟩
    have hk := HB.out.below hb1 HB.out.lt
    have hz : w.heap.size < (w.alloc (.cells #[.string ⟨#[]⟩, .int .i64 0, .slice none 0 0] 28)).heap.size := HB.out.lt
    have hb2 := HL.out.trans (hb1.mono (Nat.le_of_lt hz))
    have r0 : w1.cell? ⟨w.heap.size, 0, none⟩ = some (.string ⟨#[]⟩) := hk.cell 0
    have r1 : w1.cell? ⟨w.heap.size, 1, none⟩ = some (.int .i64 0) := hk.cell 1
    have r2 : w1.cell? ⟨w.heap.size, 2, none⟩ = some (.slice none 0 0) := hk.cell 2
    have f0 : ∀ i, w1.frozen? ⟨w.heap.size, i, none⟩ = false := fun i => hk.free i
    have T := Lib.hid (And.intro hk hb2)
    clear M H1 HB HL hb1 hk hz hb2
    unfold factCells
    go_wp2_with fail
    refine best_end w _ x _ _ rfl ?_ (fact_put (w := w) T.out.1 ⟨_, _, _, rfl⟩) (((T.out.2.setCell (by simp) _).setCell (by simp) _).setCell (by simp) _)
    rw [decide_eq_true HN.out]
    rfl
end Go.Proofs.YthcgdpdijdmelaaGreat.Ord
