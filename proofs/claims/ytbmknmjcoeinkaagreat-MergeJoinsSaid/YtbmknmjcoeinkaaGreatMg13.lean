/- merge.copied: a tomb in new memory, walked. (Layer 13.) -/
import Derived.Test.YtbmknmjcoeinkaaGreatMg11
import Derived.Test.YtbmknmjcoeinkaaGreatMgC
import Derived.Test.YtbmknmjcoeinkaaGreatCell
import Derived.Deep.RegionWith
namespace Go.Proofs.YtbmknmjcoeinkaaGreat.Mg
set_option linter.unusedVariables false
open Go.RowKit Go.Lib
open Mk (Rf Tok Tb TbR aTb vRf vTok vTb vInt)
open Set (El icells)
theorem tb_put {w : World} {g : Nat} {cs : Array Value} (c0 c1 c2 c3 c4 : Value) (h : BlkIs w g 43 cs) (hs : ∃ a b c d e, cs = #[a, b, c, d, e]) :
    BlkIs (((((w.setCell ⟨g, 0, none⟩ c0).setCell ⟨g, 1, none⟩ c1).setCell ⟨g, 2, none⟩ c2).setCell ⟨g, 3, none⟩ c3).setCell ⟨g, 4, none⟩ c4) g 43 #[c0, c1, c2, c3, c4] := by
  obtain ⟨a, b, c, d, e, rfl⟩ := hs
  exact ((((h.put 0 _).put 1 _).put 2 _).put 3 _).put 4 _
theorem sl_five {w : World} {base k n g : Nat} {e : TypeId} {v c0 c1 c2 c3 c4 : Value} {xs : List Value} (h : SlIs w base e k v n xs) (hg : v.ownBlock ≠ some g) :
    SlIs (((((w.setCell ⟨g, 0, none⟩ c0).setCell ⟨g, 1, none⟩ c1).setCell ⟨g, 2, none⟩ c2).setCell ⟨g, 3, none⟩ c3).setCell ⟨g, 4, none⟩ c4) base e k v n xs :=
  ((((h.far hg _).far hg _).far hg _).far hg _).far hg _
theorem copied_end (w8 : World) (b : Nat) (cs : Array Value) (hs : cs.size = 5) (tmps : Array Value) (Q : Ending → World → Prop) (h2 : tmps.getD 2 undef = .pointer (some ⟨b, 0, none⟩)) (k : BlkIs w8 b 43 cs) (hQ : Q (.returned (.agg cs)) w8) :
    bodyPost Tryz.prog Tryz.f72 Q Exit.ret ⟨tmps, []⟩ w8 :=
  bodyPost_ret (results_cell1 rfl _ _ b 43 cs (0, 0) _ h2 k Tryz.underlying43 rfl (by rw [hs]; show _ = some 5; kernel_rfl)) rfl hQ
set_option maxRecDepth 100000 in
set_option maxHeartbeats 4000000 in
theorem copied_any (x : TbR) (w : World) (h : x.Reads w) (hn : x.t.cov.length ≤ 1000000 ∧ x.t.acks.length ≤ 1000000) : Calls Tryz.prog 72 #[aTb x] w fun e w' =>
    ∃ cv av, e = .returned (aTb ⟨x.t, cv, av⟩) ∧ (SlIs w' w.heap.size 45 3 cv x.t.cov.length (rowCells vTok x.t.cov) ∧ SlIs w' w.heap.size 3 1 av x.t.acks.length (rowCells vInt x.t.acks)) ∧ Below w.heap.size w w' := by
  obtain ⟨⟨a0, a1, a2, l1, l2⟩, v1, v2⟩ := x
  obtain ⟨hr1, hr2⟩ := h
  dsimp only at hr1 hr2 hn ⊢
  obtain ⟨B, hB⟩ : ∃ B, B = w.heap.size := ⟨_, rfl⟩
  obtain ⟨W2, hW2⟩ : ∃ W2, W2 = (w.alloc (.cells #[.int .i64 a0, .int .i64 a1, .string a2, v1, v2] 43)).alloc (.cells #[.int .i64 0, .int .i64 0, .string ⟨#[]⟩, .slice none 0 0, .slice none 0 0] 43) := ⟨_, rfl⟩
  have K := Lib.hid (show BlkIs W2 B 43 #[.int .i64 a0, .int .i64 a1, .string a2, v1, v2] ∧ BlkIs W2 (B + 1) 43 #[.int .i64 0, .int .i64 0, .string ⟨#[]⟩, .slice none 0 0, .slice none 0 0] ∧ Below B w W2 ∧ B + 2 ≤ W2.heap.size from by
    rw [hW2, hB]
    exact ⟨(BlkIs.new _ _ _).alloc _, BlkIs.new2 _ _ _ _, ((Below.refl _ _).alloc (Nat.le_refl _) _).alloc (by simp) _, by simp⟩)
  have T1 := Lib.hid (show ∀ W, Below W2.heap.size W2 W → Calls Tryz.prog 44 #[v1] W fun e w' => ∃ v', e = .returned v' ∧ SlIs w' W2.heap.size 45 3 v' l1.length (rowCells vTok l1) ∧ Below W2.heap.size W2 w' from fun W hW => by
    refine (clone_tok v1 l1 W (hr1.later ((by rw [← hB]; exact K.out.2.2.1 : Below w.heap.size w W2).trans (hW.mono K.out.2.2.1.size))) hn.1).mono ?_
    rintro e w' ⟨v', he, hs, hb⟩
    exact ⟨v', he, hs.mono hW.size, hW.trans (hb.mono hW.size)⟩)
  have T2 := Lib.hid (show ∀ W, Below W2.heap.size W2 W → Calls Tryz.prog 108 #[v2] W fun e w' => ∃ v', e = .returned v' ∧ SlIs w' W.heap.size 3 1 v' l2.length (rowCells vInt l2) ∧ Below W.heap.size W w' from fun W hW => by
    refine (Set.clone_int v2 l2 W (intAt_of (hr2.later ((by rw [← hB]; exact K.out.2.2.1 : Below w.heap.size w W2).trans (hW.mono K.out.2.2.1.size)))) hn.2).mono ?_
    rintro e w' ⟨v', he, hs, hb⟩
    rw [rowCells_int]
    exact ⟨v', he, hs, hb⟩)
  have hb0 : Below W2.heap.size W2 W2.drew := ⟨rfl, rfl, rfl, Nat.le_refl _, fun _ _ => rfl⟩
  have d3 : W2.drew.cell? ⟨B, 3, none⟩ = some v1 := K.out.1.cell 3
  have d4 : W2.drew.cell? ⟨B, 4, none⟩ = some v2 := K.out.1.cell 4
  obtain ⟨o1, f1, rfl, -, -⟩ := hr1.form
  obtain ⟨o2, f2, rfl, -, -⟩ := hr2.form
  obtain ⟨n1, hn1⟩ : ∃ n, n = l1.length := ⟨_, rfl⟩
  obtain ⟨n2, hn2⟩ : ∃ n, n = l2.length := ⟨_, rfl⟩
  rw [← hn1] at T1 d3 K hW2 ⊢
  rw [← hn2] at T2 d4 K hW2 ⊢
  have HW := Lib.hid hW2
  show Calls Tryz.prog 72 #[.agg #[.int .i64 a0, .int .i64 a1, .string a2, .slice o1 n1 f1, .slice o2 n2 f2]] w _
  clear hr1 hr2 hn hW2 hn1 hn2
  go_enter Tryz.func72, Tryz.ntmps72
  go_upto_region 1 with (fail)
  rw [← hB]
  rw [← HW.out]
  have HB := Lib.hid hB
  clear hB
  go_region_with (first
    | (go_at_call 44
       refine (T1.out _ hb0).mono ?_
       rintro e w5 ⟨c5, rfl, hs5, hb5⟩
       obtain ⟨p5, m5, rfl, -, -, -⟩ := hs5.form
       have q4 : w5.cell? ⟨B, 4, none⟩ = some (.slice o2 n2 f2) := (hb5.cell K.out.1.lt).trans d4)
    | (go_at_call 108
       refine (T2.out _ hb5).mono ?_
       rintro e w8 ⟨c8, rfl, hs8, hb8⟩
       obtain ⟨p8, m8, rfl, -, -, -⟩ := hs8.form
       have hb2 : Below W2.heap.size W2 w8 := hb5.trans (hb8.mono hb5.size)
       have k8 : BlkIs w8 B 43 #[.int .i64 a0, .int .i64 a1, .string a2, .slice o1 n1 f1, .slice o2 n2 f2] := K.out.1.below hb2 K.out.1.lt
       have r3 : w8.cell? ⟨B, 3, none⟩ = some (.slice o1 n1 f1) := k8.cell 3
       have r4 : w8.cell? ⟨B, 4, none⟩ = some (.slice o2 n2 f2) := k8.cell 4
       have f3 : ∀ i, w8.frozen? ⟨B, i, none⟩ = false := fun i => k8.free i
       have H8 := Lib.hid (And.intro k8 hb2)
       clear hb2 k8))
  all_goals
    obtain ⟨W9, hW9⟩ : ∃ W9, W9 = (w8.setCell ⟨B, 3, none⟩ (.slice p5 n1 m5)).setCell ⟨B, 4, none⟩ (.slice p8 n2 m8) := ⟨_, rfl⟩
    have L := Lib.hid (show (BlkIs W9 B 43 #[.int .i64 a0, .int .i64 a1, .string a2, .slice p5 n1 m5, .slice p8 n2 m8] ∧ BlkIs W9 (B + 1) 43 #[.int .i64 0, .int .i64 0, .string ⟨#[]⟩, .slice none 0 0, .slice none 0 0]) ∧
        (SlIs W9 B 45 3 (.slice p5 n1 m5) n1 (rowCells vTok l1) ∧ SlIs W9 B 3 1 (.slice p8 n2 m8) n2 (rowCells vInt l2)) ∧ Below B w W9 from by
      have t5 : SlIs w8 B 45 3 (.slice p5 n1 m5) n1 (rowCells vTok l1) := (hs5.later hb8).mono (by have := K.out.2.2.2; omega)
      have t8 : SlIs w8 B 3 1 (.slice p8 n2 m8) n2 (rowCells vInt l2) := hs8.mono (by have := K.out.2.2.2; have := hb5.size; omega)
      have g5 := t5.ne_blk H8.out.1 (by decide)
      have g8 := t8.ne_blk H8.out.1 (by decide)
      rw [hW9]
      refine ⟨⟨(H8.out.1.put 3 _).put 4 _, ((K.out.2.1.below H8.out.2 K.out.2.1.lt).far (by simp) _).far (by simp) _⟩, ⟨(t5.far g5 _).far g5 _, (t8.far g8 _).far g8 _⟩, ?_⟩
      exact ((K.out.2.2.1.trans (H8.out.2.mono (by have := K.out.2.2.2; omega))).setCell (Nat.le_refl _) _).setCell (Nat.le_refl _) _)
    rw [← hW9]
    clear T1 T2 hb0 hb5 hb8 hs5 hs8 d3 d4 q4 r3 r4 f3 hW9
    have e0 : W9.cell? ⟨B, 0, none⟩ = some (.int .i64 a0) := L.out.1.1.cell 0
    have e1 : W9.cell? ⟨B, 1, none⟩ = some (.int .i64 a1) := L.out.1.1.cell 1
    have e2 : W9.cell? ⟨B, 2, none⟩ = some (.string a2) := L.out.1.1.cell 2
    have e3 : W9.cell? ⟨B, 3, none⟩ = some (.slice p5 n1 m5) := L.out.1.1.cell 3
    have e4 : W9.cell? ⟨B, 4, none⟩ = some (.slice p8 n2 m8) := L.out.1.1.cell 4
    have g0 : W9.cell? ⟨B + 1, 0, none⟩ = some (.int .i64 0) := L.out.1.2.cell 0
    have g1 : W9.cell? ⟨B + 1, 1, none⟩ = some (.int .i64 0) := L.out.1.2.cell 1
    have g2 : W9.cell? ⟨B + 1, 2, none⟩ = some (.string ⟨#[]⟩) := L.out.1.2.cell 2
    have g3 : W9.cell? ⟨B + 1, 3, none⟩ = some (.slice none 0 0) := L.out.1.2.cell 3
    have g4 : W9.cell? ⟨B + 1, 4, none⟩ = some (.slice none 0 0) := L.out.1.2.cell 4
    have fr : ∀ i, W9.frozen? ⟨B + 1, i, none⟩ = false := fun i => L.out.1.2.free i
    go_wp2_with fail
    refine copied_end _ (B + 1) #[.int .i64 a0, .int .i64 a1, .string a2, .slice p5 n1 m5, .slice p8 n2 m8] rfl _ _ rfl (tb_put _ _ _ _ _ L.out.1.2 ⟨_, _, _, _, _, rfl⟩) ⟨_, _, rfl, ?_⟩
    have g5 := L.out.2.1.1.ne_blk L.out.1.2 (by decide)
    have g8 := L.out.2.1.2.ne_blk L.out.1.2 (by decide)
    rw [← HB.out]
    exact ⟨⟨sl_five L.out.2.1.1 g5, sl_five L.out.2.1.2 g8⟩, ((((L.out.2.2.setCell (Nat.le_succ B) _).setCell (Nat.le_succ B) _).setCell (Nat.le_succ B) _).setCell (Nat.le_succ B) _).setCell (Nat.le_succ B) _⟩
end Go.Proofs.YtbmknmjcoeinkaaGreat.Mg
