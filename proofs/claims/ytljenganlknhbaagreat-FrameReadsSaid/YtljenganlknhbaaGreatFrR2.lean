/- The reference's cell, walked. Printed by gen_frr2.py. (Layer 19.) -/
import Derived.Test.YtljenganlknhbaaGreatPkW
import Derived.Test.YtljenganlknhbaaGreatMk29
import Derived.Deep.CutBlock
import Derived.Deep.QuietTactic
import Derived.BigQuiet
namespace Go.Proofs.YtljenganlknhbaaGreat.Fr
set_option linter.unusedVariables false
set_option linter.unusedSimpArgs false
open Go.RowKit Oct
open Set (StrAt scells)
open Tr (Cp)
open Mk (moved_row rNum_lt rr_text rr_take rr_num num_wrap)
/-- Where the reference's cell stands: its Reader at g, what it hands back at the first block, the cell at the next. -/
def CS (g : Nat) (w : World) (s : RS) (cs : Array Value) (W : World) : Prop :=
  RRd W g s.1 s.2 ∧ Moved g w W ∧ BlkIs W w.heap.size 49 #[.string ⟨#[]⟩, .int .i64 0, .string ⟨#[]⟩, .slice none 0 0, .slice none 0 0] ∧ BlkIs W (w.heap.size + 1) 49 cs ∧ g < w.heap.size
section
variable {g : Nat} {w : World} {s s' : RS} {cs : Array Value} {W W' : World}
theorem CS.call (h : CS g w s cs W) (hr : RRd W' g s'.1 s'.2) (hm : Moved g W W') : CS g w s' cs W' :=
  ⟨hr, h.2.1.trans hm, hm.blk h.2.2.1 (by have := h.2.2.2.2; omega), hm.blk h.2.2.2.1 (by have := h.2.2.2.2; omega), h.2.2.2.2⟩
theorem CS.put (h : CS g w s cs W) (i : Nat) (u : Value) : CS g w s (cs.setIfInBounds i u) (W.setCell ⟨w.heap.size + 1, i, none⟩ u) :=
  ⟨h.1.far (p := ⟨w.heap.size + 1, i, none⟩) (by have := h.2.2.2.2; show g ≠ w.heap.size + 1; omega) u, moved_fresh h.2.1 (p := ⟨w.heap.size + 1, i, none⟩) (by show w.heap.size ≤ w.heap.size + 1; omega) u, h.2.2.1.far (p := ⟨w.heap.size + 1, i, none⟩) (by show w.heap.size ≠ w.heap.size + 1; omega) u, h.2.2.2.1.put i u, h.2.2.2.2⟩
theorem CS.out (h : CS g w s cs W) (i : Nat) (u : Value) : RRd (W.setCell ⟨w.heap.size, i, none⟩ u) g s.1 s.2 ∧ Moved g w (W.setCell ⟨w.heap.size, i, none⟩ u) :=
  ⟨h.1.far (p := ⟨w.heap.size, i, none⟩) (by have := h.2.2.2.2; show g ≠ w.heap.size; omega) u, moved_fresh h.2.1 (p := ⟨w.heap.size, i, none⟩) (Nat.le_refl _) u⟩
theorem CS.alloc (h : CS g w s cs W) (o : Obj) : CS g w s cs (W.alloc o) := ⟨h.1.alloc o, h.2.1.alloc o, h.2.2.1.alloc o, h.2.2.2.1.alloc o, h.2.2.2.2⟩
theorem CS.app (h : CS g w s cs W) {row : Option Nat} (hg : W.grownBy W' row) (hr : ∀ k, row = some k → w.heap.size + 1 < k) : CS g w s cs W' :=
  ⟨h.1.grown hg (fun e => by have := hr _ e.symm; have := h.2.2.2.2; omega), moved_row h.2.1 hg (fun k hk => by have := hr k hk; omega), BlkIs.grown h.2.2.1 hg (fun e => by have := hr _ e.symm; omega), BlkIs.grown h.2.2.2.1 hg (fun e => by have := hr _ e.symm; omega), h.2.2.2.2⟩
theorem CS.drewN (h : CS g w s cs W) (n : Nat) : CS g w s cs (W.drewN n) := by
  have hb : Below W.heap.size W (W.drewN n) := ⟨rfl, rfl, rfl, Nat.le_refl _, fun _ _ => rfl⟩
  obtain ⟨S, a, hr, h1⟩ := h.1
  exact ⟨⟨S, a, BlkIs.below hr hb hr.lt, h1⟩, h.2.1.trans (Moved.of_below hb), h.2.2.1.below hb h.2.2.1.lt, h.2.2.2.1.below hb h.2.2.2.1.lt, h.2.2.2.2⟩
end
/-- Where the taking of ids stands: n of them are to come. -/
def CSt (g : Nat) (w : World) (L : List ByteArray) (S : RS) (cs : Array Value) (v : Value) (k n : Nat) (W : World) (sk : RS) : Prop :=
  ∃ l : List ByteArray, l.length = k ∧ SlIs W (w.heap.size + 2) 9 1 v k (scells l) ∧ CS g w sk cs W ∧ L = l ++ (rTimes (rTake 32) n sk).1 ∧ S = (rTimes (rTake 32) n sk).2
/-- A cell's five stores into a block of the call's own keep all else. -/
theorem end5r {g A base n : Nat} {w W : World} {a b c d e v : Value} {xs : List Value} {r : ByteArray} {bad : Bool} (hm : Moved g w W) (hr : RRd W g r bad) (hA : BlkIs W A 49 #[a, b, c, d, e]) (hs : SlIs W base 9 1 v n xs) (hgA : g ≠ A) (hwA : w.heap.size ≤ A) (x0 x1 x2 x3 x4 : Value) :
    BlkIs (((((W.setCell ⟨A, 0, none⟩ x0).setCell ⟨A, 1, none⟩ x1).setCell ⟨A, 2, none⟩ x2).setCell ⟨A, 3, none⟩ x3).setCell ⟨A, 4, none⟩ x4) A 49 #[x0, x1, x2, x3, x4] ∧
    RRd (((((W.setCell ⟨A, 0, none⟩ x0).setCell ⟨A, 1, none⟩ x1).setCell ⟨A, 2, none⟩ x2).setCell ⟨A, 3, none⟩ x3).setCell ⟨A, 4, none⟩ x4) g r bad ∧
    Moved g w (((((W.setCell ⟨A, 0, none⟩ x0).setCell ⟨A, 1, none⟩ x1).setCell ⟨A, 2, none⟩ x2).setCell ⟨A, 3, none⟩ x3).setCell ⟨A, 4, none⟩ x4) ∧
    SlIs (((((W.setCell ⟨A, 0, none⟩ x0).setCell ⟨A, 1, none⟩ x1).setCell ⟨A, 2, none⟩ x2).setCell ⟨A, 3, none⟩ x3).setCell ⟨A, 4, none⟩ x4) base 9 1 v n xs := by
  have ho : v.ownBlock ≠ some A := hs.ne_blk hA (by decide)
  refine ⟨put5c hA x0 x1 x2 x3 x4, ?_, ?_, ?_⟩
  · exact ((((RRd.far hr (p := ⟨A, 0, none⟩) hgA x0).far (p := ⟨A, 1, none⟩) hgA x1).far (p := ⟨A, 2, none⟩) hgA x2).far (p := ⟨A, 3, none⟩) hgA x3).far (p := ⟨A, 4, none⟩) hgA x4
  · exact moved_fresh (moved_fresh (moved_fresh (moved_fresh (moved_fresh hm (p := ⟨A, 0, none⟩) hwA x0) (p := ⟨A, 1, none⟩) hwA x1) (p := ⟨A, 2, none⟩) hwA x2) (p := ⟨A, 3, none⟩) hwA x3) (p := ⟨A, 4, none⟩) hwA x4
  · exact ((((hs.far (p := ⟨A, 0, none⟩) ho x0).far (p := ⟨A, 1, none⟩) ho x1).far (p := ⟨A, 2, none⟩) ho x2).far (p := ⟨A, 3, none⟩) ho x3).far (p := ⟨A, 4, none⟩) ho x4
set_option maxRecDepth 100000 in
set_option maxHeartbeats 4000000 in
theorem rcell_any (g : Nat) (s : RS) (w : World) (h : RRd w g s.1 s.2) :
    Calls Tryz.prog 60 #[.pointer (some ⟨g, 0, none⟩)] w fun e w' => ∃ r : CpR, e = .returned (aCp r) ∧ r.c = (rCell s).1 ∧ r.Own w.heap.size w' ∧ RRd w' g (rCell s).2.1 (rCell s).2.2 ∧ Moved g w w' := by
  have hgl := h.lt
  obtain ⟨x1, s1, hq1⟩ : ∃ x s', rText 64 s = (x, s') := ⟨_, _, rfl⟩
  obtain ⟨x2, s2, hq2⟩ : ∃ x s', rNum s1 = (x, s') := ⟨_, _, rfl⟩
  obtain ⟨x3, s3, hq3⟩ : ∃ x s', rTake 32 s2 = (x, s') := ⟨_, _, rfl⟩
  have hlt := rNum_lt s1
  rw [hq2] at hlt
  have hC : rCell s = (⟨x1, x2, x3, (rCellT x2 s3).1.1, (rCellT x2 s3).1.2⟩, (rCellT x2 s3).2) := by
    unfold rCell rCellH
    simp only [hq1, hq2, hq3]
  rw [hC]
  obtain ⟨W1, hW1⟩ : ∃ W1, W1 = (w.alloc (.cells #[.string ⟨#[]⟩, .int .i64 0, .string ⟨#[]⟩, .slice none 0 0, .slice none 0 0] 49)).alloc (.cells #[.string ⟨#[]⟩, .int .i64 0, .string ⟨#[]⟩, .slice none 0 0, .slice none 0 0] 49) := ⟨_, rfl⟩
  have H1 := Lib.hid (show CS g w s #[.string ⟨#[]⟩, .int .i64 0, .string ⟨#[]⟩, .slice none 0 0, .slice none 0 0] W1 from by
    rw [hW1]
    exact ⟨(h.alloc _).alloc _, ((Moved.refl g w).alloc _).alloc _, (BlkIs.new _ _ _).alloc _, BlkIs.new2 _ _ _ _, hgl⟩)
  have HQ := Lib.hid (And.intro hq1 (And.intro hq2 hq3))
  have HW := Lib.hid hW1
  have hw := num_wrap hq2
  have HL := Lib.hid hlt
  clear h hgl hq1 hq2 hq3 hC hW1 hlt
  go_enter Tryz.func60, Tryz.ntmps60
  go_wp2_with fail
  rw [← HW.out]
  clear HW
  refine (rr_text g s s1 64 x1 HQ.out.1 W1 H1.out.1).mono ?_
  rintro e V0 ⟨rfl, hr, hm⟩
  have G0 := Lib.hid (H1.out.call hr hm)
  have g0 : V0.cell? ⟨w.heap.size + 1, 0, none⟩ = some (.string ⟨#[]⟩) := G0.out.2.2.2.1.cell 0
  have f0 : V0.frozen? ⟨w.heap.size + 1, 0, none⟩ = false := G0.out.2.2.2.1.free 0
  clear hr hm
  go_wp2_with fail
  obtain ⟨P0, hV⟩ : ∃ V, V = V0.setCell ⟨w.heap.size + 1, 0, none⟩ (.string x1) := ⟨_, rfl⟩
  have hp := G0.out.put 0 (.string x1)
  rw [← hV] at hp ⊢
  have HP0 := Lib.hid (show CS g w s1 #[.string x1, .int .i64 0, .string ⟨#[]⟩, .slice none 0 0, .slice none 0 0] P0 from hp)
  clear hp hV g0 f0 G0
  refine (rr_num g s1 s2 x2 HQ.out.2.1 P0 HP0.out.1).mono ?_
  rintro e V1 ⟨rfl, hr, hm⟩
  have G1 := Lib.hid (HP0.out.call hr hm)
  have g1 : V1.cell? ⟨w.heap.size + 1, 1, none⟩ = some (.int .i64 0) := G1.out.2.2.2.1.cell 1
  have f1 : V1.frozen? ⟨w.heap.size + 1, 1, none⟩ = false := G1.out.2.2.2.1.free 1
  clear hr hm
  go_wp2_with fail
  obtain ⟨P1, hV⟩ : ∃ V, V = V1.setCell ⟨w.heap.size + 1, 1, none⟩ (.int .i64 x2) := ⟨_, rfl⟩
  have hp := G1.out.put 1 (.int .i64 x2)
  rw [← hV] at hp ⊢
  have HP1 := Lib.hid (show CS g w s2 #[.string x1, .int .i64 x2, .string ⟨#[]⟩, .slice none 0 0, .slice none 0 0] P1 from hp)
  clear hp hV g1 f1 G1
  refine (rr_take g s2 s3 32 (by decide) x3 HQ.out.2.2 P1 HP1.out.1).mono ?_
  rintro e V2 ⟨rfl, hr, hm⟩
  have G2 := Lib.hid (HP1.out.call hr hm)
  have g2 : V2.cell? ⟨w.heap.size + 1, 2, none⟩ = some (.string ⟨#[]⟩) := G2.out.2.2.2.1.cell 2
  have f2 : V2.frozen? ⟨w.heap.size + 1, 2, none⟩ = false := G2.out.2.2.2.1.free 2
  clear hr hm
  go_upto_block 0 with (fail)
  obtain ⟨P2, hV⟩ : ∃ V, V = V2.setCell ⟨w.heap.size + 1, 2, none⟩ (.string x3) := ⟨_, rfl⟩
  have hp := G2.out.put 2 (.string x3)
  rw [← hV] at hp ⊢
  have HP2 := Lib.hid (show CS g w s3 #[.string x1, .int .i64 x2, .string x3, .slice none 0 0, .slice none 0 0] P2 from hp)
  clear hp hV g2 f2 G2
  obtain ⟨N, rfl⟩ : ∃ N : Nat, x2 = (N : Int) := ⟨x2.toNat, by have := HL.out; omega⟩
  clear H1 HP0 HP1 HQ
  have c1 : P2.cell? ⟨w.heap.size + 1, 1, none⟩ = some (.int .i64 (N : Int)) := HP2.out.2.2.2.1.cell 1
  by_cases hn8 : 8 < N
  · have HC := Lib.hid (show rCellT (N : Int) s3 = (([], (rTimes (rTake 32) 16 s3).1), (rTimes (rTake 32) 16 s3).2) from by unfold rCellT; rw [if_pos (by omega)])
    have kb : (8 : Int) < (N : Int) := by omega
    have kb2 : decide ((N : Int) ≤ 8) = false := decide_eq_false (by omega)
    have kb3 : (0 : Int) < (N : Int) := by omega
    have HS0 := Lib.hid HP2.out
    clear hn8 HP2
    go_wp2_with fail
    go_loopw [4] (fun i wx => i = .int .i64 0 ∧ P2 = wx) (fun _ _ => 0)
    case atStart => exact ⟨rfl, rfl⟩
    case round =>
      obtain ⟨rfl, rfl⟩ := hrel
      go_wp2_with fail
      go_loopw [6] (fun i wr => ∃ (k c : Nat) (ao : Option Addr) (b : Bool) (r : ByteArray), i = .int .i64 (k : Int) ∧ k ≤ 16 ∧ Hid (CSt g w (rTimes (rTake 32) 16 s3).1 (rTimes (rTake 32) 16 s3).2 #[.string x1, .int .i64 (N : Int), .string x3, .slice none 0 0, .slice ao k c] (.slice ao k c) k (16 - k) wr (r, b))) (fun i _ => 16 - (RowKit.intOf i).toNat)
      case atStart =>
        exact ⟨0, 0, none, s3.2, s3.1, rfl, Nat.zero_le _, Lib.hid ⟨[], rfl, SlIs.nil_ _ _ _ _, HS0.out, rfl, rfl⟩⟩
      case round =>
        obtain ⟨k, c, ao, b, r, rfl, hkN, HS⟩ := hrel
        obtain ⟨l, hlk, hsl, hcs, hm1, hm2⟩ := HS.out
        have HS1 := Lib.hid hsl
        have HR1 := Lib.hid hcs
        have HE1 := Lib.hid (And.intro hlk (And.intro hm1 hm2))
        have c1 : wr.cell? ⟨w.heap.size + 1, 1, none⟩ = some (.int .i64 (N : Int)) := hcs.2.2.2.1.cell 1
        clear HS hlk hsl hcs hm1 hm2
        rcases Nat.lt_or_ge k 16 with hlt | hge
        · have ki : (k : Int) < 16 := by omega
          have hsn := rTimes_snoc (rTake 32) (16 - (k + 1)) (r, b)
          rw [show 16 - (k + 1) + 1 = 16 - k by omega] at hsn
          obtain ⟨x, s5, hq5⟩ : ∃ x s', rTake 32 (r, b) = (x, s') := ⟨_, _, rfl⟩
          rw [hq5] at hsn
          have HSn := Lib.hid hsn
          have HQ5 := Lib.hid hq5
          clear hsn hq5
          go_wp2_with fail
          obtain ⟨wq, hwq⟩ : ∃ W, W = wr := ⟨_, rfl⟩
          have QQ := Lib.hid (show CS g w (r, b) #[.string x1, .int .i64 (N : Int), .string x3, .slice none 0 0, .slice ao k c] wq from hwq ▸ HR1.out)
          have QS := Lib.hid (show SlIs wq (w.heap.size + 2) 9 1 (.slice ao k c) k (scells l) from hwq ▸ HS1.out)
          rw [← hwq]
          refine (rr_take g (r, b) s5 32 (by decide) x HQ5.out wq QQ.out.1).mono ?_
          rintro e w4 ⟨rfl, hr4, hm4⟩
          have hgw := HR1.out.2.2.2.2
          have hs4 := hm4.sl QS.out (by omega)
          have H4 := Lib.hid (show SlIs w4 (w.heap.size + 2) 9 1 (.slice ao k c) k (scells l) ∧ CS g w s5 #[.string x1, .int .i64 (N : Int), .string x3, .slice none 0 0, .slice ao k c] w4 from ⟨hs4, QQ.out.call hr4 hm4⟩)
          have q1 : w4.cell? ⟨w.heap.size + 1, 4, none⟩ = some (.slice ao k c) := H4.out.2.2.2.2.1.cell 4
          have hz4 : w.heap.size + 2 ≤ w4.heap.size := H4.out.2.2.2.2.1.lt
          clear hr4 hm4 hs4 c1 hgw
          go_wp2_with (at_builtin; refine wpList_append_sl rfl _ _ _ 22 (by rfl) el_s (base := w.heap.size + 2) (.slice ao k c) k (scells l) (by rfl) (H4.out.1.alloc _) _ 1 [Value.string x] (by rfl) (SrcIs.own Tryz.underlying22 (SlIs.made (base := 0) (BlkIs.new _ _ _) (Nat.zero_le _) rfl (by decide))) (by intro u hu; simp at hu; rcases hu with rfl <;> rfl) (by unfold maxLen; omega) (by omega) (by simp; omega) ?_)
          intro v5 w5 hs5 hg5 hat5
          obtain ⟨ao5, c5, rfl, -, -, -⟩ := hs5.form
          rw [scells_snoc] at hs5
          have hrow : ∀ j, (Value.slice ao k c).ownBlock = some j → w.heap.size + 1 < j := fun j hj => (H4.out.1.lt j hj).1
          have R5 := (H4.out.2.alloc (.cells #[Value.string x] 9)).app hg5 hrow
          have e5 : w5.cell? ⟨w.heap.size + 1, 4, none⟩ = some (.slice ao k c) := R5.2.2.2.1.cell 4
          have f5 : w5.frozen? ⟨w.heap.size + 1, 4, none⟩ = false := R5.2.2.2.1.free 4
          have R6 := Lib.hid (show CS g w s5 #[.string x1, .int .i64 (N : Int), .string x3, .slice none 0 0, .slice ao5 (k + 1) c5] (w5.setCell ⟨w.heap.size + 1, 4, none⟩ (.slice ao5 (k + 1) c5)) from R5.put 4 (.slice ao5 (k + 1) c5))
          have hs6 := Lib.hid (Mk.sl_farB hs5 (p := ⟨w.heap.size + 1, 4, none⟩) (Nat.lt_succ_self _) (.slice ao5 (k + 1) c5))
          clear hs5 hg5 hat5 hrow R5 q1 hz4
          go_wp2_with fail
          refine ⟨⟨k + 1, c5, ao5, s5.2, s5.1, by simp, by omega, Lib.hid ⟨l ++ [x], by simp [HE1.out.1], hs6.out, R6.out, ?_, ?_⟩⟩, by simp [RowKit.intOf]; omega⟩
          · rw [HE1.out.2.1, HSn.out.1, List.append_assoc]
          · rw [HE1.out.2.2, HSn.out.2]
        · obtain rfl : 16 = k := by omega
          have hL := HE1.out.2.1
          have hS := HE1.out.2.2
          rw [Nat.sub_self] at hL hS
          have hL2 : (rTimes (rTake 32) 16 s3).1 = l := by rw [hL]; exact List.append_nil _
          have hS2 : (rTimes (rTake 32) 16 s3).2 = (r, b) := hS
          have HLS := Lib.hid (And.intro hL2 hS2)
          clear hL hS hL2 hS2
          have y0 : wr.cell? ⟨w.heap.size + 1, 0, none⟩ = some (.string x1) := HR1.out.2.2.2.1.cell 0
          have y2 : wr.cell? ⟨w.heap.size + 1, 2, none⟩ = some (.string x3) := HR1.out.2.2.2.1.cell 2
          have y3 : wr.cell? ⟨w.heap.size + 1, 3, none⟩ = some (.slice none 0 0) := HR1.out.2.2.2.1.cell 3
          have y4 : wr.cell? ⟨w.heap.size + 1, 4, none⟩ = some (.slice ao 16 c) := HR1.out.2.2.2.1.cell 4
          have z0 : wr.cell? ⟨w.heap.size, 0, none⟩ = some (.string ⟨#[]⟩) := HR1.out.2.2.1.cell 0
          have z1 : wr.cell? ⟨w.heap.size, 1, none⟩ = some (.int .i64 0) := HR1.out.2.2.1.cell 1
          have z2 : wr.cell? ⟨w.heap.size, 2, none⟩ = some (.string ⟨#[]⟩) := HR1.out.2.2.1.cell 2
          have z3 : wr.cell? ⟨w.heap.size, 3, none⟩ = some (.slice none 0 0) := HR1.out.2.2.1.cell 3
          have z4 : wr.cell? ⟨w.heap.size, 4, none⟩ = some (.slice none 0 0) := HR1.out.2.2.1.cell 4
          have g0 : wr.frozen? ⟨w.heap.size, 0, none⟩ = false := HR1.out.2.2.1.free 0
          have g1 : wr.frozen? ⟨w.heap.size, 1, none⟩ = false := HR1.out.2.2.1.free 1
          have g2 : wr.frozen? ⟨w.heap.size, 2, none⟩ = false := HR1.out.2.2.1.free 2
          have g3 : wr.frozen? ⟨w.heap.size, 3, none⟩ = false := HR1.out.2.2.1.free 3
          have g4 : wr.frozen? ⟨w.heap.size, 4, none⟩ = false := HR1.out.2.2.1.free 4
          obtain ⟨E1, E2, E3, E4⟩ := end5r (A := w.heap.size) HR1.out.2.1 HR1.out.1 HR1.out.2.2.1 HS1.out (fun e => by have := HR1.out.2.2.2.2; omega) (Nat.le_refl _) (.string x1) (.int .i64 (N : Int)) (.string x3) (.slice none 0 0) (.slice ao 16 c)
          have HEnd := Lib.hid (And.intro E1 (And.intro E2 (And.intro E3 E4)))
          clear E1 E2 E3 E4
          have ki : decide (16 < 16) = false := rfl
          go_wp2_with fail
          refine bodyPost_ret (results_cell1 rfl _ _ w.heap.size 49 #[.string x1, .int .i64 (N : Int), .string x3, .slice none 0 0, .slice ao 16 c] (0, 0) _ rfl HEnd.out.1 Tryz.underlying49 rfl (by show _ = some 5; kernel_rfl)) rfl ?_
          refine ⟨⟨⟨x1, (N : Int), x3, [], l⟩, .slice none 0 0, .slice ao 16 c⟩, rfl, ?_, ⟨SlIs.nil_ _ _ _ _, by show SlIs _ _ _ _ (.slice ao 16 c) l.length (scells l); rw [HE1.out.1]; exact HEnd.out.2.2.2.mono (by omega)⟩, ?_, HEnd.out.2.2.1⟩
          · rw [HC.out, HLS.out.1]
          · rw [HC.out, HLS.out.2]
            exact HEnd.out.2.1
  · have hN8 : N ≤ 8 := by omega
    have HC := Lib.hid (show rCellT (N : Int) s3 = (((rTimes (rTake 32) N s3).1, []), (rTimes (rTake 32) N s3).2) from by unfold rCellT; rw [if_neg (by omega), Int.toNat_natCast])
    have kb : decide ((8 : Int) < (N : Int)) = false := decide_eq_false (by omega)
    have kb2 : (N : Int) ≤ 8 := by omega
    have HS0 := Lib.hid HP2.out
    clear hn8 HP2
    go_wp2_with fail
    go_loopw [4] (fun i wr => ∃ (k c : Nat) (ao : Option Addr) (b : Bool) (r : ByteArray), i = .int .i64 (k : Int) ∧ k ≤ N ∧ Hid (CSt g w (rTimes (rTake 32) N s3).1 (rTimes (rTake 32) N s3).2 #[.string x1, .int .i64 (N : Int), .string x3, .slice ao k c, .slice none 0 0] (.slice ao k c) k (N - k) wr (r, b))) (fun i _ => N - (RowKit.intOf i).toNat)
    case atStart =>
      exact ⟨0, 0, none, s3.2, s3.1, rfl, Nat.zero_le _, Lib.hid ⟨[], rfl, SlIs.nil_ _ _ _ _, HS0.out, rfl, rfl⟩⟩
    case round =>
      obtain ⟨k, c, ao, b, r, rfl, hkN, HS⟩ := hrel
      obtain ⟨l, hlk, hsl, hcs, hm1, hm2⟩ := HS.out
      have HS1 := Lib.hid hsl
      have HR1 := Lib.hid hcs
      have HE1 := Lib.hid (And.intro hlk (And.intro hm1 hm2))
      have c1 : wr.cell? ⟨w.heap.size + 1, 1, none⟩ = some (.int .i64 (N : Int)) := hcs.2.2.2.1.cell 1
      clear HS hlk hsl hcs hm1 hm2
      rcases Nat.lt_or_ge k N with hlt | hge
      · have ki : (k : Int) < (N : Int) := by omega
        have ki8 : (k : Int) < 8 := by omega
        have hsn := rTimes_snoc (rTake 32) (N - (k + 1)) (r, b)
        rw [show N - (k + 1) + 1 = N - k by omega] at hsn
        obtain ⟨x, s5, hq5⟩ : ∃ x s', rTake 32 (r, b) = (x, s') := ⟨_, _, rfl⟩
        rw [hq5] at hsn
        have HSn := Lib.hid hsn
        have HQ5 := Lib.hid hq5
        clear hsn hq5
        go_wp2_with fail
        obtain ⟨wq, hwq⟩ : ∃ W, W = wr := ⟨_, rfl⟩
        have QQ := Lib.hid (show CS g w (r, b) #[.string x1, .int .i64 (N : Int), .string x3, .slice ao k c, .slice none 0 0] wq from hwq ▸ HR1.out)
        have QS := Lib.hid (show SlIs wq (w.heap.size + 2) 9 1 (.slice ao k c) k (scells l) from hwq ▸ HS1.out)
        rw [← hwq]
        refine (rr_take g (r, b) s5 32 (by decide) x HQ5.out wq QQ.out.1).mono ?_
        rintro e w4 ⟨rfl, hr4, hm4⟩
        have hgw := HR1.out.2.2.2.2
        have hs4 := hm4.sl QS.out (by omega)
        have H4 := Lib.hid (show SlIs w4 (w.heap.size + 2) 9 1 (.slice ao k c) k (scells l) ∧ CS g w s5 #[.string x1, .int .i64 (N : Int), .string x3, .slice ao k c, .slice none 0 0] w4 from ⟨hs4, QQ.out.call hr4 hm4⟩)
        have q1 : w4.cell? ⟨w.heap.size + 1, 3, none⟩ = some (.slice ao k c) := H4.out.2.2.2.2.1.cell 3
        have hz4 : w.heap.size + 2 ≤ w4.heap.size := H4.out.2.2.2.2.1.lt
        clear hr4 hm4 hs4 c1 hgw
        go_wp2_with (at_builtin; refine wpList_append_sl rfl _ _ _ 22 (by rfl) el_s (base := w.heap.size + 2) (.slice ao k c) k (scells l) (by rfl) (H4.out.1.alloc _) _ 1 [Value.string x] (by rfl) (SrcIs.own Tryz.underlying22 (SlIs.made (base := 0) (BlkIs.new _ _ _) (Nat.zero_le _) rfl (by decide))) (by intro u hu; simp at hu; rcases hu with rfl <;> rfl) (by unfold maxLen; omega) (by omega) (by simp; omega) ?_)
        intro v5 w5 hs5 hg5 hat5
        obtain ⟨ao5, c5, rfl, -, -, -⟩ := hs5.form
        rw [scells_snoc] at hs5
        have hrow : ∀ j, (Value.slice ao k c).ownBlock = some j → w.heap.size + 1 < j := fun j hj => (H4.out.1.lt j hj).1
        have R5 := (H4.out.2.alloc (.cells #[Value.string x] 9)).app hg5 hrow
        have e5 : w5.cell? ⟨w.heap.size + 1, 3, none⟩ = some (.slice ao k c) := R5.2.2.2.1.cell 3
        have f5 : w5.frozen? ⟨w.heap.size + 1, 3, none⟩ = false := R5.2.2.2.1.free 3
        have R6 := Lib.hid (show CS g w s5 #[.string x1, .int .i64 (N : Int), .string x3, .slice ao5 (k + 1) c5, .slice none 0 0] (w5.setCell ⟨w.heap.size + 1, 3, none⟩ (.slice ao5 (k + 1) c5)) from R5.put 3 (.slice ao5 (k + 1) c5))
        have hs6 := Lib.hid (Mk.sl_farB hs5 (p := ⟨w.heap.size + 1, 3, none⟩) (Nat.lt_succ_self _) (.slice ao5 (k + 1) c5))
        clear hs5 hg5 hat5 hrow R5 q1 hz4
        go_wp2_with fail
        refine ⟨⟨k + 1, c5, ao5, s5.2, s5.1, by simp, by omega, Lib.hid ⟨l ++ [x], by simp [HE1.out.1], hs6.out, R6.out, ?_, ?_⟩⟩, by simp [RowKit.intOf]; omega⟩
        · rw [HE1.out.2.1, HSn.out.1, List.append_assoc]
        · rw [HE1.out.2.2, HSn.out.2]
      · obtain rfl : N = k := by omega
        have hL := HE1.out.2.1
        have hS := HE1.out.2.2
        rw [Nat.sub_self] at hL hS
        have hL2 : (rTimes (rTake 32) N s3).1 = l := by rw [hL]; exact List.append_nil _
        have hS2 : (rTimes (rTake 32) N s3).2 = (r, b) := hS
        have HLS := Lib.hid (And.intro hL2 hS2)
        clear hL hS hL2 hS2
        have y0 : wr.cell? ⟨w.heap.size + 1, 0, none⟩ = some (.string x1) := HR1.out.2.2.2.1.cell 0
        have y2 : wr.cell? ⟨w.heap.size + 1, 2, none⟩ = some (.string x3) := HR1.out.2.2.2.1.cell 2
        have y3 : wr.cell? ⟨w.heap.size + 1, 3, none⟩ = some (.slice ao N c) := HR1.out.2.2.2.1.cell 3
        have y4 : wr.cell? ⟨w.heap.size + 1, 4, none⟩ = some (.slice none 0 0) := HR1.out.2.2.2.1.cell 4
        have z0 : wr.cell? ⟨w.heap.size, 0, none⟩ = some (.string ⟨#[]⟩) := HR1.out.2.2.1.cell 0
        have z1 : wr.cell? ⟨w.heap.size, 1, none⟩ = some (.int .i64 0) := HR1.out.2.2.1.cell 1
        have z2 : wr.cell? ⟨w.heap.size, 2, none⟩ = some (.string ⟨#[]⟩) := HR1.out.2.2.1.cell 2
        have z3 : wr.cell? ⟨w.heap.size, 3, none⟩ = some (.slice none 0 0) := HR1.out.2.2.1.cell 3
        have z4 : wr.cell? ⟨w.heap.size, 4, none⟩ = some (.slice none 0 0) := HR1.out.2.2.1.cell 4
        have g0 : wr.frozen? ⟨w.heap.size, 0, none⟩ = false := HR1.out.2.2.1.free 0
        have g1 : wr.frozen? ⟨w.heap.size, 1, none⟩ = false := HR1.out.2.2.1.free 1
        have g2 : wr.frozen? ⟨w.heap.size, 2, none⟩ = false := HR1.out.2.2.1.free 2
        have g3 : wr.frozen? ⟨w.heap.size, 3, none⟩ = false := HR1.out.2.2.1.free 3
        have g4 : wr.frozen? ⟨w.heap.size, 4, none⟩ = false := HR1.out.2.2.1.free 4
        obtain ⟨E1, E2, E3, E4⟩ := end5r (A := w.heap.size) HR1.out.2.1 HR1.out.1 HR1.out.2.2.1 HS1.out (fun e => by have := HR1.out.2.2.2.2; omega) (Nat.le_refl _) (.string x1) (.int .i64 (N : Int)) (.string x3) (.slice ao N c) (.slice none 0 0)
        have HEnd := Lib.hid (And.intro E1 (And.intro E2 (And.intro E3 E4)))
        clear E1 E2 E3 E4
        have ki : decide (N < N) = false := decide_eq_false (by omega)
        go_wp2_with fail
        go_loopw [6] (fun i wx => i = .int .i64 0 ∧ wr = wx) (fun _ _ => 0)
        case atStart => exact ⟨rfl, rfl⟩
        case round =>
          obtain ⟨rfl, rfl⟩ := hrel
          go_wp2_with fail
          refine bodyPost_ret (results_cell1 rfl _ _ w.heap.size 49 #[.string x1, .int .i64 (N : Int), .string x3, .slice ao N c, .slice none 0 0] (0, 0) _ rfl HEnd.out.1 Tryz.underlying49 rfl (by show _ = some 5; kernel_rfl)) rfl ?_
          refine ⟨⟨⟨x1, (N : Int), x3, l, []⟩, .slice ao N c, .slice none 0 0⟩, rfl, ?_, ⟨by show SlIs _ _ _ _ (.slice ao N c) l.length (scells l); rw [HE1.out.1]; exact HEnd.out.2.2.2.mono (by omega), SlIs.nil_ _ _ _ _⟩, ?_, HEnd.out.2.2.1⟩
          · rw [HC.out, HLS.out.1]
          · rw [HC.out, HLS.out.2]
            exact HEnd.out.2.1
end Go.Proofs.YtljenganlknhbaaGreat.Fr
