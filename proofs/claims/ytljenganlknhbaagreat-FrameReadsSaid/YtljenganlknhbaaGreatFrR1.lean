/- The reference's list, walked. Printed by gen_frr1.py. (Layer 19.) -/
import Derived.Test.YtljenganlknhbaaGreatPkW
import Derived.Test.YtljenganlknhbaaGreatMk29
namespace Go.Proofs.YtljenganlknhbaaGreat.Fr
set_option linter.unusedVariables false
set_option linter.unusedSimpArgs false
open Go.RowKit Oct
open Set (StrAt scells)
open Mk (moved_row rList_snoc rNum_lt rr_text rr_take rnum_val2)
/-- Where the going stands: the things read so far, what is to come. -/
def RSt (g : Nat) (w : World) (most : Int) (one : RS → ByteArray × RS) (s : RS) (N k : Nat) (v : Value) (W : World) (sk : RS) : Prop :=
  ∃ l : List ByteArray, l.length = k ∧ SlIs W w.heap.size 9 1 v k (scells l) ∧ RRd W g sk.1 sk.2 ∧ Moved g w W ∧
    (rMany one most s).1 = l ++ (rList one (N - k) sk).1 ∧ (rMany one most s).2 = (rList one (N - k) sk).2
/-- What list leaves. -/
def ROut (g : Nat) (w : World) (most : Int) (one : RS → ByteArray × RS) (s : RS) (e : Ending) (W : World) : Prop :=
  ∃ (v : Value) (l : List ByteArray), e = .returned v ∧ SlIs W w.heap.size 9 1 v l.length (scells l) ∧ l = (rMany one most s).1 ∧ RRd W g (rMany one most s).2.1 (rMany one most s).2.2 ∧ Moved g w W
set_option maxRecDepth 100000 in
set_option maxHeartbeats 4000000 in
theorem rlist_fix (g : Nat) (s : RS) (most long : Int) (w : World) (h : RRd w g s.1 s.2) (h0 : 0 ≤ most) (h1 : most ≤ 2000) :
    Calls Tryz.prog 59 #[.pointer (some ⟨g, 0, none⟩), .int .i64 most, .int .i64 long, .bool true] w fun e w' => ROut g w most (rTake 32) s e w' := by
  have hgl := h.lt
  have NN := rrd_num g s.1 s.2 w h
  have hlt := rNum_lt s
  have hMany : (rMany (rTake 32) most s).1 = (rList (rTake 32) (rNum s).1.toNat (if most < (rNum s).1 then spoilt else (rNum s).2)).1 ∧ (rMany (rTake 32) most s).2 = (rList (rTake 32) (rNum s).1.toNat (if most < (rNum s).1 then spoilt else (rNum s).2)).2 := ⟨rfl, rfl⟩
  obtain ⟨N, s1, hq⟩ : ∃ (N : Nat) (s1 : RS), rNum s = ((N : Int), s1) := by
    obtain ⟨N, hN⟩ := Int.eq_ofNat_of_zero_le hlt.1
    exact ⟨N, (rNum s).2, Prod.ext hN rfl⟩
  rw [rnum_val2 s, show (takeR s.1 s.2 4).2 = (rNum s).2 from rfl, hq] at NN
  rw [hq] at hMany hlt
  dsimp only at hMany hlt NN
  rw [Int.toNat_natCast] at hMany
  have NN := Lib.hid NN
  have H1 := Lib.hid hgl
  have HM := Lib.hid hMany
  have hw : IntKind.i64.wrap (N : Int) = (N : Int) := IntWalk.i64_in _ (by omega)
  have hN2 : N < 4294967296 := by omega
  clear h hlt hMany hq hgl
  go_enter Tryz.func59, Tryz.ntmps59
  go_wp2_with fail
  refine NN.out.mono ?_
  rintro e w2 ⟨rfl, h2, hm2⟩
  have H2 := Lib.hid (show Moved g w w2 ∧ RRd w2 g s1.1 s1.2 from ⟨hm2, h2⟩)
  have d2 := h2.flag.1
  have f2 := h2.flag.2
  clear NN h2 hm2
  by_cases hc : most < (N : Int)
  · rw [if_pos hc] at HM
    have hrb := rList_bad (rTake 32) N spoilt rfl
    rw [hrb] at HM
    have z0 : decide (most < (N : Int)) = true := decide_eq_true hc
    have z1 : (0 : Int) < N := by omega
    have z2 : decide (0 < N) = true := decide_eq_true (by omega)
    clear hrb hc
    go_wp2_with fail
    obtain ⟨w3, hw3⟩ : ∃ W, W = (w2.setCell ⟨g, 2, none⟩ (.bool true)).alloc (.cells #[] 9) := ⟨_, rfl⟩
    have H3 := Lib.hid (show Moved g w w3 ∧ RRd w3 g ⟨#[]⟩ true ∧ BlkIs w3 w2.heap.size 9 #[] ∧ w.heap.size ≤ w2.heap.size from ⟨by rw [hw3]; exact (H2.out.1.setCell rfl _).alloc _, by rw [hw3]; exact H2.out.2.spoilt.alloc _, by rw [hw3]; have := BlkIs.new (w2.setCell ⟨g, 2, none⟩ (.bool true)) 9 #[]; simpa using this, H2.out.1.size⟩)
    have hsz : (w2.setCell ⟨g, 2, none⟩ (.bool true)).heap.size = w2.heap.size := by simp
    rw [← hw3]
    clear hw3 d2 f2
    have d3 := H3.out.2.1.flag.1
    go_loopw [10, 11] (fun o i wr => o = .slice (some ⟨w2.heap.size, 0, none⟩) 0 0 ∧ i = .int .i64 0 ∧ w3 = wr) (fun _ _ _ => 0)
    case atStart => exact ⟨rfl, rfl, rfl⟩
    case round =>
      obtain ⟨rfl, rfl, rfl⟩ := hrel
      go_wp2_with fail
      go_ret
      exact ⟨_, [], rfl, SlIs.made H3.out.2.2.1 H3.out.2.2.2 rfl (by decide), by rw [HM.out.1], by rw [HM.out.2]; exact H3.out.2.1, H3.out.1⟩
  · rw [if_neg hc] at HM
    have z0 : decide (most < (N : Int)) = false := decide_eq_false hc
    have hN : N ≤ 2000 := by omega
    clear hc
    go_wp2_with fail
    obtain ⟨w3, hw3⟩ : ∃ W, W = w2.alloc (.cells #[] 9) := ⟨_, rfl⟩
    have H3 := Lib.hid (show Moved g w w3 ∧ RRd w3 g s1.1 s1.2 ∧ BlkIs w3 w2.heap.size 9 #[] ∧ w.heap.size ≤ w2.heap.size from ⟨by rw [hw3]; exact H2.out.1.alloc _, by rw [hw3]; exact H2.out.2.alloc _, by rw [hw3]; exact BlkIs.new _ _ _, H2.out.1.size⟩)
    rw [← hw3]
    clear hw3 d2 f2
    go_loopw [10, 11] (fun o i wr => ∃ (k c : Nat) (ao : Option Addr) (b : Bool) (r : ByteArray), o = .slice ao k c ∧ i = .int .i64 (k : Int) ∧ k ≤ N ∧ Hid (RSt g w most (rTake 32) s N k (.slice ao k c) wr (r, b))) (fun _ i _ => N - (RowKit.intOf i).toNat)
    case atStart => exact ⟨0, 0, _, s1.2, s1.1, rfl, rfl, Nat.zero_le _, Lib.hid ⟨[], rfl, SlIs.made H3.out.2.2.1 H3.out.2.2.2 rfl (by decide), H3.out.2.1, H3.out.1, HM.out.1, HM.out.2⟩⟩
    case round =>
      obtain ⟨k, c, ao, b, r, rfl, rfl, hkN, HL⟩ := hrel
      obtain ⟨l, hlk, hsl, hrd, hmv, hm1, hm2⟩ := HL.out
      have HS := Lib.hid hsl
      have HR := Lib.hid hrd
      have HV := Lib.hid hmv
      have d3 := hrd.flag.1
      dsimp only at d3
      have HE := Lib.hid (And.intro hlk (And.intro hm1 hm2))
      clear HL hlk hsl hrd hmv hm1 hm2
      rcases Nat.lt_or_ge k N with hlt | hge
      · have ki : (k : Int) < N := by omega
        cases b
        · have hsn := rList_snoc (rTake 32) (N - (k + 1)) (r, false) rfl
          rw [show N - (k + 1) + 1 = N - k by omega] at hsn
          obtain ⟨x1, s1, hq1⟩ : ∃ x s', (rTake 32) (r, false) = (x, s') := ⟨_, _, rfl⟩
          rw [hq1] at hsn
          have HQ := Lib.hid hq1
          have HSn := Lib.hid hsn
          have hsz := HV.out.size
          clear hq1 hsn
          go_wp2_with fail
          refine (rr_take g (r, false) s1 32 (by decide) x1 HQ.out wr HR.out).mono ?_
          rintro e w4 ⟨rfl, hr4, hm4⟩
          have hs4 := hm4.sl HS.out H1.out
          have H4 := Lib.hid (show SlIs w4 w.heap.size 9 1 (.slice ao k c) k (scells l) ∧ RRd w4 g s1.1 s1.2 ∧ Moved g w w4 from ⟨hs4, hr4, HV.out.trans hm4⟩)
          clear hr4 hm4 hs4 d3
          go_wp2_with (refine wpList_append_sl rfl _ _ _ 22 (by rfl) el_s (base := w.heap.size) (.slice ao k c) k (scells l) (by rfl) (H4.out.1.alloc _) _ 1 [Value.string x1] (by rfl) (SrcIs.own Tryz.underlying22 (SlIs.made (base := 0) (BlkIs.new _ _ _) (Nat.zero_le _) rfl (by decide))) (by intro u hu; simp at hu; rcases hu with rfl <;> rfl) (by unfold maxLen; omega) (by omega) (by have := H4.out.2.2.size; simp; omega) ?_)
          intro v5 w5 hs5 hg5 hat5
          obtain ⟨ao5, c5, rfl, -, -, -⟩ := hs5.form
          have hown5 : ∀ j, (Value.slice ao k c).ownBlock = some j → w.heap.size ≤ j := fun j hj => (H4.out.1.lt j hj).1
          have hrow : scells l ++ [Value.string x1] = scells (l ++ [x1]) := scells_snoc l x1
          rw [hrow] at hs5
          have H5 := Lib.hid (show SlIs w5 w.heap.size 9 1 (.slice ao5 (k + 1) c5) (k + 1) (scells (l ++ [x1])) ∧ RRd w5 g s1.1 s1.2 ∧ Moved g w w5 from
            ⟨hs5, RRd.grown (RRd.alloc H4.out.2.1 _) hg5 (fun e => by have := hown5 g e.symm; have := H1.out; omega), moved_row (H4.out.2.2.alloc _) hg5 hown5⟩)
          clear hs5 hg5 hat5 hown5 hrow
          go_wp2_with fail
          refine ⟨⟨k + 1, c5, ao5, s1.2, s1.1, rfl, by simp, by omega, Lib.hid ⟨l ++ [x1], by simp [HE.out.1], H5.out.1, H5.out.2.1, H5.out.2.2, ?_, ?_⟩⟩, by simp [RowKit.intOf]; omega⟩
          · rw [HE.out.2.1, HSn.out.1, List.append_assoc]
          · rw [HE.out.2.2, HSn.out.2]
        · have hrb := rList_bad (rTake 32) (N - k) (r, true) rfl
          have HRb := Lib.hid hrb
          clear hrb
          go_wp2_with fail
          go_ret
          exact ⟨_, l, rfl, by rw [HE.out.1]; exact HS.out, by rw [HE.out.2.1, HRb.out, List.append_nil], by rw [HE.out.2.2, HRb.out]; exact HR.out, HV.out⟩
      · have ki : decide (k < N) = false := decide_eq_false (by omega)
        obtain rfl : N = k := by omega
        have hrb : rList (rTake 32) (N - N) (r, b) = ([], (r, b)) := by rw [Nat.sub_self]; rfl
        have HRb := Lib.hid hrb
        clear hrb
        go_wp2_with fail
        go_ret
        exact ⟨_, l, rfl, by rw [HE.out.1]; exact HS.out, by rw [HE.out.2.1, HRb.out, List.append_nil], by rw [HE.out.2.2, HRb.out]; exact HR.out, HV.out⟩
set_option maxRecDepth 100000 in
set_option maxHeartbeats 4000000 in
theorem rlist_long (g : Nat) (s : RS) (most long : Int) (w : World) (h : RRd w g s.1 s.2) (h0 : 0 ≤ most) (h1 : most ≤ 2000) :
    Calls Tryz.prog 59 #[.pointer (some ⟨g, 0, none⟩), .int .i64 most, .int .i64 long, .bool false] w fun e w' => ROut g w most (rText long) s e w' := by
  have hgl := h.lt
  have NN := rrd_num g s.1 s.2 w h
  have hlt := rNum_lt s
  have hMany : (rMany (rText long) most s).1 = (rList (rText long) (rNum s).1.toNat (if most < (rNum s).1 then spoilt else (rNum s).2)).1 ∧ (rMany (rText long) most s).2 = (rList (rText long) (rNum s).1.toNat (if most < (rNum s).1 then spoilt else (rNum s).2)).2 := ⟨rfl, rfl⟩
  obtain ⟨N, s1, hq⟩ : ∃ (N : Nat) (s1 : RS), rNum s = ((N : Int), s1) := by
    obtain ⟨N, hN⟩ := Int.eq_ofNat_of_zero_le hlt.1
    exact ⟨N, (rNum s).2, Prod.ext hN rfl⟩
  rw [rnum_val2 s, show (takeR s.1 s.2 4).2 = (rNum s).2 from rfl, hq] at NN
  rw [hq] at hMany hlt
  dsimp only at hMany hlt NN
  rw [Int.toNat_natCast] at hMany
  have NN := Lib.hid NN
  have H1 := Lib.hid hgl
  have HM := Lib.hid hMany
  have hw : IntKind.i64.wrap (N : Int) = (N : Int) := IntWalk.i64_in _ (by omega)
  have hN2 : N < 4294967296 := by omega
  clear h hlt hMany hq hgl
  go_enter Tryz.func59, Tryz.ntmps59
  go_wp2_with fail
  refine NN.out.mono ?_
  rintro e w2 ⟨rfl, h2, hm2⟩
  have H2 := Lib.hid (show Moved g w w2 ∧ RRd w2 g s1.1 s1.2 from ⟨hm2, h2⟩)
  have d2 := h2.flag.1
  have f2 := h2.flag.2
  clear NN h2 hm2
  by_cases hc : most < (N : Int)
  · rw [if_pos hc] at HM
    have hrb := rList_bad (rText long) N spoilt rfl
    rw [hrb] at HM
    have z0 : decide (most < (N : Int)) = true := decide_eq_true hc
    have z1 : (0 : Int) < N := by omega
    have z2 : decide (0 < N) = true := decide_eq_true (by omega)
    clear hrb hc
    go_wp2_with fail
    obtain ⟨w3, hw3⟩ : ∃ W, W = (w2.setCell ⟨g, 2, none⟩ (.bool true)).alloc (.cells #[] 9) := ⟨_, rfl⟩
    have H3 := Lib.hid (show Moved g w w3 ∧ RRd w3 g ⟨#[]⟩ true ∧ BlkIs w3 w2.heap.size 9 #[] ∧ w.heap.size ≤ w2.heap.size from ⟨by rw [hw3]; exact (H2.out.1.setCell rfl _).alloc _, by rw [hw3]; exact H2.out.2.spoilt.alloc _, by rw [hw3]; have := BlkIs.new (w2.setCell ⟨g, 2, none⟩ (.bool true)) 9 #[]; simpa using this, H2.out.1.size⟩)
    have hsz : (w2.setCell ⟨g, 2, none⟩ (.bool true)).heap.size = w2.heap.size := by simp
    rw [← hw3]
    clear hw3 d2 f2
    have d3 := H3.out.2.1.flag.1
    go_loopw [10, 11] (fun o i wr => o = .slice (some ⟨w2.heap.size, 0, none⟩) 0 0 ∧ i = .int .i64 0 ∧ w3 = wr) (fun _ _ _ => 0)
    case atStart => exact ⟨rfl, rfl, rfl⟩
    case round =>
      obtain ⟨rfl, rfl, rfl⟩ := hrel
      go_wp2_with fail
      go_ret
      exact ⟨_, [], rfl, SlIs.made H3.out.2.2.1 H3.out.2.2.2 rfl (by decide), by rw [HM.out.1], by rw [HM.out.2]; exact H3.out.2.1, H3.out.1⟩
  · rw [if_neg hc] at HM
    have z0 : decide (most < (N : Int)) = false := decide_eq_false hc
    have hN : N ≤ 2000 := by omega
    clear hc
    go_wp2_with fail
    obtain ⟨w3, hw3⟩ : ∃ W, W = w2.alloc (.cells #[] 9) := ⟨_, rfl⟩
    have H3 := Lib.hid (show Moved g w w3 ∧ RRd w3 g s1.1 s1.2 ∧ BlkIs w3 w2.heap.size 9 #[] ∧ w.heap.size ≤ w2.heap.size from ⟨by rw [hw3]; exact H2.out.1.alloc _, by rw [hw3]; exact H2.out.2.alloc _, by rw [hw3]; exact BlkIs.new _ _ _, H2.out.1.size⟩)
    rw [← hw3]
    clear hw3 d2 f2
    go_loopw [10, 11] (fun o i wr => ∃ (k c : Nat) (ao : Option Addr) (b : Bool) (r : ByteArray), o = .slice ao k c ∧ i = .int .i64 (k : Int) ∧ k ≤ N ∧ Hid (RSt g w most (rText long) s N k (.slice ao k c) wr (r, b))) (fun _ i _ => N - (RowKit.intOf i).toNat)
    case atStart => exact ⟨0, 0, _, s1.2, s1.1, rfl, rfl, Nat.zero_le _, Lib.hid ⟨[], rfl, SlIs.made H3.out.2.2.1 H3.out.2.2.2 rfl (by decide), H3.out.2.1, H3.out.1, HM.out.1, HM.out.2⟩⟩
    case round =>
      obtain ⟨k, c, ao, b, r, rfl, rfl, hkN, HL⟩ := hrel
      obtain ⟨l, hlk, hsl, hrd, hmv, hm1, hm2⟩ := HL.out
      have HS := Lib.hid hsl
      have HR := Lib.hid hrd
      have HV := Lib.hid hmv
      have d3 := hrd.flag.1
      dsimp only at d3
      have HE := Lib.hid (And.intro hlk (And.intro hm1 hm2))
      clear HL hlk hsl hrd hmv hm1 hm2
      rcases Nat.lt_or_ge k N with hlt | hge
      · have ki : (k : Int) < N := by omega
        cases b
        · have hsn := rList_snoc (rText long) (N - (k + 1)) (r, false) rfl
          rw [show N - (k + 1) + 1 = N - k by omega] at hsn
          obtain ⟨x1, s1, hq1⟩ : ∃ x s', (rText long) (r, false) = (x, s') := ⟨_, _, rfl⟩
          rw [hq1] at hsn
          have HQ := Lib.hid hq1
          have HSn := Lib.hid hsn
          have hsz := HV.out.size
          clear hq1 hsn
          go_wp2_with fail
          refine (rr_text g (r, false) s1 long x1 HQ.out wr HR.out).mono ?_
          rintro e w4 ⟨rfl, hr4, hm4⟩
          have hs4 := hm4.sl HS.out H1.out
          have H4 := Lib.hid (show SlIs w4 w.heap.size 9 1 (.slice ao k c) k (scells l) ∧ RRd w4 g s1.1 s1.2 ∧ Moved g w w4 from ⟨hs4, hr4, HV.out.trans hm4⟩)
          clear hr4 hm4 hs4 d3
          go_wp2_with (refine wpList_append_sl rfl _ _ _ 22 (by rfl) el_s (base := w.heap.size) (.slice ao k c) k (scells l) (by rfl) (H4.out.1.alloc _) _ 1 [Value.string x1] (by rfl) (SrcIs.own Tryz.underlying22 (SlIs.made (base := 0) (BlkIs.new _ _ _) (Nat.zero_le _) rfl (by decide))) (by intro u hu; simp at hu; rcases hu with rfl <;> rfl) (by unfold maxLen; omega) (by omega) (by have := H4.out.2.2.size; simp; omega) ?_)
          intro v5 w5 hs5 hg5 hat5
          obtain ⟨ao5, c5, rfl, -, -, -⟩ := hs5.form
          have hown5 : ∀ j, (Value.slice ao k c).ownBlock = some j → w.heap.size ≤ j := fun j hj => (H4.out.1.lt j hj).1
          have hrow : scells l ++ [Value.string x1] = scells (l ++ [x1]) := scells_snoc l x1
          rw [hrow] at hs5
          have H5 := Lib.hid (show SlIs w5 w.heap.size 9 1 (.slice ao5 (k + 1) c5) (k + 1) (scells (l ++ [x1])) ∧ RRd w5 g s1.1 s1.2 ∧ Moved g w w5 from
            ⟨hs5, RRd.grown (RRd.alloc H4.out.2.1 _) hg5 (fun e => by have := hown5 g e.symm; have := H1.out; omega), moved_row (H4.out.2.2.alloc _) hg5 hown5⟩)
          clear hs5 hg5 hat5 hown5 hrow
          go_wp2_with fail
          refine ⟨⟨k + 1, c5, ao5, s1.2, s1.1, rfl, by simp, by omega, Lib.hid ⟨l ++ [x1], by simp [HE.out.1], H5.out.1, H5.out.2.1, H5.out.2.2, ?_, ?_⟩⟩, by simp [RowKit.intOf]; omega⟩
          · rw [HE.out.2.1, HSn.out.1, List.append_assoc]
          · rw [HE.out.2.2, HSn.out.2]
        · have hrb := rList_bad (rText long) (N - k) (r, true) rfl
          have HRb := Lib.hid hrb
          clear hrb
          go_wp2_with fail
          go_ret
          exact ⟨_, l, rfl, by rw [HE.out.1]; exact HS.out, by rw [HE.out.2.1, HRb.out, List.append_nil], by rw [HE.out.2.2, HRb.out]; exact HR.out, HV.out⟩
      · have ki : decide (k < N) = false := decide_eq_false (by omega)
        obtain rfl : N = k := by omega
        have hrb : rList (rText long) (N - N) (r, b) = ([], (r, b)) := by rw [Nat.sub_self]; rfl
        have HRb := Lib.hid hrb
        clear hrb
        go_wp2_with fail
        go_ret
        exact ⟨_, l, rfl, by rw [HE.out.1]; exact HS.out, by rw [HE.out.2.1, HRb.out, List.append_nil], by rw [HE.out.2.2, HRb.out]; exact HR.out, HV.out⟩
end Go.Proofs.YtljenganlknhbaaGreat.Fr
