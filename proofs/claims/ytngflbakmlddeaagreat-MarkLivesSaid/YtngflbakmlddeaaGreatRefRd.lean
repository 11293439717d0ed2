/- The reference's Reader, walked: the same plain functions as the program's own (takeR, textR, val). Condition: at most 2^47 bytes. -/
import Derived.Test.YtngflbakmlddeaaGreatOctet1
namespace Go.Proofs.YtngflbakmlddeaaGreat.Oct
open Go.RowKit
/-- The reference's Reader at g stands ahead of the bytes r; b: whether it is bad. -/
def RRd (w : World) (g : Nat) (r : ByteArray) (b : Bool) : Prop :=
  ∃ (S : ByteArray) (at_ : Nat), BlkIs w g 99 #[.string S, .int .i64 at_, .bool b] ∧ at_ ≤ S.size ∧ (S.size : Int) ≤ 140737488355328 ∧ r = if b then ⟨#[]⟩ else S.extract at_ S.size
theorem RRd.lt {w : World} {g : Nat} {r : ByteArray} {b : Bool} (h : RRd w g r b) : g < w.heap.size := by obtain ⟨S, a, h, _⟩ := h; exact h.lt
theorem RRd.below {w w' : World} {g B : Nat} {r : ByteArray} {b : Bool} (h : RRd w g r b) (hb : Below B w w') (hg : g < B) : RRd w' g r b := by
  obtain ⟨S, a, h, h1⟩ := h
  exact ⟨S, a, h.below hb hg, h1⟩
theorem rrd_new (s : ByteArray) (w : World) (hs : (s.size : Int) ≤ 140737488355328) : Calls Tryz.prog 63 #[.string s] w fun e w' => e = .returned (.pointer (some ⟨w.heap.size, 0, none⟩)) ∧ RRd w' w.heap.size s false ∧ Below w.heap.size w w' := by
  go_enter Tryz.func63, Tryz.ntmps63
  go_wp2_with fail
  go_ret
  exact ⟨rfl, ⟨s, 0, BlkIs.new _ _ _, Nat.zero_le _, hs, by simp⟩, (Below.refl _ _).alloc (Nat.le_refl _) _⟩
theorem ret_bool {a b : Bool} (h : a = b) : Ending.returned (.bool a) = .returned (.bool b) := by rw [h]
theorem rrd_whole (g : Nat) (r : ByteArray) (b : Bool) (w : World) (h : RRd w g r b) : Calls Tryz.prog 68 #[.pointer (some ⟨g, 0, none⟩)] w fun e w' => e = .returned (.bool (!b && decide (r.size = 0))) ∧ Below w.heap.size w w' := by
  obtain ⟨S, a, hb, ha, hs, hr⟩ := h
  have d0 : w.cell? ⟨g, 0, none⟩ = some (.string S) := hb.cell 0
  have d1 : w.cell? ⟨g, 1, none⟩ = some (.int .i64 a) := hb.cell 1
  have d2 : w.cell? ⟨g, 2, none⟩ = some (.bool b) := hb.cell 2
  have Hr := Lib.hid hr
  clear hr hb
  go_enter Tryz.func68, Tryz.ntmps68
  cases b
  · go_wp2_with fail
    go_quiet (fail)
    go_wp2_with fail
    go_ret
    refine ⟨?_, below_drewN (Below.refl _ _) _⟩
    rw [Hr.out]
    have hz : (S.extract a S.size).size = S.size - a := by simp
    rw [if_neg (by decide), hz]
    refine ret_bool ?_
    rw [Bool.not_false, Bool.true_and, Bool.eq_iff_iff]
    simp
    omega
  · go_wp2_with fail
    go_quiet (fail)
    go_wp2_with fail
    go_ret
    exact ⟨by simp, below_drewN (Below.refl _ _) _⟩
theorem rrd_take (g : Nat) (r : ByteArray) (b : Bool) (n : Int) (w : World) (h : RRd w g r b) (hn : n ≤ 140737488355328) :
    Calls Tryz.prog 66 #[.pointer (some ⟨g, 0, none⟩), .int .i64 n] w fun e w' => e = .returned (.string (takeR r b n).1) ∧ RRd w' g (takeR r b n).2.1 (takeR r b n).2.2 ∧ Moved g w w' := by
  obtain ⟨S, a, hb, ha, hs, hr⟩ := h
  have d0 : w.cell? ⟨g, 0, none⟩ = some (.string S) := hb.cell 0
  have d1 : w.cell? ⟨g, 1, none⟩ = some (.int .i64 a) := hb.cell 1
  have d2 : w.cell? ⟨g, 2, none⟩ = some (.bool b) := hb.cell 2
  have f1 := hb.free 1
  have f2 := hb.free 2
  have Hr := Lib.hid hr
  have Hb := Lib.hid hb
  clear hr hb
  have hbad : ∀ w', DrawsOf w w' → takeR r b n = (⟨#[]⟩, ⟨#[]⟩, true) → RRd (w'.setCell ⟨g, 2, none⟩ (.bool true)) g (takeR r b n).2.1 (takeR r b n).2.2 ∧ Moved g w (w'.setCell ⟨g, 2, none⟩ (.bool true)) := fun w' hd ht => by
    rw [ht]
    refine ⟨⟨S, a, ?_, ha, hs, rfl⟩, (Moved.of_below (hd.below _)).setCell (p := ⟨g, 2, none⟩) rfl _⟩
    have := (hd.blk Hb.out).put 2 (.bool true)
    simpa using this
  have Hbad := Lib.hid hbad
  clear hbad
  cases b
  case true =>
    have ht : takeR r true n = (⟨#[]⟩, ⟨#[]⟩, true) := by unfold takeR; rw [if_neg (by simp)]
    go_enter Tryz.func66, Tryz.ntmps66
    go_wp2_with fail
    go_quiet (fail)
    have e0 : (w.drewN nq).cell? ⟨g, 2, none⟩ = some (.bool true) := by rw [World.cell?_drewN]; exact d2
    go_wp2_with fail
    go_ret
    have := Hbad.out _ ((DrawsOf.refl w).drewN nq) ht
    rw [ht] at this ⊢
    exact ⟨rfl, this⟩
  case false =>
    have hrz : r = S.extract a S.size := by rw [Hr.out]; rfl
    have hsz : r.size = S.size - a := by rw [hrz]; simp
    by_cases hc : 0 ≤ n ∧ n ≤ (r.size : Int)
    case neg =>
      have ht : takeR r false n = (⟨#[]⟩, ⟨#[]⟩, true) := by unfold takeR; rw [if_neg (by simp; omega)]
      by_cases h0 : n < 0
      · clear hsz hrz hc
        go_enter Tryz.func66, Tryz.ntmps66
        go_wp2_with fail
        go_quiet (fail)
        have e0 : (w.drewN nq).cell? ⟨g, 2, none⟩ = some (.bool false) := by rw [World.cell?_drewN]; exact d2
        go_wp2_with fail
        go_ret
        have := Hbad.out _ ((DrawsOf.refl w).drewN nq) ht
        rw [ht] at this ⊢
        exact ⟨rfl, this⟩
      · have h1 : 0 ≤ n := by omega
        have h2 : (S.size : Int) - a < n := by omega
        have h3 : decide (n < 0) = false := decide_eq_false (by omega)
        clear hsz hrz hc h0
        go_enter Tryz.func66, Tryz.ntmps66
        go_wp2_with fail
        go_quiet (fail)
        have e0 : (w.drewN nq).cell? ⟨g, 2, none⟩ = some (.bool false) := by rw [World.cell?_drewN]; exact d2
        go_wp2_with fail
        go_ret
        have := Hbad.out _ ((DrawsOf.refl w).drewN nq) ht
        rw [ht] at this ⊢
        exact ⟨rfl, this⟩
    case pos =>
      obtain ⟨m, rfl⟩ := Int.eq_ofNat_of_zero_le hc.1
      have hm : a + m ≤ S.size := by omega
      have hmi : (a : Int) + m ≤ S.size := by omega
      have ht : takeR r false m = (S.extract a (a + m), S.extract (a + m) S.size, false) := by
        unfold takeR
        rw [if_pos ⟨rfl, hc⟩, hrz]
        refine Prod.ext ?_ (Prod.ext ?_ rfl)
        · show (S.extract a S.size).extract 0 ((m : Int)).toNat = S.extract a (a + m)
          rw [ByteArray.extract_extract, Int.toNat_natCast, Nat.add_zero, Nat.min_eq_left hm]
        · show (S.extract a S.size).extract ((m : Int)).toNat (S.extract a S.size).size = S.extract (a + m) S.size
          rw [ByteArray.extract_extract, Int.toNat_natCast, ← hrz, hsz, show min (a + (S.size - a)) S.size = S.size by omega]
      have h1 : (0 : Int) ≤ (m : Int) := by omega
      have h2 : (m : Int) ≤ (S.size : Int) - a := by omega
      have h3 : decide ((m : Int) < 0) = false := decide_eq_false (by omega)
      have ha0 : (a : Int) ≤ (a : Int) + m := by omega
      have ha1 : (a : Int) + m ≤ 140737488355328 := by omega
      clear hsz hrz hc Hbad
      rw [ht]
      clear ht
      go_enter Tryz.func66, Tryz.ntmps66
      go_wp2_with fail
      go_quiet (fail)
      go_wp2_with fail
      go_quiet (fail)
      go_wp2_with fail
      go_ret
      refine ⟨rfl, ⟨S, a + m, ?_, hm, hs, rfl⟩, (Moved.of_below (((DrawsOf.refl w).drewN _).below _)).setCell (p := ⟨g, 1, none⟩) rfl _⟩
      have hd : ∀ N, BlkIs ((w.drewN N).setCell ⟨g, 1, none⟩ (.int .i64 ((a : Int) + m))) g 99 #[.string S, .int .i64 ((a + m : Nat) : Int), .bool false] := fun N => by
        have := (((DrawsOf.refl w).drewN N).blk Hb.out).put 1 (.int .i64 ((a : Int) + m))
        simpa using this
      exact hd _
theorem addn (x0 x1 x2 x3 : UInt8) : ((x0.toNat : Int) + (x1.toNat : Int) % 4294967296 * 256 + (x2.toNat : Int) % 4294967296 * 65536 + (x3.toNat : Int) % 4294967296 * 16777216) % 4294967296 = ((val [x0, x1, x2, x3] : Nat) : Int) := by
  have h0 := x0.toNat_lt
  have h1 := x1.toNat_lt
  have h2 := x2.toNat_lt
  have h3 := x3.toNat_lt
  simp only [val]
  omega
theorem rrd_num (g : Nat) (r : ByteArray) (b : Bool) (w : World) (h : RRd w g r b) :
    Calls Tryz.prog 67 #[.pointer (some ⟨g, 0, none⟩)] w fun e w' => e = .returned (.int .u32 (val (takeR r b 4).1.data.toList)) ∧ RRd w' g (takeR r b 4).2.1 (takeR r b 4).2.2 ∧ Moved g w w' := by
  have Ht := Lib.hid (rrd_take g r b 4 w h (by decide))
  have hgw := h.lt
  clear h
  have hc : ((takeR r b 4).1 = ⟨#[]⟩ ∧ (takeR r b 4).2.2 = true) ∨ ∃ x0 x1 x2 x3, (takeR r b 4).1 = ⟨#[x0, x1, x2, x3]⟩ ∧ (takeR r b 4).2.2 = false := by
    by_cases hq : b = false ∧ 0 ≤ (4 : Int) ∧ (4 : Int) ≤ (r.size : Int)
    · right
      rcases takeR_cases r b with h | ⟨x0, x1, x2, x3, h⟩
      · exfalso
        have : (takeR r b 4).1.size = 0 := by rw [h]; rfl
        unfold takeR at this
        rw [if_pos hq] at this
        have h4 : (r.extract 0 (4 : Int).toNat).size = 0 := this
        rw [ByteArray.size_extract, show (4 : Int).toNat = 4 from rfl] at h4
        omega
      · exact ⟨x0, x1, x2, x3, h, by unfold takeR; rw [if_pos hq]⟩
    · left
      unfold takeR
      rw [if_neg hq]
      exact ⟨rfl, rfl⟩
  generalize takeR r b 4 = q at *
  obtain ⟨t, r1, b1⟩ := q
  simp only at hc Ht ⊢
  go_enter Tryz.func67, Tryz.ntmps67
  go_wp2_with fail
  refine Ht.out.mono ?_
  rintro e w1 ⟨rfl, h1, hb1⟩
  have H1 := Lib.hid (And.intro h1 hb1)
  obtain ⟨S, a, hb, -⟩ := h1
  have d2 : w1.cell? ⟨g, 2, none⟩ = some (.bool b1) := hb.cell 2
  clear hb hb1 Ht
  rcases hc with ⟨rfl, rfl⟩ | ⟨x0, x1, x2, x3, rfl, rfl⟩
  · go_wp2_with fail
    go_ret
    exact ⟨rfl, H1.out⟩
  · go_wp2_with fail
    go_quiet (fail)
    go_wp2_with fail
    go_ret
    refine ⟨ret_int ?_, H1.out.1.below (below_drewN (Below.refl w1.heap.size w1) _) H1.out.1.lt, H1.out.2.trans (.of_below (below_drewN (Below.refl _ _) _))⟩
    exact addn x0 x1 x2 x3
set_option maxRecDepth 100000 in
theorem rrd_text (g : Nat) (r : ByteArray) (b : Bool) (most : Int) (w : World) (h : RRd w g r b) :
    Calls Tryz.prog 65 #[.pointer (some ⟨g, 0, none⟩), .int .i64 most] w fun e w' => e = .returned (.string (textR r b most).1) ∧ RRd w' g (textR r b most).2.1 (textR r b most).2.2 ∧ Moved g w w' := by
  have Hn := Lib.hid (rrd_num g r b w h)
  have hv := val_takeR r b
  obtain ⟨q, hq⟩ : ∃ q, q = takeR r b 4 := ⟨_, rfl⟩
  have ht : textR r b most = if most < (val q.1.data.toList : Int) then (⟨#[]⟩, ⟨#[]⟩, true) else takeR q.2.1 q.2.2 (val q.1.data.toList) := by rw [hq]; rfl
  rw [← hq] at Hn hv
  generalize textR r b most = z at *
  obtain ⟨t0, r1, b1⟩ := q
  simp only at Hn hv ht
  generalize val t0.data.toList = v at *
  have hv' : (v : Int) < 4294967296 := by omega
  have hgw := h.lt
  clear h hv hq
  go_enter Tryz.func65, Tryz.ntmps65
  go_wp2_with fail
  refine Hn.out.mono ?_
  rintro e w1 ⟨rfl, h1, hb1⟩
  have H1 := Lib.hid (And.intro h1 hb1)
  by_cases hm : most < (v : Int)
  · rw [if_pos hm] at ht
    obtain ⟨S, a, hb, h2, h3, -⟩ := h1
    have d2 : w1.cell? ⟨g, 2, none⟩ = some (.bool b1) := hb.cell 2
    have f2 := hb.free 2
    have hb3 : RRd (w1.setCell ⟨g, 2, none⟩ (.bool true)) g ⟨#[]⟩ true := by
      refine ⟨S, a, ?_, h2, h3, rfl⟩
      have := hb.put 2 (.bool true)
      simpa using this
    have hbb := hb1.setCell (p := ⟨g, 2, none⟩) rfl (.bool true)
    have H3 := Lib.hid (And.intro hb3 hbb)
    have Ht := Lib.hid ht
    clear hb hb3 hbb hb1 ht
    go_wp2_with fail
    refine (rrd_take g ⟨#[]⟩ true v _ H3.out.1 (by omega)).mono ?_
    rintro e w4 ⟨rfl, h4, hb4⟩
    have ht4 : takeR ⟨#[]⟩ true v = (⟨#[]⟩, ⟨#[]⟩, true) := by unfold takeR; rw [if_neg (by simp)]
    rw [ht4] at h4 ⊢
    have H4 := Lib.hid (And.intro h4 (H3.out.2.trans hb4))
    clear h4 hb4
    go_wp2_with fail
    go_ret
    rw [Ht.out]
    exact ⟨rfl, H4.out⟩
  · rw [if_neg hm] at ht
    have hc1 : decide (most < (v : Int)) = false := by simp; omega
    have Ht := Lib.hid ht
    clear hm ht h1 hb1
    go_wp2_with fail
    refine (rrd_take g r1 b1 v _ H1.out.1 (by omega)).mono ?_
    rw [← Ht.out]
    rintro e w4 ⟨rfl, h4, hb4⟩
    have H4 := Lib.hid (And.intro h4 (H1.out.2.trans hb4))
    clear h4 hb4
    go_wp2_with fail
    go_ret
    exact ⟨rfl, H4.out⟩
end Go.Proofs.YtngflbakmlddeaaGreat.Oct
