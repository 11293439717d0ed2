/- The reference's commit of a Reader, walked. Condition: the Reader's own block. -/
import Derived.Test.YtmdchfmcghiaeaaRefTree
import Derived.Deep.RegionHeld3
import Derived.Deep.AppendLies
import Derived.Deep.Cut
import Derived.Deep.CutBlock
namespace Go.Proofs.Ytmdchfmcghiaeaa.Obj
open Go.RowKit
open Oct (RRd takeR textR val Moved)
theorem _root_.Go.Proofs.Ytmdchfmcghiaeaa.Oct.RRd.drew {w : World} {g : Nat} {r : ByteArray} {b : Bool} (h : RRd w g r b) : RRd w.drew g r b := by
  obtain ⟨S, a, h, h1⟩ := h
  exact ⟨S, a, h.drew, h1⟩
theorem _root_.Go.Proofs.Ytmdchfmcghiaeaa.Oct.Moved.drew {g : Nat} {a w : World} (h : Moved g a w) : Moved g a w.drew := h.trans (.of_below (Below.refl _ _).drew)
/-- What commit leaves: its object's slice and height, the Reader behind it. -/
def RComOut (w w' : World) (g : Nat) (E P : ByteArray × Bool) (n : Nat) (F : Nat → ByteArray) (v : Value) : Prop :=
  ∃ ao m cap, v = .slice ao m cap ∧ RRd w' g E.1 E.2 ∧ Moved g w w' ∧ (P.2 = false → n ≤ 8 ∧ SlIs w' w.heap.size 9 1 v n (texts F n))
set_option maxRecDepth 100000 in
set_option maxHeartbeats 2000000 in
theorem rcommit_gen (g : Nat) (s : ByteArray) (w : World) (h : RRd w g s false) (T Q Hq Nt : ByteArray × ByteArray × Bool) (P : ByteArray × Bool) (n hh : Nat) (F : Nat → ByteArray)
    (hT : takeR s false 32 = T) (hQ : takeR T.2.1 T.2.2 4 = Q) (hn : val Q.1.data.toList = n) (hnb : n < 4294967296) (hP : parsEnd Q.2 n = P) (hF : ∀ k, parT Q.2 k = F k) (hH : takeR P.1 P.2 4 = Hq) (hhe : val Hq.1.data.toList = hh) (hhb : hh < 4294967296) (hN : textR Hq.2.1 Hq.2.2 1000 = Nt) :
    Calls Try.prog 52 #[.pointer (some ⟨g, 0, none⟩)] w fun e w' => ∃ v, e = .returned (obj 3 ⟨#[]⟩ (.slice none 0 0) T.1 v (hh : Int) Nt.1) ∧ RComOut w w' g Nt.2 P n F v := by
  have HT := Lib.hid hT
  have HQ := Lib.hid hQ
  have HnN := Lib.hid hn
  have HP := Lib.hid hP
  have HF := Lib.hid hF
  have HHq := Lib.hid hH
  have Hhe := Lib.hid hhe
  have HNt := Lib.hid hN
  have Hwr := Lib.hid (Go.IntWalk.wrap64_in (hh : Int) (by omega))
  have hgw := h.lt
  have Hh := Lib.hid h
  have hni : (n : Int) ≤ 4294967295 := by omega
  clear h hT hQ hn hP hF hH hhe hN hnb hhb
  have hinfo : (Try.prog.info? 34).map (·.size) = some 7 := by kernel_rfl
  go_enter Try.func52, Try.ntmps52
  go_wp2_with fail
  refine two_blocks w 34 _ _ (fun W => Calls Try.prog 80 #[.pointer (some ⟨g, 0, none⟩), .int .i64 32] W _) ?_
  intro W0 a0 a1 hb0 hz0
  refine (Oct.rrd_take g s false 32 W0 (Hh.out.below hb0 hgw) (by decide)).mono ?_
  rintro e w1 ⟨rfl, hR, hb1⟩
  rw [HT.out] at hR ⊢
  have a0 := hb1.blk a0 (by omega)
  have a1 := hb1.blk a1 (by omega)
  have hM := (Moved.of_below (g := g) hb0).trans hb1
  have d3 : w1.cell? ⟨w.heap.size + 1, 3, none⟩ = some (.string ⟨#[]⟩) := a1.cell 3
  have f3 := a1.free 3
  have hown : Value.ownBlock (.slice none 0 0) ≠ some (w.heap.size + 1) := by simp [Value.ownBlock]
  have hs : SlIs w1 (w.heap.size + 2) 9 1 (.slice none 0 0) 0 [] := SlIs.nil_ _ _ _ _
  have a0 := a0.far (p := ⟨w.heap.size + 1, 3, none⟩) (by show w.heap.size ≠ w.heap.size + 1; omega) (.string T.1)
  have hs := hs.far (p := ⟨w.heap.size + 1, 3, none⟩) hown (.string T.1)
  have hM := hM.fresh (p := ⟨w.heap.size + 1, 3, none⟩) (by show w.heap.size ≤ w.heap.size + 1; omega) (.string T.1)
  have hR := hR.far (p := ⟨w.heap.size + 1, 3, none⟩) (by show g ≠ w.heap.size + 1; omega) (.string T.1)
  have a1 := a1.put 3 (.string T.1)
  simp only [List.setIfInBounds_toArray, List.set_cons_succ, List.set_cons_zero] at a1
  have H1 := Lib.hid (And.intro a0 (And.intro a1 (And.intro hs (And.intro hM hR))))
  clear a0 a1 hs hM hR
  have hz1 : w.heap.size + 1 < w1.heap.size := by have := hb1.size; omega
  clear hb0 hz0 hb1 hown
  go_wp2_with fail
  clear d3 f3
  refine (Oct.rrd_num g _ _ _ H1.out.2.2.2.2).mono ?_
  rintro e w2 ⟨rfl, hR, hm2⟩
  rw [HQ.out] at hR ⊢
  rw [HnN.out]
  have a0 := hm2.blk H1.out.1 (by omega)
  have a1 := hm2.blk H1.out.2.1 (by omega)
  have hs := hm2.sl H1.out.2.2.1 (by omega)
  have hM := H1.out.2.2.2.1.trans hm2
  have H2 := Lib.hid (And.intro a0 (And.intro a1 (And.intro hs (And.intro hM hR))))
  clear a0 a1 hs hM hR
  clear hm2
  go_wp2_with fail
  go_loopw [5] (fun i wr => ∃ (k : Nat) (v : Value), i = .int .i64 (k : Int) ∧ k ≤ n ∧ k ≤ 9 ∧ BlkIs wr w.heap.size 34 #[.int .i64 0, .string ⟨#[]⟩, .slice none 0 0, .string ⟨#[]⟩, .slice none 0 0, .int .i64 0, .string ⟨#[]⟩] ∧ BlkIs wr (w.heap.size + 1) 34 #[.int .i64 3, .string ⟨#[]⟩, .slice none 0 0, .string T.1, v, .int .i64 0, .string ⟨#[]⟩] ∧ SlIs wr (w.heap.size + 2) 9 1 v k (texts F k) ∧ Moved g w wr ∧ RRd wr g (parS Q.2 k).1 (parS Q.2 k).2) (fun i _ => ((n : Int) - intOf i).toNat)
  case atStart => exact ⟨0, .slice none 0 0, rfl, by omega, by omega, H2.out.1, H2.out.2.1, H2.out.2.2.1, H2.out.2.2.2.1, H2.out.2.2.2.2⟩
  case round =>
    obtain ⟨k, v, rfl, hk, hk2, a0, a1, hs, hm, hr⟩ := hrel
    obtain ⟨ao1, cap1, rfl, hnc1, hcm1, hao1⟩ := hs.form
    have hfl := hr.flag
    have d2 := hfl.1
    have df := hfl.2
    have hown : Value.ownBlock (.slice ao1 k cap1) ≠ some (w.heap.size + 1) := fun hh => by have := (hs.lt _ hh).1; omega
    have hrow : ∀ j, Value.ownBlock (.slice ao1 k cap1) = some j → w.heap.size + 2 ≤ j := fun j hj => (hs.lt j hj).1
    have hgr := hr.lt
    have H := Lib.hid (And.intro a0 (And.intro a1 (And.intro hs (And.intro hm hr))))
    have hzw : w.heap.size + 1 < wr.heap.size := a1.lt
    have x4 : wr.cell? ⟨w.heap.size + 1, 4, none⟩ = some (.slice ao1 k cap1) := a1.cell 4
    have xf := a1.free 4
    clear a0 a1 hs hr hm hfl
    by_cases hgo : k < n ∧ k < 9 ∧ (parS Q.2 k).2 = false
    case neg =>
      by_cases h256 : 8 < n
      · have hE : P = (⟨#[]⟩, true) := HP.out.symm.trans (if_pos h256)
        have hi : 8 < (n : Int) := by omega
        have HE := Lib.hid hE
        have hout : k < n → k < 9 → (parS Q.2 k).2 = true := fun h1 h2 => by
          cases hx : (parS Q.2 k).2
          · exact absurd ⟨h1, h2, hx⟩ hgo
          · rfl
        have h3 : n ≤ k ∨ (k < n ∧ 9 ≤ k) ∨ (k < n ∧ k < 9 ∧ (parS Q.2 k).2 = true) := by
          rcases Nat.lt_or_ge k n with h1 | h1
          · rcases Nat.lt_or_ge k 9 with h2 | h2
            · exact Or.inr (Or.inr ⟨h1, h2, hout h1 h2⟩)
            · exact Or.inr (Or.inl ⟨h1, h2⟩)
          · exact Or.inl h1
        clear hout hgo hE h256
        rcases h3 with h1 | ⟨h1, h2⟩ | ⟨h1, h2, hbk⟩
        · have q1 : decide ((k : Int) < n) = false := decide_eq_false (by omega)
          go_wp2_with fail
          have a0 := H.out.1.far (p := ⟨g, 2, none⟩) (by show w.heap.size ≠ g; omega) (.bool true)
          have a1 := H.out.2.1.far (p := ⟨g, 2, none⟩) (by show w.heap.size + 1 ≠ g; omega) (.bool true)
          have hs := H.out.2.2.1.far (p := ⟨g, 2, none⟩) (fun hx => by have h9 : w.heap.size + 2 ≤ g := hrow _ hx; omega) (.bool true)
          have hM := H.out.2.2.2.1.setCell (p := ⟨g, 2, none⟩) rfl (.bool true)
          have hR := H.out.2.2.2.2.spoilt
          have HS := Lib.hid (And.intro a0 (And.intro a1 (And.intro hs (And.intro hM hR))))
          clear a0 a1 hs hM hR
          have HH := Lib.hid (show takeR ⟨#[]⟩ true 4 = Hq by rw [← HHq.out, HE.out])
          clear d2 df x4 xf
          refine (Oct.rrd_num g _ _ _ HS.out.2.2.2.2).mono ?_
          rintro e w5 ⟨rfl, hR, hm5⟩
          rw [HH.out] at hR ⊢
          rw [Hhe.out]
          have a0 := hm5.blk HS.out.1 (by omega)
          have a1 := hm5.blk HS.out.2.1 (by omega)
          have hs := hm5.sl HS.out.2.2.1 (by omega)
          have hM := HS.out.2.2.2.1.trans hm5
          have d5 : w5.cell? ⟨w.heap.size + 1, 5, none⟩ = some (.int .i64 0) := a1.cell 5
          have f5 := a1.free 5
          have a0 := a0.far (p := ⟨w.heap.size + 1, 5, none⟩) (by show w.heap.size ≠ w.heap.size + 1; omega) (.int .i64 (hh : Int))
          have hs := hs.far (p := ⟨w.heap.size + 1, 5, none⟩) hown (.int .i64 (hh : Int))
          have hM := hM.fresh (p := ⟨w.heap.size + 1, 5, none⟩) (by show w.heap.size ≤ w.heap.size + 1; omega) (.int .i64 (hh : Int))
          have hR := hR.far (p := ⟨w.heap.size + 1, 5, none⟩) (by show g ≠ w.heap.size + 1; omega) (.int .i64 (hh : Int))
          have a1 := a1.put 5 (.int .i64 (hh : Int))
          simp only [List.setIfInBounds_toArray, List.set_cons_succ, List.set_cons_zero] at a1
          have H6 := Lib.hid (And.intro a0 (And.intro a1 (And.intro hs (And.intro hM hR))))
          clear a0 a1 hs hM hR
          clear hm5
          go_wp2_with fail
          rw [Hwr.out]
          clear d5 f5
          refine (Oct.rrd_text g _ _ 1000 _ H6.out.2.2.2.2).mono ?_
          rintro e w7 ⟨rfl, hR, hm7⟩
          rw [HNt.out] at hR ⊢
          have a0 := hm7.blk H6.out.1 (by omega)
          have a1 := hm7.blk H6.out.2.1 (by omega)
          have hs := hm7.sl H6.out.2.2.1 (by omega)
          have hM := H6.out.2.2.2.1.trans hm7
          have d6 : w7.cell? ⟨w.heap.size + 1, 6, none⟩ = some (.string ⟨#[]⟩) := a1.cell 6
          have f6 := a1.free 6
          have x0 : w7.cell? ⟨w.heap.size + 1, 0, none⟩ = some (.int .i64 3) := a1.cell 0
          have x1 : w7.cell? ⟨w.heap.size + 1, 1, none⟩ = some (.string ⟨#[]⟩) := a1.cell 1
          have x2 : w7.cell? ⟨w.heap.size + 1, 2, none⟩ = some (.slice none 0 0) := a1.cell 2
          have x3 : w7.cell? ⟨w.heap.size + 1, 3, none⟩ = some (.string T.1) := a1.cell 3
          have x4 : w7.cell? ⟨w.heap.size + 1, 4, none⟩ = some (.slice ao1 k cap1) := a1.cell 4
          have x5 : w7.cell? ⟨w.heap.size + 1, 5, none⟩ = some (.int .i64 (hh : Int)) := a1.cell 5
          have hz7 := a1.lt
          have z0 : w7.cell? ⟨w.heap.size, 0, none⟩ = some (.int .i64 0) := a0.cell 0
          have zf0 := a0.free 0
          have z1 : w7.cell? ⟨w.heap.size, 1, none⟩ = some (.string ⟨#[]⟩) := a0.cell 1
          have zf1 := a0.free 1
          have z2 : w7.cell? ⟨w.heap.size, 2, none⟩ = some (.slice none 0 0) := a0.cell 2
          have zf2 := a0.free 2
          have z3 : w7.cell? ⟨w.heap.size, 3, none⟩ = some (.string ⟨#[]⟩) := a0.cell 3
          have zf3 := a0.free 3
          have z4 : w7.cell? ⟨w.heap.size, 4, none⟩ = some (.slice none 0 0) := a0.cell 4
          have zf4 := a0.free 4
          have z5 : w7.cell? ⟨w.heap.size, 5, none⟩ = some (.int .i64 0) := a0.cell 5
          have zf5 := a0.free 5
          have z6 : w7.cell? ⟨w.heap.size, 6, none⟩ = some (.string ⟨#[]⟩) := a0.cell 6
          have zf6 := a0.free 6
          have a0 := a0.far (p := ⟨w.heap.size + 1, 6, none⟩) (by show w.heap.size ≠ w.heap.size + 1; omega) (.string Nt.1)
          have hs := hs.far (p := ⟨w.heap.size + 1, 6, none⟩) hown (.string Nt.1)
          have hM := hM.fresh (p := ⟨w.heap.size + 1, 6, none⟩) (by show w.heap.size ≤ w.heap.size + 1; omega) (.string Nt.1)
          have hR := hR.far (p := ⟨w.heap.size + 1, 6, none⟩) (by show g ≠ w.heap.size + 1; omega) (.string Nt.1)
          have a1 := a1.put 6 (.string Nt.1)
          simp only [List.setIfInBounds_toArray, List.set_cons_succ, List.set_cons_zero] at a1
          have H8 := Lib.hid (And.intro a0 (And.intro a1 (And.intro hs (And.intro hM hR))))
          clear a0 a1 hs hM hR
          clear hm7
          go_wp2_with fail
          have k8 := (((((((H8.out.1.put 0 (.int .i64 3)).put 1 (.string ⟨#[]⟩)).put 2 (.slice none 0 0)).put 3 (.string T.1)).put 4 (.slice ao1 k cap1)).put 5 (.int .i64 (hh : Int))).put 6 (.string Nt.1))
          simp only [List.setIfInBounds_toArray, List.set_cons_succ, List.set_cons_zero] at k8
          have M8 := ((((((((Moved.refl w.heap.size (w7.setCell ⟨w.heap.size + 1, 6, none⟩ (.string Nt.1))).setCell (p := ⟨w.heap.size, 0, none⟩) rfl (.int .i64 3)).setCell (p := ⟨w.heap.size, 1, none⟩) rfl (.string ⟨#[]⟩)).setCell (p := ⟨w.heap.size, 2, none⟩) rfl (.slice none 0 0)).setCell (p := ⟨w.heap.size, 3, none⟩) rfl (.string T.1)).setCell (p := ⟨w.heap.size, 4, none⟩) rfl (.slice ao1 k cap1)).setCell (p := ⟨w.heap.size, 5, none⟩) rfl (.int .i64 (hh : Int))).setCell (p := ⟨w.heap.size, 6, none⟩) rfl (.string Nt.1))
          have R8 := (((((((H8.out.2.2.2.2.far (p := ⟨w.heap.size, 0, none⟩) (by show g ≠ w.heap.size; omega) (.int .i64 3)).far (p := ⟨w.heap.size, 1, none⟩) (by show g ≠ w.heap.size; omega) (.string ⟨#[]⟩)).far (p := ⟨w.heap.size, 2, none⟩) (by show g ≠ w.heap.size; omega) (.slice none 0 0)).far (p := ⟨w.heap.size, 3, none⟩) (by show g ≠ w.heap.size; omega) (.string T.1)).far (p := ⟨w.heap.size, 4, none⟩) (by show g ≠ w.heap.size; omega) (.slice ao1 k cap1)).far (p := ⟨w.heap.size, 5, none⟩) (by show g ≠ w.heap.size; omega) (.int .i64 (hh : Int))).far (p := ⟨w.heap.size, 6, none⟩) (by show g ≠ w.heap.size; omega) (.string Nt.1))
          have F8 := (((((((H8.out.2.2.2.1.fresh (p := ⟨w.heap.size, 0, none⟩) (Nat.le_refl _) (.int .i64 3)).fresh (p := ⟨w.heap.size, 1, none⟩) (Nat.le_refl _) (.string ⟨#[]⟩)).fresh (p := ⟨w.heap.size, 2, none⟩) (Nat.le_refl _) (.slice none 0 0)).fresh (p := ⟨w.heap.size, 3, none⟩) (Nat.le_refl _) (.string T.1)).fresh (p := ⟨w.heap.size, 4, none⟩) (Nat.le_refl _) (.slice ao1 k cap1)).fresh (p := ⟨w.heap.size, 5, none⟩) (Nat.le_refl _) (.int .i64 (hh : Int))).fresh (p := ⟨w.heap.size, 6, none⟩) (Nat.le_refl _) (.string Nt.1))
          refine bodyPost_ret (results_cell_row rfl _ _ w.heap.size 34 #[.int .i64 3, .string ⟨#[]⟩, .slice none 0 0, .string T.1, .slice ao1 k cap1, .int .i64 (hh : Int), .string Nt.1] (0, 0) _ rfl k8 Try.underlying34 rfl hinfo) rfl ?_
          exact ⟨_, rfl, ao1, k, cap1, rfl, R8, F8, fun hf => by rw [HE.out] at hf; cases hf⟩
        · have ki : (k : Int) < n := by omega
          have q2 : decide ((k : Int) < 9) = false := decide_eq_false (by omega)
          go_wp2_with fail
          have a0 := H.out.1.far (p := ⟨g, 2, none⟩) (by show w.heap.size ≠ g; omega) (.bool true)
          have a1 := H.out.2.1.far (p := ⟨g, 2, none⟩) (by show w.heap.size + 1 ≠ g; omega) (.bool true)
          have hs := H.out.2.2.1.far (p := ⟨g, 2, none⟩) (fun hx => by have h9 : w.heap.size + 2 ≤ g := hrow _ hx; omega) (.bool true)
          have hM := H.out.2.2.2.1.setCell (p := ⟨g, 2, none⟩) rfl (.bool true)
          have hR := H.out.2.2.2.2.spoilt
          have HS := Lib.hid (And.intro a0 (And.intro a1 (And.intro hs (And.intro hM hR))))
          clear a0 a1 hs hM hR
          have HH := Lib.hid (show takeR ⟨#[]⟩ true 4 = Hq by rw [← HHq.out, HE.out])
          clear d2 df x4 xf
          refine (Oct.rrd_num g _ _ _ HS.out.2.2.2.2).mono ?_
          rintro e w5 ⟨rfl, hR, hm5⟩
          rw [HH.out] at hR ⊢
          rw [Hhe.out]
          have a0 := hm5.blk HS.out.1 (by omega)
          have a1 := hm5.blk HS.out.2.1 (by omega)
          have hs := hm5.sl HS.out.2.2.1 (by omega)
          have hM := HS.out.2.2.2.1.trans hm5
          have d5 : w5.cell? ⟨w.heap.size + 1, 5, none⟩ = some (.int .i64 0) := a1.cell 5
          have f5 := a1.free 5
          have a0 := a0.far (p := ⟨w.heap.size + 1, 5, none⟩) (by show w.heap.size ≠ w.heap.size + 1; omega) (.int .i64 (hh : Int))
          have hs := hs.far (p := ⟨w.heap.size + 1, 5, none⟩) hown (.int .i64 (hh : Int))
          have hM := hM.fresh (p := ⟨w.heap.size + 1, 5, none⟩) (by show w.heap.size ≤ w.heap.size + 1; omega) (.int .i64 (hh : Int))
          have hR := hR.far (p := ⟨w.heap.size + 1, 5, none⟩) (by show g ≠ w.heap.size + 1; omega) (.int .i64 (hh : Int))
          have a1 := a1.put 5 (.int .i64 (hh : Int))
          simp only [List.setIfInBounds_toArray, List.set_cons_succ, List.set_cons_zero] at a1
          have H6 := Lib.hid (And.intro a0 (And.intro a1 (And.intro hs (And.intro hM hR))))
          clear a0 a1 hs hM hR
          clear hm5
          go_wp2_with fail
          rw [Hwr.out]
          clear d5 f5
          refine (Oct.rrd_text g _ _ 1000 _ H6.out.2.2.2.2).mono ?_
          rintro e w7 ⟨rfl, hR, hm7⟩
          rw [HNt.out] at hR ⊢
          have a0 := hm7.blk H6.out.1 (by omega)
          have a1 := hm7.blk H6.out.2.1 (by omega)
          have hs := hm7.sl H6.out.2.2.1 (by omega)
          have hM := H6.out.2.2.2.1.trans hm7
          have d6 : w7.cell? ⟨w.heap.size + 1, 6, none⟩ = some (.string ⟨#[]⟩) := a1.cell 6
          have f6 := a1.free 6
          have x0 : w7.cell? ⟨w.heap.size + 1, 0, none⟩ = some (.int .i64 3) := a1.cell 0
          have x1 : w7.cell? ⟨w.heap.size + 1, 1, none⟩ = some (.string ⟨#[]⟩) := a1.cell 1
          have x2 : w7.cell? ⟨w.heap.size + 1, 2, none⟩ = some (.slice none 0 0) := a1.cell 2
          have x3 : w7.cell? ⟨w.heap.size + 1, 3, none⟩ = some (.string T.1) := a1.cell 3
          have x4 : w7.cell? ⟨w.heap.size + 1, 4, none⟩ = some (.slice ao1 k cap1) := a1.cell 4
          have x5 : w7.cell? ⟨w.heap.size + 1, 5, none⟩ = some (.int .i64 (hh : Int)) := a1.cell 5
          have hz7 := a1.lt
          have z0 : w7.cell? ⟨w.heap.size, 0, none⟩ = some (.int .i64 0) := a0.cell 0
          have zf0 := a0.free 0
          have z1 : w7.cell? ⟨w.heap.size, 1, none⟩ = some (.string ⟨#[]⟩) := a0.cell 1
          have zf1 := a0.free 1
          have z2 : w7.cell? ⟨w.heap.size, 2, none⟩ = some (.slice none 0 0) := a0.cell 2
          have zf2 := a0.free 2
          have z3 : w7.cell? ⟨w.heap.size, 3, none⟩ = some (.string ⟨#[]⟩) := a0.cell 3
          have zf3 := a0.free 3
          have z4 : w7.cell? ⟨w.heap.size, 4, none⟩ = some (.slice none 0 0) := a0.cell 4
          have zf4 := a0.free 4
          have z5 : w7.cell? ⟨w.heap.size, 5, none⟩ = some (.int .i64 0) := a0.cell 5
          have zf5 := a0.free 5
          have z6 : w7.cell? ⟨w.heap.size, 6, none⟩ = some (.string ⟨#[]⟩) := a0.cell 6
          have zf6 := a0.free 6
          have a0 := a0.far (p := ⟨w.heap.size + 1, 6, none⟩) (by show w.heap.size ≠ w.heap.size + 1; omega) (.string Nt.1)
          have hs := hs.far (p := ⟨w.heap.size + 1, 6, none⟩) hown (.string Nt.1)
          have hM := hM.fresh (p := ⟨w.heap.size + 1, 6, none⟩) (by show w.heap.size ≤ w.heap.size + 1; omega) (.string Nt.1)
          have hR := hR.far (p := ⟨w.heap.size + 1, 6, none⟩) (by show g ≠ w.heap.size + 1; omega) (.string Nt.1)
          have a1 := a1.put 6 (.string Nt.1)
          simp only [List.setIfInBounds_toArray, List.set_cons_succ, List.set_cons_zero] at a1
          have H8 := Lib.hid (And.intro a0 (And.intro a1 (And.intro hs (And.intro hM hR))))
          clear a0 a1 hs hM hR
          clear hm7
          go_wp2_with fail
          have k8 := (((((((H8.out.1.put 0 (.int .i64 3)).put 1 (.string ⟨#[]⟩)).put 2 (.slice none 0 0)).put 3 (.string T.1)).put 4 (.slice ao1 k cap1)).put 5 (.int .i64 (hh : Int))).put 6 (.string Nt.1))
          simp only [List.setIfInBounds_toArray, List.set_cons_succ, List.set_cons_zero] at k8
          have M8 := ((((((((Moved.refl w.heap.size (w7.setCell ⟨w.heap.size + 1, 6, none⟩ (.string Nt.1))).setCell (p := ⟨w.heap.size, 0, none⟩) rfl (.int .i64 3)).setCell (p := ⟨w.heap.size, 1, none⟩) rfl (.string ⟨#[]⟩)).setCell (p := ⟨w.heap.size, 2, none⟩) rfl (.slice none 0 0)).setCell (p := ⟨w.heap.size, 3, none⟩) rfl (.string T.1)).setCell (p := ⟨w.heap.size, 4, none⟩) rfl (.slice ao1 k cap1)).setCell (p := ⟨w.heap.size, 5, none⟩) rfl (.int .i64 (hh : Int))).setCell (p := ⟨w.heap.size, 6, none⟩) rfl (.string Nt.1))
          have R8 := (((((((H8.out.2.2.2.2.far (p := ⟨w.heap.size, 0, none⟩) (by show g ≠ w.heap.size; omega) (.int .i64 3)).far (p := ⟨w.heap.size, 1, none⟩) (by show g ≠ w.heap.size; omega) (.string ⟨#[]⟩)).far (p := ⟨w.heap.size, 2, none⟩) (by show g ≠ w.heap.size; omega) (.slice none 0 0)).far (p := ⟨w.heap.size, 3, none⟩) (by show g ≠ w.heap.size; omega) (.string T.1)).far (p := ⟨w.heap.size, 4, none⟩) (by show g ≠ w.heap.size; omega) (.slice ao1 k cap1)).far (p := ⟨w.heap.size, 5, none⟩) (by show g ≠ w.heap.size; omega) (.int .i64 (hh : Int))).far (p := ⟨w.heap.size, 6, none⟩) (by show g ≠ w.heap.size; omega) (.string Nt.1))
          have F8 := (((((((H8.out.2.2.2.1.fresh (p := ⟨w.heap.size, 0, none⟩) (Nat.le_refl _) (.int .i64 3)).fresh (p := ⟨w.heap.size, 1, none⟩) (Nat.le_refl _) (.string ⟨#[]⟩)).fresh (p := ⟨w.heap.size, 2, none⟩) (Nat.le_refl _) (.slice none 0 0)).fresh (p := ⟨w.heap.size, 3, none⟩) (Nat.le_refl _) (.string T.1)).fresh (p := ⟨w.heap.size, 4, none⟩) (Nat.le_refl _) (.slice ao1 k cap1)).fresh (p := ⟨w.heap.size, 5, none⟩) (Nat.le_refl _) (.int .i64 (hh : Int))).fresh (p := ⟨w.heap.size, 6, none⟩) (Nat.le_refl _) (.string Nt.1))
          refine bodyPost_ret (results_cell_row rfl _ _ w.heap.size 34 #[.int .i64 3, .string ⟨#[]⟩, .slice none 0 0, .string T.1, .slice ao1 k cap1, .int .i64 (hh : Int), .string Nt.1] (0, 0) _ rfl k8 Try.underlying34 rfl hinfo) rfl ?_
          exact ⟨_, rfl, ao1, k, cap1, rfl, R8, F8, fun hf => by rw [HE.out] at hf; cases hf⟩
        · have ki : (k : Int) < n := by omega
          have k7 : (k : Int) < 9 := by omega
          rw [hbk] at d2
          go_wp2_with fail
          have a0 := H.out.1.far (p := ⟨g, 2, none⟩) (by show w.heap.size ≠ g; omega) (.bool true)
          have a1 := H.out.2.1.far (p := ⟨g, 2, none⟩) (by show w.heap.size + 1 ≠ g; omega) (.bool true)
          have hs := H.out.2.2.1.far (p := ⟨g, 2, none⟩) (fun hx => by have h9 : w.heap.size + 2 ≤ g := hrow _ hx; omega) (.bool true)
          have hM := H.out.2.2.2.1.setCell (p := ⟨g, 2, none⟩) rfl (.bool true)
          have hR := H.out.2.2.2.2.spoilt
          have HS := Lib.hid (And.intro a0 (And.intro a1 (And.intro hs (And.intro hM hR))))
          clear a0 a1 hs hM hR
          have HH := Lib.hid (show takeR ⟨#[]⟩ true 4 = Hq by rw [← HHq.out, HE.out])
          clear d2 df x4 xf
          refine (Oct.rrd_num g _ _ _ HS.out.2.2.2.2).mono ?_
          rintro e w5 ⟨rfl, hR, hm5⟩
          rw [HH.out] at hR ⊢
          rw [Hhe.out]
          have a0 := hm5.blk HS.out.1 (by omega)
          have a1 := hm5.blk HS.out.2.1 (by omega)
          have hs := hm5.sl HS.out.2.2.1 (by omega)
          have hM := HS.out.2.2.2.1.trans hm5
          have d5 : w5.cell? ⟨w.heap.size + 1, 5, none⟩ = some (.int .i64 0) := a1.cell 5
          have f5 := a1.free 5
          have a0 := a0.far (p := ⟨w.heap.size + 1, 5, none⟩) (by show w.heap.size ≠ w.heap.size + 1; omega) (.int .i64 (hh : Int))
          have hs := hs.far (p := ⟨w.heap.size + 1, 5, none⟩) hown (.int .i64 (hh : Int))
          have hM := hM.fresh (p := ⟨w.heap.size + 1, 5, none⟩) (by show w.heap.size ≤ w.heap.size + 1; omega) (.int .i64 (hh : Int))
          have hR := hR.far (p := ⟨w.heap.size + 1, 5, none⟩) (by show g ≠ w.heap.size + 1; omega) (.int .i64 (hh : Int))
          have a1 := a1.put 5 (.int .i64 (hh : Int))
          simp only [List.setIfInBounds_toArray, List.set_cons_succ, List.set_cons_zero] at a1
          have H6 := Lib.hid (And.intro a0 (And.intro a1 (And.intro hs (And.intro hM hR))))
          clear a0 a1 hs hM hR
          clear hm5
          go_wp2_with fail
          rw [Hwr.out]
          clear d5 f5
          refine (Oct.rrd_text g _ _ 1000 _ H6.out.2.2.2.2).mono ?_
          rintro e w7 ⟨rfl, hR, hm7⟩
          rw [HNt.out] at hR ⊢
          have a0 := hm7.blk H6.out.1 (by omega)
          have a1 := hm7.blk H6.out.2.1 (by omega)
          have hs := hm7.sl H6.out.2.2.1 (by omega)
          have hM := H6.out.2.2.2.1.trans hm7
          have d6 : w7.cell? ⟨w.heap.size + 1, 6, none⟩ = some (.string ⟨#[]⟩) := a1.cell 6
          have f6 := a1.free 6
          have x0 : w7.cell? ⟨w.heap.size + 1, 0, none⟩ = some (.int .i64 3) := a1.cell 0
          have x1 : w7.cell? ⟨w.heap.size + 1, 1, none⟩ = some (.string ⟨#[]⟩) := a1.cell 1
          have x2 : w7.cell? ⟨w.heap.size + 1, 2, none⟩ = some (.slice none 0 0) := a1.cell 2
          have x3 : w7.cell? ⟨w.heap.size + 1, 3, none⟩ = some (.string T.1) := a1.cell 3
          have x4 : w7.cell? ⟨w.heap.size + 1, 4, none⟩ = some (.slice ao1 k cap1) := a1.cell 4
          have x5 : w7.cell? ⟨w.heap.size + 1, 5, none⟩ = some (.int .i64 (hh : Int)) := a1.cell 5
          have hz7 := a1.lt
          have z0 : w7.cell? ⟨w.heap.size, 0, none⟩ = some (.int .i64 0) := a0.cell 0
          have zf0 := a0.free 0
          have z1 : w7.cell? ⟨w.heap.size, 1, none⟩ = some (.string ⟨#[]⟩) := a0.cell 1
          have zf1 := a0.free 1
          have z2 : w7.cell? ⟨w.heap.size, 2, none⟩ = some (.slice none 0 0) := a0.cell 2
          have zf2 := a0.free 2
          have z3 : w7.cell? ⟨w.heap.size, 3, none⟩ = some (.string ⟨#[]⟩) := a0.cell 3
          have zf3 := a0.free 3
          have z4 : w7.cell? ⟨w.heap.size, 4, none⟩ = some (.slice none 0 0) := a0.cell 4
          have zf4 := a0.free 4
          have z5 : w7.cell? ⟨w.heap.size, 5, none⟩ = some (.int .i64 0) := a0.cell 5
          have zf5 := a0.free 5
          have z6 : w7.cell? ⟨w.heap.size, 6, none⟩ = some (.string ⟨#[]⟩) := a0.cell 6
          have zf6 := a0.free 6
          have a0 := a0.far (p := ⟨w.heap.size + 1, 6, none⟩) (by show w.heap.size ≠ w.heap.size + 1; omega) (.string Nt.1)
          have hs := hs.far (p := ⟨w.heap.size + 1, 6, none⟩) hown (.string Nt.1)
          have hM := hM.fresh (p := ⟨w.heap.size + 1, 6, none⟩) (by show w.heap.size ≤ w.heap.size + 1; omega) (.string Nt.1)
          have hR := hR.far (p := ⟨w.heap.size + 1, 6, none⟩) (by show g ≠ w.heap.size + 1; omega) (.string Nt.1)
          have a1 := a1.put 6 (.string Nt.1)
          simp only [List.setIfInBounds_toArray, List.set_cons_succ, List.set_cons_zero] at a1
          have H8 := Lib.hid (And.intro a0 (And.intro a1 (And.intro hs (And.intro hM hR))))
          clear a0 a1 hs hM hR
          clear hm7
          go_wp2_with fail
          have k8 := (((((((H8.out.1.put 0 (.int .i64 3)).put 1 (.string ⟨#[]⟩)).put 2 (.slice none 0 0)).put 3 (.string T.1)).put 4 (.slice ao1 k cap1)).put 5 (.int .i64 (hh : Int))).put 6 (.string Nt.1))
          simp only [List.setIfInBounds_toArray, List.set_cons_succ, List.set_cons_zero] at k8
          have M8 := ((((((((Moved.refl w.heap.size (w7.setCell ⟨w.heap.size + 1, 6, none⟩ (.string Nt.1))).setCell (p := ⟨w.heap.size, 0, none⟩) rfl (.int .i64 3)).setCell (p := ⟨w.heap.size, 1, none⟩) rfl (.string ⟨#[]⟩)).setCell (p := ⟨w.heap.size, 2, none⟩) rfl (.slice none 0 0)).setCell (p := ⟨w.heap.size, 3, none⟩) rfl (.string T.1)).setCell (p := ⟨w.heap.size, 4, none⟩) rfl (.slice ao1 k cap1)).setCell (p := ⟨w.heap.size, 5, none⟩) rfl (.int .i64 (hh : Int))).setCell (p := ⟨w.heap.size, 6, none⟩) rfl (.string Nt.1))
          have R8 := (((((((H8.out.2.2.2.2.far (p := ⟨w.heap.size, 0, none⟩) (by show g ≠ w.heap.size; omega) (.int .i64 3)).far (p := ⟨w.heap.size, 1, none⟩) (by show g ≠ w.heap.size; omega) (.string ⟨#[]⟩)).far (p := ⟨w.heap.size, 2, none⟩) (by show g ≠ w.heap.size; omega) (.slice none 0 0)).far (p := ⟨w.heap.size, 3, none⟩) (by show g ≠ w.heap.size; omega) (.string T.1)).far (p := ⟨w.heap.size, 4, none⟩) (by show g ≠ w.heap.size; omega) (.slice ao1 k cap1)).far (p := ⟨w.heap.size, 5, none⟩) (by show g ≠ w.heap.size; omega) (.int .i64 (hh : Int))).far (p := ⟨w.heap.size, 6, none⟩) (by show g ≠ w.heap.size; omega) (.string Nt.1))
          have F8 := (((((((H8.out.2.2.2.1.fresh (p := ⟨w.heap.size, 0, none⟩) (Nat.le_refl _) (.int .i64 3)).fresh (p := ⟨w.heap.size, 1, none⟩) (Nat.le_refl _) (.string ⟨#[]⟩)).fresh (p := ⟨w.heap.size, 2, none⟩) (Nat.le_refl _) (.slice none 0 0)).fresh (p := ⟨w.heap.size, 3, none⟩) (Nat.le_refl _) (.string T.1)).fresh (p := ⟨w.heap.size, 4, none⟩) (Nat.le_refl _) (.slice ao1 k cap1)).fresh (p := ⟨w.heap.size, 5, none⟩) (Nat.le_refl _) (.int .i64 (hh : Int))).fresh (p := ⟨w.heap.size, 6, none⟩) (Nat.le_refl _) (.string Nt.1))
          refine bodyPost_ret (results_cell_row rfl _ _ w.heap.size 34 #[.int .i64 3, .string ⟨#[]⟩, .slice none 0 0, .string T.1, .slice ao1 k cap1, .int .i64 (hh : Int), .string Nt.1] (0, 0) _ rfl k8 Try.underlying34 rfl hinfo) rfl ?_
          exact ⟨_, rfl, ao1, k, cap1, rfl, R8, F8, fun hf => by rw [HE.out] at hf; cases hf⟩
      · have hE : P = parS Q.2 n := HP.out.symm.trans (if_neg h256)
        have hn : n ≤ 8 := by omega
        have hi : decide (8 < (n : Int)) = false := decide_eq_false (by omega)
        have HE := Lib.hid hE
        clear hE h256
        rcases Nat.lt_or_ge k n with h1 | h1
        · have hbk : (parS Q.2 k).2 = true := by
            cases hx : (parS Q.2 k).2
            · exact absurd ⟨h1, by omega, hx⟩ hgo
            · rfl
          have hbn := parS_bad Q.2 k hbk (n - k)
          rw [show k + (n - k) = n by omega] at hbn
          have Hbn := Lib.hid (And.intro hbk hbn)
          have HH := Lib.hid (show takeR (parS Q.2 k).1 (parS Q.2 k).2 4 = Hq by rw [← HHq.out, HE.out, hbk, hbn, takeR_bad, takeR_bad])
          have ki : (k : Int) < n := by omega
          have k7 : (k : Int) < 9 := by omega
          rw [hbk] at d2
          clear hgo hbk hbn
          go_wp2_with fail
          clear d2 df x4 xf
          refine (Oct.rrd_num g _ _ _ H.out.2.2.2.2).mono ?_
          rintro e w5 ⟨rfl, hR, hm5⟩
          rw [HH.out] at hR ⊢
          rw [Hhe.out]
          have a0 := hm5.blk H.out.1 (by omega)
          have a1 := hm5.blk H.out.2.1 (by omega)
          have hs := hm5.sl H.out.2.2.1 (by omega)
          have hM := H.out.2.2.2.1.trans hm5
          have d5 : w5.cell? ⟨w.heap.size + 1, 5, none⟩ = some (.int .i64 0) := a1.cell 5
          have f5 := a1.free 5
          have a0 := a0.far (p := ⟨w.heap.size + 1, 5, none⟩) (by show w.heap.size ≠ w.heap.size + 1; omega) (.int .i64 (hh : Int))
          have hs := hs.far (p := ⟨w.heap.size + 1, 5, none⟩) hown (.int .i64 (hh : Int))
          have hM := hM.fresh (p := ⟨w.heap.size + 1, 5, none⟩) (by show w.heap.size ≤ w.heap.size + 1; omega) (.int .i64 (hh : Int))
          have hR := hR.far (p := ⟨w.heap.size + 1, 5, none⟩) (by show g ≠ w.heap.size + 1; omega) (.int .i64 (hh : Int))
          have a1 := a1.put 5 (.int .i64 (hh : Int))
          simp only [List.setIfInBounds_toArray, List.set_cons_succ, List.set_cons_zero] at a1
          have H6 := Lib.hid (And.intro a0 (And.intro a1 (And.intro hs (And.intro hM hR))))
          clear a0 a1 hs hM hR
          clear hm5
          go_wp2_with fail
          rw [Hwr.out]
          clear d5 f5
          refine (Oct.rrd_text g _ _ 1000 _ H6.out.2.2.2.2).mono ?_
          rintro e w7 ⟨rfl, hR, hm7⟩
          rw [HNt.out] at hR ⊢
          have a0 := hm7.blk H6.out.1 (by omega)
          have a1 := hm7.blk H6.out.2.1 (by omega)
          have hs := hm7.sl H6.out.2.2.1 (by omega)
          have hM := H6.out.2.2.2.1.trans hm7
          have d6 : w7.cell? ⟨w.heap.size + 1, 6, none⟩ = some (.string ⟨#[]⟩) := a1.cell 6
          have f6 := a1.free 6
          have x0 : w7.cell? ⟨w.heap.size + 1, 0, none⟩ = some (.int .i64 3) := a1.cell 0
          have x1 : w7.cell? ⟨w.heap.size + 1, 1, none⟩ = some (.string ⟨#[]⟩) := a1.cell 1
          have x2 : w7.cell? ⟨w.heap.size + 1, 2, none⟩ = some (.slice none 0 0) := a1.cell 2
          have x3 : w7.cell? ⟨w.heap.size + 1, 3, none⟩ = some (.string T.1) := a1.cell 3
          have x4 : w7.cell? ⟨w.heap.size + 1, 4, none⟩ = some (.slice ao1 k cap1) := a1.cell 4
          have x5 : w7.cell? ⟨w.heap.size + 1, 5, none⟩ = some (.int .i64 (hh : Int)) := a1.cell 5
          have hz7 := a1.lt
          have z0 : w7.cell? ⟨w.heap.size, 0, none⟩ = some (.int .i64 0) := a0.cell 0
          have zf0 := a0.free 0
          have z1 : w7.cell? ⟨w.heap.size, 1, none⟩ = some (.string ⟨#[]⟩) := a0.cell 1
          have zf1 := a0.free 1
          have z2 : w7.cell? ⟨w.heap.size, 2, none⟩ = some (.slice none 0 0) := a0.cell 2
          have zf2 := a0.free 2
          have z3 : w7.cell? ⟨w.heap.size, 3, none⟩ = some (.string ⟨#[]⟩) := a0.cell 3
          have zf3 := a0.free 3
          have z4 : w7.cell? ⟨w.heap.size, 4, none⟩ = some (.slice none 0 0) := a0.cell 4
          have zf4 := a0.free 4
          have z5 : w7.cell? ⟨w.heap.size, 5, none⟩ = some (.int .i64 0) := a0.cell 5
          have zf5 := a0.free 5
          have z6 : w7.cell? ⟨w.heap.size, 6, none⟩ = some (.string ⟨#[]⟩) := a0.cell 6
          have zf6 := a0.free 6
          have a0 := a0.far (p := ⟨w.heap.size + 1, 6, none⟩) (by show w.heap.size ≠ w.heap.size + 1; omega) (.string Nt.1)
          have hs := hs.far (p := ⟨w.heap.size + 1, 6, none⟩) hown (.string Nt.1)
          have hM := hM.fresh (p := ⟨w.heap.size + 1, 6, none⟩) (by show w.heap.size ≤ w.heap.size + 1; omega) (.string Nt.1)
          have hR := hR.far (p := ⟨w.heap.size + 1, 6, none⟩) (by show g ≠ w.heap.size + 1; omega) (.string Nt.1)
          have a1 := a1.put 6 (.string Nt.1)
          simp only [List.setIfInBounds_toArray, List.set_cons_succ, List.set_cons_zero] at a1
          have H8 := Lib.hid (And.intro a0 (And.intro a1 (And.intro hs (And.intro hM hR))))
          clear a0 a1 hs hM hR
          clear hm7
          go_wp2_with fail
          have k8 := (((((((H8.out.1.put 0 (.int .i64 3)).put 1 (.string ⟨#[]⟩)).put 2 (.slice none 0 0)).put 3 (.string T.1)).put 4 (.slice ao1 k cap1)).put 5 (.int .i64 (hh : Int))).put 6 (.string Nt.1))
          simp only [List.setIfInBounds_toArray, List.set_cons_succ, List.set_cons_zero] at k8
          have M8 := ((((((((Moved.refl w.heap.size (w7.setCell ⟨w.heap.size + 1, 6, none⟩ (.string Nt.1))).setCell (p := ⟨w.heap.size, 0, none⟩) rfl (.int .i64 3)).setCell (p := ⟨w.heap.size, 1, none⟩) rfl (.string ⟨#[]⟩)).setCell (p := ⟨w.heap.size, 2, none⟩) rfl (.slice none 0 0)).setCell (p := ⟨w.heap.size, 3, none⟩) rfl (.string T.1)).setCell (p := ⟨w.heap.size, 4, none⟩) rfl (.slice ao1 k cap1)).setCell (p := ⟨w.heap.size, 5, none⟩) rfl (.int .i64 (hh : Int))).setCell (p := ⟨w.heap.size, 6, none⟩) rfl (.string Nt.1))
          have R8 := (((((((H8.out.2.2.2.2.far (p := ⟨w.heap.size, 0, none⟩) (by show g ≠ w.heap.size; omega) (.int .i64 3)).far (p := ⟨w.heap.size, 1, none⟩) (by show g ≠ w.heap.size; omega) (.string ⟨#[]⟩)).far (p := ⟨w.heap.size, 2, none⟩) (by show g ≠ w.heap.size; omega) (.slice none 0 0)).far (p := ⟨w.heap.size, 3, none⟩) (by show g ≠ w.heap.size; omega) (.string T.1)).far (p := ⟨w.heap.size, 4, none⟩) (by show g ≠ w.heap.size; omega) (.slice ao1 k cap1)).far (p := ⟨w.heap.size, 5, none⟩) (by show g ≠ w.heap.size; omega) (.int .i64 (hh : Int))).far (p := ⟨w.heap.size, 6, none⟩) (by show g ≠ w.heap.size; omega) (.string Nt.1))
          have F8 := (((((((H8.out.2.2.2.1.fresh (p := ⟨w.heap.size, 0, none⟩) (Nat.le_refl _) (.int .i64 3)).fresh (p := ⟨w.heap.size, 1, none⟩) (Nat.le_refl _) (.string ⟨#[]⟩)).fresh (p := ⟨w.heap.size, 2, none⟩) (Nat.le_refl _) (.slice none 0 0)).fresh (p := ⟨w.heap.size, 3, none⟩) (Nat.le_refl _) (.string T.1)).fresh (p := ⟨w.heap.size, 4, none⟩) (Nat.le_refl _) (.slice ao1 k cap1)).fresh (p := ⟨w.heap.size, 5, none⟩) (Nat.le_refl _) (.int .i64 (hh : Int))).fresh (p := ⟨w.heap.size, 6, none⟩) (Nat.le_refl _) (.string Nt.1))
          refine bodyPost_ret (results_cell_row rfl _ _ w.heap.size 34 #[.int .i64 3, .string ⟨#[]⟩, .slice none 0 0, .string T.1, .slice ao1 k cap1, .int .i64 (hh : Int), .string Nt.1] (0, 0) _ rfl k8 Try.underlying34 rfl hinfo) rfl ?_
          exact ⟨_, rfl, ao1, k, cap1, rfl, R8, F8, fun hf => by rw [HE.out, Hbn.out.2] at hf; cases hf⟩
        · obtain rfl : k = n := by omega
          have q1 : decide ((k : Int) < k) = false := decide_eq_false (by omega)
          have HH := Lib.hid (show takeR (parS Q.2 k).1 (parS Q.2 k).2 4 = Hq by rw [← HHq.out, HE.out])
          clear hgo
          go_wp2_with fail
          clear d2 df x4 xf
          refine (Oct.rrd_num g _ _ _ H.out.2.2.2.2).mono ?_
          rintro e w5 ⟨rfl, hR, hm5⟩
          rw [HH.out] at hR ⊢
          rw [Hhe.out]
          have a0 := hm5.blk H.out.1 (by omega)
          have a1 := hm5.blk H.out.2.1 (by omega)
          have hs := hm5.sl H.out.2.2.1 (by omega)
          have hM := H.out.2.2.2.1.trans hm5
          have d5 : w5.cell? ⟨w.heap.size + 1, 5, none⟩ = some (.int .i64 0) := a1.cell 5
          have f5 := a1.free 5
          have a0 := a0.far (p := ⟨w.heap.size + 1, 5, none⟩) (by show w.heap.size ≠ w.heap.size + 1; omega) (.int .i64 (hh : Int))
          have hs := hs.far (p := ⟨w.heap.size + 1, 5, none⟩) hown (.int .i64 (hh : Int))
          have hM := hM.fresh (p := ⟨w.heap.size + 1, 5, none⟩) (by show w.heap.size ≤ w.heap.size + 1; omega) (.int .i64 (hh : Int))
          have hR := hR.far (p := ⟨w.heap.size + 1, 5, none⟩) (by show g ≠ w.heap.size + 1; omega) (.int .i64 (hh : Int))
          have a1 := a1.put 5 (.int .i64 (hh : Int))
          simp only [List.setIfInBounds_toArray, List.set_cons_succ, List.set_cons_zero] at a1
          have H6 := Lib.hid (And.intro a0 (And.intro a1 (And.intro hs (And.intro hM hR))))
          clear a0 a1 hs hM hR
          clear hm5
          go_wp2_with fail
          rw [Hwr.out]
          clear d5 f5
          refine (Oct.rrd_text g _ _ 1000 _ H6.out.2.2.2.2).mono ?_
          rintro e w7 ⟨rfl, hR, hm7⟩
          rw [HNt.out] at hR ⊢
          have a0 := hm7.blk H6.out.1 (by omega)
          have a1 := hm7.blk H6.out.2.1 (by omega)
          have hs := hm7.sl H6.out.2.2.1 (by omega)
          have hM := H6.out.2.2.2.1.trans hm7
          have d6 : w7.cell? ⟨w.heap.size + 1, 6, none⟩ = some (.string ⟨#[]⟩) := a1.cell 6
          have f6 := a1.free 6
          have x0 : w7.cell? ⟨w.heap.size + 1, 0, none⟩ = some (.int .i64 3) := a1.cell 0
          have x1 : w7.cell? ⟨w.heap.size + 1, 1, none⟩ = some (.string ⟨#[]⟩) := a1.cell 1
          have x2 : w7.cell? ⟨w.heap.size + 1, 2, none⟩ = some (.slice none 0 0) := a1.cell 2
          have x3 : w7.cell? ⟨w.heap.size + 1, 3, none⟩ = some (.string T.1) := a1.cell 3
          have x4 : w7.cell? ⟨w.heap.size + 1, 4, none⟩ = some (.slice ao1 k cap1) := a1.cell 4
          have x5 : w7.cell? ⟨w.heap.size + 1, 5, none⟩ = some (.int .i64 (hh : Int)) := a1.cell 5
          have hz7 := a1.lt
          have z0 : w7.cell? ⟨w.heap.size, 0, none⟩ = some (.int .i64 0) := a0.cell 0
          have zf0 := a0.free 0
          have z1 : w7.cell? ⟨w.heap.size, 1, none⟩ = some (.string ⟨#[]⟩) := a0.cell 1
          have zf1 := a0.free 1
          have z2 : w7.cell? ⟨w.heap.size, 2, none⟩ = some (.slice none 0 0) := a0.cell 2
          have zf2 := a0.free 2
          have z3 : w7.cell? ⟨w.heap.size, 3, none⟩ = some (.string ⟨#[]⟩) := a0.cell 3
          have zf3 := a0.free 3
          have z4 : w7.cell? ⟨w.heap.size, 4, none⟩ = some (.slice none 0 0) := a0.cell 4
          have zf4 := a0.free 4
          have z5 : w7.cell? ⟨w.heap.size, 5, none⟩ = some (.int .i64 0) := a0.cell 5
          have zf5 := a0.free 5
          have z6 : w7.cell? ⟨w.heap.size, 6, none⟩ = some (.string ⟨#[]⟩) := a0.cell 6
          have zf6 := a0.free 6
          have a0 := a0.far (p := ⟨w.heap.size + 1, 6, none⟩) (by show w.heap.size ≠ w.heap.size + 1; omega) (.string Nt.1)
          have hs := hs.far (p := ⟨w.heap.size + 1, 6, none⟩) hown (.string Nt.1)
          have hM := hM.fresh (p := ⟨w.heap.size + 1, 6, none⟩) (by show w.heap.size ≤ w.heap.size + 1; omega) (.string Nt.1)
          have hR := hR.far (p := ⟨w.heap.size + 1, 6, none⟩) (by show g ≠ w.heap.size + 1; omega) (.string Nt.1)
          have a1 := a1.put 6 (.string Nt.1)
          simp only [List.setIfInBounds_toArray, List.set_cons_succ, List.set_cons_zero] at a1
          have H8 := Lib.hid (And.intro a0 (And.intro a1 (And.intro hs (And.intro hM hR))))
          clear a0 a1 hs hM hR
          clear hm7
          go_wp2_with fail
          have k8 := (((((((H8.out.1.put 0 (.int .i64 3)).put 1 (.string ⟨#[]⟩)).put 2 (.slice none 0 0)).put 3 (.string T.1)).put 4 (.slice ao1 k cap1)).put 5 (.int .i64 (hh : Int))).put 6 (.string Nt.1))
          simp only [List.setIfInBounds_toArray, List.set_cons_succ, List.set_cons_zero] at k8
          have M8 := ((((((((Moved.refl w.heap.size (w7.setCell ⟨w.heap.size + 1, 6, none⟩ (.string Nt.1))).setCell (p := ⟨w.heap.size, 0, none⟩) rfl (.int .i64 3)).setCell (p := ⟨w.heap.size, 1, none⟩) rfl (.string ⟨#[]⟩)).setCell (p := ⟨w.heap.size, 2, none⟩) rfl (.slice none 0 0)).setCell (p := ⟨w.heap.size, 3, none⟩) rfl (.string T.1)).setCell (p := ⟨w.heap.size, 4, none⟩) rfl (.slice ao1 k cap1)).setCell (p := ⟨w.heap.size, 5, none⟩) rfl (.int .i64 (hh : Int))).setCell (p := ⟨w.heap.size, 6, none⟩) rfl (.string Nt.1))
          have R8 := (((((((H8.out.2.2.2.2.far (p := ⟨w.heap.size, 0, none⟩) (by show g ≠ w.heap.size; omega) (.int .i64 3)).far (p := ⟨w.heap.size, 1, none⟩) (by show g ≠ w.heap.size; omega) (.string ⟨#[]⟩)).far (p := ⟨w.heap.size, 2, none⟩) (by show g ≠ w.heap.size; omega) (.slice none 0 0)).far (p := ⟨w.heap.size, 3, none⟩) (by show g ≠ w.heap.size; omega) (.string T.1)).far (p := ⟨w.heap.size, 4, none⟩) (by show g ≠ w.heap.size; omega) (.slice ao1 k cap1)).far (p := ⟨w.heap.size, 5, none⟩) (by show g ≠ w.heap.size; omega) (.int .i64 (hh : Int))).far (p := ⟨w.heap.size, 6, none⟩) (by show g ≠ w.heap.size; omega) (.string Nt.1))
          have F8 := (((((((H8.out.2.2.2.1.fresh (p := ⟨w.heap.size, 0, none⟩) (Nat.le_refl _) (.int .i64 3)).fresh (p := ⟨w.heap.size, 1, none⟩) (Nat.le_refl _) (.string ⟨#[]⟩)).fresh (p := ⟨w.heap.size, 2, none⟩) (Nat.le_refl _) (.slice none 0 0)).fresh (p := ⟨w.heap.size, 3, none⟩) (Nat.le_refl _) (.string T.1)).fresh (p := ⟨w.heap.size, 4, none⟩) (Nat.le_refl _) (.slice ao1 k cap1)).fresh (p := ⟨w.heap.size, 5, none⟩) (Nat.le_refl _) (.int .i64 (hh : Int))).fresh (p := ⟨w.heap.size, 6, none⟩) (Nat.le_refl _) (.string Nt.1))
          refine bodyPost_ret (results_cell_row rfl _ _ w.heap.size 34 #[.int .i64 3, .string ⟨#[]⟩, .slice none 0 0, .string T.1, .slice ao1 k cap1, .int .i64 (hh : Int), .string Nt.1] (0, 0) _ rfl k8 Try.underlying34 rfl hinfo) rfl ?_
          exact ⟨_, rfl, ao1, k, cap1, rfl, R8, F8, fun hf => ⟨hn, (M8.sl H8.out.2.2.1 (by omega)).mono (by omega)⟩⟩
    case pos =>
      obtain ⟨hk1, hk7, hbk⟩ := hgo
      have ki : (k : Int) < n := by omega
      have k7 : (k : Int) < 9 := by omega
      rw [hbk] at d2
      clear hao1
      go_upto_region 7 with (fail)
      go_region_law (first
          | (go_simp; go_at_call 80
             refine (Oct.rrd_take g _ _ 32 _ H.out.2.2.2.2.drew (by decide)).mono ?_
             rintro e w4 ⟨rfl, hR, hm4⟩
             change RRd w4 g (parS Q.2 (k + 1)).1 (parS Q.2 (k + 1)).2 at hR
             rw [show (takeR (parS Q.2 k).1 (parS Q.2 k).2 32).1 = F k from HF.out k]
             have a0 := hm4.blk H.out.1.drew (by omega)
             have a1 := hm4.blk H.out.2.1.drew (by omega)
             have hs := hm4.sl H.out.2.2.1.drew (by omega)
             have hM := H.out.2.2.2.1.drew.trans hm4
             have q0 : w4.cell? ⟨w.heap.size + 1, 4, none⟩ = some (.slice ao1 k cap1) := a1.cell 4
             have hz4 := a1.lt
             have H4 := Lib.hid (And.intro a0 (And.intro a1 (And.intro hs (And.intro hM hR))))
             clear a0 a1 hs hM hR hm4)
          | (refine step_append_sl rfl _ _ _ 25 (by rfl) el_str (base := w.heap.size + 2) (.slice ao1 k cap1) k (texts F k) (by rfl) (H4.out.2.2.1.alloc _) _ 1 [.string (F k)] (by rfl) (SrcIs.own Try.underlying25 (SlIs.made (base := 0) (BlkIs.newAt (by simp) _ _) (Nat.zero_le _) rfl (by decide))) (by intro u hu; rcases List.mem_singleton.1 hu with rfl; rfl) (by unfold maxLen; omega) (by omega) (by simp only [World.size_alloc]; omega) ?_
             intro v1 w10 hs10 hg10 hat10
             obtain ⟨ao2, cap2, rfl, hnc2, hcm2, hao2⟩ := hs10.form
             have x10 := BlkIs.grown (H4.out.2.1.alloc (.cells #[.string (F k)] 9)) hg10 (fun hh => by have := hrow _ hh.symm; omega)
             have q1 : w10.cell? ⟨w.heap.size + 1, 4, none⟩ = some (.slice ao1 k cap1) := x10.cell 4
             have x10f := x10.free 4
             have H10 := Lib.hid (And.intro hs10 (And.intro hg10 x10))
             clear hs10 hg10 hat10 hao2 x10))
      all_goals
        go_wp2_with fail
        have y0 := (BlkIs.grown (H4.out.1.alloc (.cells #[.string (F k)] 9)) H10.out.2.1 (fun hh => by have := hrow _ hh.symm; omega)).far (p := ⟨w.heap.size + 1, 4, none⟩) (by simp) (.slice ao2 (k + 1) cap2)
        have y1 := H10.out.2.2.put 4 (.slice ao2 (k + 1) cap2)
        simp only [List.setIfInBounds_toArray, List.set_cons_succ, List.set_cons_zero] at y1
        refine ⟨⟨k + 1, .slice ao2 (k + 1) cap2, rfl, hk1, by omega, y0, y1, ?_, ?_, ?_⟩, ?_⟩
        · rw [texts]; exact H10.out.1.farB (by show w.heap.size + 1 < w.heap.size + 2; omega) _
        · exact ((H4.out.2.2.2.1.alloc _).row H10.out.2.1 (fun j hj => by have := hrow j hj; omega)).fresh (by show w.heap.size ≤ w.heap.size + 1; omega) _
        · exact ((H4.out.2.2.2.2.alloc _).grown H10.out.2.1 (fun hh => by have := hrow _ hh.symm; omega)).far (by show g ≠ w.heap.size + 1; omega) _
        · simp [intOf]; omega
end Go.Proofs.Ytmdchfmcghiaeaa.Obj
