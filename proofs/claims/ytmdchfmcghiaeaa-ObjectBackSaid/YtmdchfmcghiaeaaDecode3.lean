/- object.Decode walked: commits. Condition: at most 2^18 bytes. -/
import Derived.Test.YtmdchfmcghiaeaaDecode
namespace Go.Proofs.Ytmdchfmcghiaeaa.Obj
open Go.RowKit
open Oct (Rd takeR textR val Moved)
set_option maxRecDepth 100000 in
set_option maxHeartbeats 800000 in
theorem decode_3 (s r : ByteArray) (w : World) (hs : 0 < s.size) (hb : (s[0]'hs).toNat = 3) (hne : (s.toList == []) = false) (hr : s.extract 1 s.size = r) (hsi : (s.size : Int) ≤ 262144) :
    Calls Try.prog 20 #[.string s] w fun e w' => DecOut w' s e ∧ Below w.heap.size w w' := by
  have hs1 : (1 : Int) ≤ (s.size : Int) := by omega
  have Hr := Lib.hid hr
  have hdec := dec_3 s hs hb
  have htq : comT s = takeR r false 32 := by rw [← hr]; rfl
  have Hd := Lib.hid (And.intro hdec htq)
  clear hr hdec htq
  go_enter Try.func20, Try.ntmps20
  go_wp2_with fail
  rw [Hr.out]
  refine two_blocks w 34 _ _ (fun W => Calls Try.prog 42 _ W _) ?_
  intro W0 a0 a1 hb0 hz0
  have hnew := Oct.rd_new r W0
  obtain ⟨g, hg⟩ : ∃ g, g = W0.heap.size := ⟨_, rfl⟩
  have hg1 : w.heap.size + 1 < g := by omega
  rw [← hg] at hnew
  refine hnew.mono ?_
  rintro e w1 ⟨rfl, h1, hb1⟩
  have a0 := a0.below hb1 (by omega)
  have a1 := a1.below hb1 (by omega)
  have hb0 := hb0.trans (hb1.mono (by omega))
  have hgz : g < w1.heap.size := h1.lt
  have d0 : w1.cell? ⟨w.heap.size + 1, 0, none⟩ = some (.int .i64 3) := a1.cell 0
  have H1 := Lib.hid (And.intro a0 (And.intro a1 (And.intro h1 hb0)))
  clear a0 a1 hb0 hb1 h1 hnew hg hz0
  go_wp2_with fail
  refine (Oct.rd_take g r false 32 w1 H1.out.2.2.1).mono ?_
  rintro e w3 ⟨rfl, hR, hm3⟩
  rw [← Hd.out.2] at hR ⊢
  have a0 := hm3.blk H1.out.1 (by omega)
  have a1 := hm3.blk H1.out.2.1 (by omega)
  have hbb := H1.out.2.2.2.trans ((hm3.below (by have := H1.out.2.2.1.lt; omega)).mono (by omega))
  have d3 : w3.cell? ⟨w.heap.size + 1, 3, none⟩ = some (.string ⟨#[]⟩) := a1.cell 3
  have f3 := a1.free 3
  have a0 := a0.far (p := ⟨w.heap.size + 1, 3, none⟩) (by simp) (.string (comT s).1)
  have hR := BlkIs.far hR (p := ⟨w.heap.size + 1, 3, none⟩) (by show g ≠ w.heap.size + 1; omega) (.string (comT s).1)
  have a1 := a1.put 3 (.string (comT s).1)
  simp only [List.setIfInBounds_toArray, List.set_cons_succ, List.set_cons_zero] at a1
  have hbb := hbb.setCell (p := ⟨w.heap.size + 1, 3, none⟩) (by show w.heap.size ≤ w.heap.size + 1; omega) (.string (comT s).1)
  obtain ⟨w4, hww4⟩ : ∃ w4, w4 = w3.setCell ⟨w.heap.size + 1, 3, none⟩ (.string (comT s).1) := ⟨_, rfl⟩
  rw [← hww4] at a0 a1 hR hbb
  have H4 := Lib.hid (And.intro a0 (And.intro a1 (And.intro hR hbb)))
  have HW := Lib.hid hww4
  clear a0 a1 hR hbb hww4
  clear hm3 d0 hne hb hs1 hsi Hr hs
  go_wp2_with fail
  rw [← HW.out]
  clear HW d3 f3
  refine (parents_any g _ _ w4 H4.out.2.2.1).mono ?_
  rintro e w5 ⟨v, rfl, ao, m, cap, r', rfl, hR, hm5, hrest⟩
  rw [show takeR (comT s).2.1 (comT s).2.2 4 = comQ s from rfl, show val (comQ s).1.data.toList = comN s from rfl, show parsEnd (comQ s).2 (comN s) = comP s from rfl] at hR hrest
  have hz4 : w.heap.size + 1 < w4.heap.size := H4.out.2.1.lt
  have a0 := hm5.blk H4.out.1 (by omega)
  have a1 := hm5.blk H4.out.2.1 (by omega)
  have hbb := H4.out.2.2.2.trans ((hm5.below (by have := H4.out.2.2.1.lt; omega)).mono (by omega))
  have d4 : w5.cell? ⟨w.heap.size + 1, 4, none⟩ = some (.slice none 0 0) := a1.cell 4
  have f4 := a1.free 4
  have a0 := a0.far (p := ⟨w.heap.size + 1, 4, none⟩) (by simp) (.slice ao m cap)
  have hR := BlkIs.far hR (p := ⟨w.heap.size + 1, 4, none⟩) (by show g ≠ w.heap.size + 1; omega) (.slice ao m cap)
  have a1 := a1.put 4 (.slice ao m cap)
  simp only [List.setIfInBounds_toArray, List.set_cons_succ, List.set_cons_zero] at a1
  have hbb := hbb.setCell (p := ⟨w.heap.size + 1, 4, none⟩) (by show w.heap.size ≤ w.heap.size + 1; omega) (.slice ao m cap)
  have hsl : (comP s).2 = false → r' = (comP s).1 ∧ comN s ≤ 8 ∧ SlIs (w5.setCell ⟨w.heap.size + 1, 4, none⟩ (.slice ao m cap)) w4.heap.size 9 1 (.slice ao m cap) (comN s) (texts (asCommit s).f (comN s)) := fun hf => by
    obtain ⟨e1, e2, e3⟩ := hrest hf
    exact ⟨e1, e2, e3.farB (by show w.heap.size + 1 < w4.heap.size; omega) _⟩
  have hgz4 : g < w4.heap.size := H4.out.2.2.1.lt
  obtain ⟨w6, hww6⟩ : ∃ w6, w6 = w5.setCell ⟨w.heap.size + 1, 4, none⟩ (.slice ao m cap) := ⟨_, rfl⟩
  rw [← hww6] at a0 a1 hR hbb hsl
  have H6 := Lib.hid (And.intro a0 (And.intro a1 (And.intro hR (And.intro hbb hsl))))
  have HW := Lib.hid hww6
  clear a0 a1 hR hbb hww6 hsl
  clear hm5 hrest H1
  go_wp2_with fail
  rw [← HW.out]
  clear HW d4 f4
  have hsame : ∀ n, takeR r' (comP s).2 n = takeR (comP s).1 (comP s).2 n := fun n => by
    cases hf : (comP s).2
    · rw [(H6.out.2.2.2.2 hf).1]
    · rw [takeR_bad, takeR_bad]
  refine (Oct.rd_num g _ _ w6 H6.out.2.2.1).mono ?_
  rintro e w7 ⟨rfl, hR, hm7⟩
  rw [hsame 4, show takeR (comP s).1 (comP s).2 4 = comH s from rfl] at hR ⊢
  have hvh : val (comH s).1.data.toList < 4294967296 := Oct.val_takeR (comP s).1 (comP s).2
  obtain ⟨hh, hhe⟩ : ∃ hh, hh = val (comH s).1.data.toList := ⟨_, rfl⟩
  rw [← hhe] at hvh ⊢
  have hwr : wrap64 (hh : Int) = hh := Go.IntWalk.wrap64_in _ (by omega)
  have a0 := hm7.blk H6.out.1 (by omega)
  have a1 := hm7.blk H6.out.2.1 (by omega)
  have hbb := H6.out.2.2.2.1.trans ((hm7.below (by have := H6.out.2.2.1.lt; omega)).mono (by omega))
  have d5 : w7.cell? ⟨w.heap.size + 1, 5, none⟩ = some (.int .i64 0) := a1.cell 5
  have f5 := a1.free 5
  have a0 := a0.far (p := ⟨w.heap.size + 1, 5, none⟩) (by simp) (.int .i64 (hh : Int))
  have hR := BlkIs.far hR (p := ⟨w.heap.size + 1, 5, none⟩) (by show g ≠ w.heap.size + 1; omega) (.int .i64 (hh : Int))
  have a1 := a1.put 5 (.int .i64 (hh : Int))
  simp only [List.setIfInBounds_toArray, List.set_cons_succ, List.set_cons_zero] at a1
  have hbb := hbb.setCell (p := ⟨w.heap.size + 1, 5, none⟩) (by show w.heap.size ≤ w.heap.size + 1; omega) (.int .i64 (hh : Int))
  have hsl : (comP s).2 = false → comN s ≤ 8 ∧ SlIs (w7.setCell ⟨w.heap.size + 1, 5, none⟩ (.int .i64 (hh : Int))) w4.heap.size 9 1 (.slice ao m cap) (comN s) (texts (asCommit s).f (comN s)) := fun hf => by
    obtain ⟨e1, e2, e3⟩ := H6.out.2.2.2.2 hf
    exact ⟨e2, (hm7.sl e3 hgz4).farB (by show w.heap.size + 1 < w4.heap.size; omega) _⟩
  obtain ⟨w8, hww8⟩ : ∃ w8, w8 = w7.setCell ⟨w.heap.size + 1, 5, none⟩ (.int .i64 (hh : Int)) := ⟨_, rfl⟩
  rw [← hww8] at a0 a1 hR hbb hsl
  have H8 := Lib.hid (And.intro a0 (And.intro a1 (And.intro hR (And.intro hbb hsl))))
  have HW := Lib.hid hww8
  clear a0 a1 hR hbb hww8 hsl
  have Hv := Lib.hid hvh
  have Hhe := Lib.hid hhe
  clear hm7 H4 H6 hsame hvh hhe
  go_wp2_with fail
  rw [hwr, ← HW.out]
  clear HW d5 f5
  refine (Oct.rd_text g _ _ 1000 w8 H8.out.2.2.1).mono ?_
  rintro e w9 ⟨rfl, hR, hm9⟩
  rw [show textR (comH s).2.1 (comH s).2.2 1000 = comNote s from rfl] at hR ⊢
  have a0 := hm9.blk H8.out.1 (by omega)
  have a1 := hm9.blk H8.out.2.1 (by omega)
  have hbb := H8.out.2.2.2.1.trans ((hm9.below (by have := H8.out.2.2.1.lt; omega)).mono (by omega))
  have d6 : w9.cell? ⟨w.heap.size + 1, 6, none⟩ = some (.string ⟨#[]⟩) := a1.cell 6
  have f6 := a1.free 6
  have a0 := a0.far (p := ⟨w.heap.size + 1, 6, none⟩) (by simp) (.string (comNote s).1)
  have hR := BlkIs.far hR (p := ⟨w.heap.size + 1, 6, none⟩) (by show g ≠ w.heap.size + 1; omega) (.string (comNote s).1)
  have a1 := a1.put 6 (.string (comNote s).1)
  simp only [List.setIfInBounds_toArray, List.set_cons_succ, List.set_cons_zero] at a1
  have hbb := hbb.setCell (p := ⟨w.heap.size + 1, 6, none⟩) (by show w.heap.size ≤ w.heap.size + 1; omega) (.string (comNote s).1)
  have hsl : (comP s).2 = false → comN s ≤ 8 ∧ SlIs (w9.setCell ⟨w.heap.size + 1, 6, none⟩ (.string (comNote s).1)) w4.heap.size 9 1 (.slice ao m cap) (comN s) (texts (asCommit s).f (comN s)) := fun hf => by
    obtain ⟨e2, e3⟩ := H8.out.2.2.2.2 hf
    exact ⟨e2, (hm9.sl e3 hgz4).farB (by show w.heap.size + 1 < w4.heap.size; omega) _⟩
  obtain ⟨w10, hww10⟩ : ∃ w10, w10 = w9.setCell ⟨w.heap.size + 1, 6, none⟩ (.string (comNote s).1) := ⟨_, rfl⟩
  rw [← hww10] at a0 a1 hR hbb hsl
  have H10 := Lib.hid (And.intro a0 (And.intro a1 (And.intro hR (And.intro hbb hsl))))
  have HW := Lib.hid hww10
  clear a0 a1 hR hbb hww10 hsl
  clear hm9 H8
  go_wp2_with fail
  rw [← HW.out]
  clear HW d6 f6
  go_wp2_with fail
  refine (Oct.rd_whole g _ _ w10 H10.out.2.2.1).mono ?_
  rintro e w5 ⟨rfl, rfl⟩
  cases hwh : (!(comNote s).2.2 && decide ((comNote s).2.1.size = 0))
  · have z0 : w10.cell? ⟨w.heap.size, 0, none⟩ = some (.int .i64 0) := H10.out.1.cell 0
    have zf0 := H10.out.1.free 0
    have z1 : w10.cell? ⟨w.heap.size, 1, none⟩ = some (.string ⟨#[]⟩) := H10.out.1.cell 1
    have zf1 := H10.out.1.free 1
    have z2 : w10.cell? ⟨w.heap.size, 2, none⟩ = some (.slice none 0 0) := H10.out.1.cell 2
    have zf2 := H10.out.1.free 2
    have z3 : w10.cell? ⟨w.heap.size, 3, none⟩ = some (.string ⟨#[]⟩) := H10.out.1.cell 3
    have zf3 := H10.out.1.free 3
    have z4 : w10.cell? ⟨w.heap.size, 4, none⟩ = some (.slice none 0 0) := H10.out.1.cell 4
    have zf4 := H10.out.1.free 4
    have z5 : w10.cell? ⟨w.heap.size, 5, none⟩ = some (.int .i64 0) := H10.out.1.cell 5
    have zf5 := H10.out.1.free 5
    have z6 : w10.cell? ⟨w.heap.size, 6, none⟩ = some (.string ⟨#[]⟩) := H10.out.1.cell 6
    have zf6 := H10.out.1.free 6
    go_wp2_with fail
    have k8 := (((((((H10.out.1.put 0 (.int .i64 0)).put 1 (.string ⟨#[]⟩)).put 2 (.slice none 0 0)).put 3 (.string ⟨#[]⟩)).put 4 (.slice none 0 0)).put 5 (.int .i64 0)).put 6 (.string ⟨#[]⟩))
    simp only [List.setIfInBounds_toArray, List.set_cons_succ, List.set_cons_zero] at k8
    have M8 := ((((((((Moved.refl w.heap.size w10).setCell (p := ⟨w.heap.size, 0, none⟩) rfl (.int .i64 0)).setCell (p := ⟨w.heap.size, 1, none⟩) rfl (.string ⟨#[]⟩)).setCell (p := ⟨w.heap.size, 2, none⟩) rfl (.slice none 0 0)).setCell (p := ⟨w.heap.size, 3, none⟩) rfl (.string ⟨#[]⟩)).setCell (p := ⟨w.heap.size, 4, none⟩) rfl (.slice none 0 0)).setCell (p := ⟨w.heap.size, 5, none⟩) rfl (.int .i64 0)).setCell (p := ⟨w.heap.size, 6, none⟩) rfl (.string ⟨#[]⟩))
    refine dec_end2 s w _ w.heap.size #[.int .i64 0, .string ⟨#[]⟩, .slice none 0 0, .string ⟨#[]⟩, .slice none 0 0, .int .i64 0, .string ⟨#[]⟩] 4 _ (by kernel_rfl) (by kernel_rfl) rfl k8 (H10.out.2.2.2.1.trans (M8.below (Nat.le_of_lt H10.out.1.lt))) ?_
    refine decOut_none _ s ?_
    rw [Hd.out.1]
    have hww : whole (comEnd s) = false := (com_whole s).symm.trans hwh
    rw [hww]; rfl
  · have hw : whole (comEnd s) = true := (com_whole s).symm.trans hwh
    have hE2 : (comEnd s).2 = false := (whole_parts hw).1
    have hP2 : (comP s).2 = false := by
      cases hx : (comP s).2
      · rfl
      · exfalso
        have h1 : (comH s).2.2 = true := com_bad0 s hx
        have h2 : (comEnd s).2 = true := com_bad s h1
        rw [h2] at hE2; cases hE2
    obtain ⟨e2, e3⟩ := H10.out.2.2.2.2 hP2
    obtain ⟨ao', cap', hv', hev⟩ := StrsAt.own e3
    obtain ⟨rfl, rfl, rfl⟩ : ao = ao' ∧ m = comN s ∧ cap = cap' := by simpa using hv'
    have hG := good_asCommit s hh Hhe.out ao cap w10 hev
    unfold obj at hG
    have HG := Lib.hid hG
    have HS := Lib.hid (And.intro hw e3)
    clear hev hw e2 e3 hv' hE2 hP2 hwh hG
    have c0 : w10.cell? ⟨w.heap.size + 1, 0, none⟩ = some (.int .i64 3) := H10.out.2.1.cell 0
    have c1 : w10.cell? ⟨w.heap.size + 1, 1, none⟩ = some (.string ⟨#[]⟩) := H10.out.2.1.cell 1
    have c2 : w10.cell? ⟨w.heap.size + 1, 2, none⟩ = some (.slice none 0 0) := H10.out.2.1.cell 2
    have c3 : w10.cell? ⟨w.heap.size + 1, 3, none⟩ = some (.string (comT s).1) := H10.out.2.1.cell 3
    have c4 : w10.cell? ⟨w.heap.size + 1, 4, none⟩ = some (.slice ao (comN s) cap) := H10.out.2.1.cell 4
    have c5 : w10.cell? ⟨w.heap.size + 1, 5, none⟩ = some (.int .i64 (hh : Int)) := H10.out.2.1.cell 5
    have c6 : w10.cell? ⟨w.heap.size + 1, 6, none⟩ = some (.string (comNote s).1) := H10.out.2.1.cell 6
    go_wp2_with fail
    refine HG.out.mono ?_
    rintro e w6 ⟨rfl, hb6⟩
    have a0 := H10.out.1.below hb6 H10.out.1.lt
    have a1 := H10.out.2.1.below hb6 H10.out.2.1.lt
    have hbb := H10.out.2.2.2.1.trans (hb6.mono H10.out.2.2.2.1.size)
    have H6 := Lib.hid (And.intro a0 (And.intro a1 (And.intro hb6 hbb)))
    clear a0 a1 hb6 hbb
    clear c0 c1 c2 c3 c4 c5 c6
    cases hgd : (asCommit s).good
    · have z0 : w6.cell? ⟨w.heap.size, 0, none⟩ = some (.int .i64 0) := H6.out.1.cell 0
      have zf0 := H6.out.1.free 0
      have z1 : w6.cell? ⟨w.heap.size, 1, none⟩ = some (.string ⟨#[]⟩) := H6.out.1.cell 1
      have zf1 := H6.out.1.free 1
      have z2 : w6.cell? ⟨w.heap.size, 2, none⟩ = some (.slice none 0 0) := H6.out.1.cell 2
      have zf2 := H6.out.1.free 2
      have z3 : w6.cell? ⟨w.heap.size, 3, none⟩ = some (.string ⟨#[]⟩) := H6.out.1.cell 3
      have zf3 := H6.out.1.free 3
      have z4 : w6.cell? ⟨w.heap.size, 4, none⟩ = some (.slice none 0 0) := H6.out.1.cell 4
      have zf4 := H6.out.1.free 4
      have z5 : w6.cell? ⟨w.heap.size, 5, none⟩ = some (.int .i64 0) := H6.out.1.cell 5
      have zf5 := H6.out.1.free 5
      have z6 : w6.cell? ⟨w.heap.size, 6, none⟩ = some (.string ⟨#[]⟩) := H6.out.1.cell 6
      have zf6 := H6.out.1.free 6
      go_wp2_with fail
      have k8 := (((((((H6.out.1.put 0 (.int .i64 0)).put 1 (.string ⟨#[]⟩)).put 2 (.slice none 0 0)).put 3 (.string ⟨#[]⟩)).put 4 (.slice none 0 0)).put 5 (.int .i64 0)).put 6 (.string ⟨#[]⟩))
      simp only [List.setIfInBounds_toArray, List.set_cons_succ, List.set_cons_zero] at k8
      have M8 := ((((((((Moved.refl w.heap.size w6).setCell (p := ⟨w.heap.size, 0, none⟩) rfl (.int .i64 0)).setCell (p := ⟨w.heap.size, 1, none⟩) rfl (.string ⟨#[]⟩)).setCell (p := ⟨w.heap.size, 2, none⟩) rfl (.slice none 0 0)).setCell (p := ⟨w.heap.size, 3, none⟩) rfl (.string ⟨#[]⟩)).setCell (p := ⟨w.heap.size, 4, none⟩) rfl (.slice none 0 0)).setCell (p := ⟨w.heap.size, 5, none⟩) rfl (.int .i64 0)).setCell (p := ⟨w.heap.size, 6, none⟩) rfl (.string ⟨#[]⟩))
      refine dec_end2 s w _ w.heap.size #[.int .i64 0, .string ⟨#[]⟩, .slice none 0 0, .string ⟨#[]⟩, .slice none 0 0, .int .i64 0, .string ⟨#[]⟩] 4 _ (by kernel_rfl) (by kernel_rfl) rfl k8 (H6.out.2.2.2.trans (M8.below (Nat.le_of_lt H6.out.1.lt))) ?_
      refine decOut_none _ s ?_
      rw [Hd.out.1, hgd, Bool.and_false]; rfl
    · have z0 : w6.cell? ⟨w.heap.size, 0, none⟩ = some (.int .i64 0) := H6.out.1.cell 0
      have zf0 := H6.out.1.free 0
      have z1 : w6.cell? ⟨w.heap.size, 1, none⟩ = some (.string ⟨#[]⟩) := H6.out.1.cell 1
      have zf1 := H6.out.1.free 1
      have z2 : w6.cell? ⟨w.heap.size, 2, none⟩ = some (.slice none 0 0) := H6.out.1.cell 2
      have zf2 := H6.out.1.free 2
      have z3 : w6.cell? ⟨w.heap.size, 3, none⟩ = some (.string ⟨#[]⟩) := H6.out.1.cell 3
      have zf3 := H6.out.1.free 3
      have z4 : w6.cell? ⟨w.heap.size, 4, none⟩ = some (.slice none 0 0) := H6.out.1.cell 4
      have zf4 := H6.out.1.free 4
      have z5 : w6.cell? ⟨w.heap.size, 5, none⟩ = some (.int .i64 0) := H6.out.1.cell 5
      have zf5 := H6.out.1.free 5
      have z6 : w6.cell? ⟨w.heap.size, 6, none⟩ = some (.string ⟨#[]⟩) := H6.out.1.cell 6
      have zf6 := H6.out.1.free 6
      have c0 : w6.cell? ⟨w.heap.size + 1, 0, none⟩ = some (.int .i64 3) := H6.out.2.1.cell 0
      have c1 : w6.cell? ⟨w.heap.size + 1, 1, none⟩ = some (.string ⟨#[]⟩) := H6.out.2.1.cell 1
      have c2 : w6.cell? ⟨w.heap.size + 1, 2, none⟩ = some (.slice none 0 0) := H6.out.2.1.cell 2
      have c3 : w6.cell? ⟨w.heap.size + 1, 3, none⟩ = some (.string (comT s).1) := H6.out.2.1.cell 3
      have c4 : w6.cell? ⟨w.heap.size + 1, 4, none⟩ = some (.slice ao (comN s) cap) := H6.out.2.1.cell 4
      have c5 : w6.cell? ⟨w.heap.size + 1, 5, none⟩ = some (.int .i64 (hh : Int)) := H6.out.2.1.cell 5
      have c6 : w6.cell? ⟨w.heap.size + 1, 6, none⟩ = some (.string (comNote s).1) := H6.out.2.1.cell 6
      go_wp2_with fail
      have k8 := (((((((H6.out.1.put 0 (.int .i64 3)).put 1 (.string ⟨#[]⟩)).put 2 (.slice none 0 0)).put 3 (.string (comT s).1)).put 4 (.slice ao (comN s) cap)).put 5 (.int .i64 (hh : Int))).put 6 (.string (comNote s).1))
      simp only [List.setIfInBounds_toArray, List.set_cons_succ, List.set_cons_zero] at k8
      have M8 := ((((((((Moved.refl w.heap.size w6).setCell (p := ⟨w.heap.size, 0, none⟩) rfl (.int .i64 3)).setCell (p := ⟨w.heap.size, 1, none⟩) rfl (.string ⟨#[]⟩)).setCell (p := ⟨w.heap.size, 2, none⟩) rfl (.slice none 0 0)).setCell (p := ⟨w.heap.size, 3, none⟩) rfl (.string (comT s).1)).setCell (p := ⟨w.heap.size, 4, none⟩) rfl (.slice ao (comN s) cap)).setCell (p := ⟨w.heap.size, 5, none⟩) rfl (.int .i64 (hh : Int))).setCell (p := ⟨w.heap.size, 6, none⟩) rfl (.string (comNote s).1))
      refine dec_end2 s w _ w.heap.size #[.int .i64 3, .string ⟨#[]⟩, .slice none 0 0, .string (comT s).1, .slice ao (comN s) cap, .int .i64 (hh : Int), .string (comNote s).1] 0 _ (by kernel_rfl) (by kernel_rfl) rfl k8 (H6.out.2.2.2.trans (M8.below (Nat.le_of_lt H6.out.1.lt))) ?_
      have hdd : dec s = some (asCommit s) := by rw [Hd.out.1, HS.out.1, hgd]; rfl
      obtain ⟨ao', cap', hv', hev⟩ := StrsAt.own (M8.sl (HS.out.2.later H6.out.2.2.1) (by omega))
      obtain ⟨rfl, rfl⟩ : ao = ao' ∧ cap = cap' := by simpa using hv'
      exact decOut_commit _ s hdd hh Hhe.out ao cap HS.out.2.capLe hev
end Go.Proofs.Ytmdchfmcghiaeaa.Obj
