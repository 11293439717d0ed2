/- object.Decode walked: blobs, other kinds, and all. Condition: at most 2^18 bytes. -/
import Derived.Test.YtmdchfmcghiaeaaDecode
namespace Go.Proofs.Ytmdchfmcghiaeaa.Obj
open Go.RowKit
open Oct (Rd takeR textR val Moved)
set_option maxRecDepth 100000 in
set_option maxHeartbeats 800000 in
theorem decode_odd (s r : ByteArray) (w : World) (hs : 0 < s.size) (K : Int) (hK : ((s[0]'hs).toNat : Int) = K) (hk1 : K ≠ 1) (hk2 : K ≠ 2) (hk3 : K ≠ 3) (hne : (s.toList == []) = false) (hr : s.extract 1 s.size = r) (hsi : (s.size : Int) ≤ 262144) :
    Calls Try.prog 20 #[.string s] w fun e w' => DecOut w' s e ∧ Below w.heap.size w w' := by
  have hs1 : (1 : Int) ≤ (s.size : Int) := by omega
  have Hr := Lib.hid hr
  have Hd := Lib.hid (dec_odd s hs (by omega) (by omega) (by omega))
  have hw64 : wrap64 K = K := Go.IntWalk.wrap64_in _ (by have := (s[0]'hs).toNat_lt; omega)
  have Hgood := Lib.hid (fun w => good_odd K ⟨#[]⟩ (.slice none 0 0) ⟨#[]⟩ (.slice none 0 0) 0 ⟨#[]⟩ w hk1 hk2 hk3)
  have hq1 : (K == 1) = false := by simpa using hk1
  have hq2 : (K == 2) = false := by simpa using hk2
  have hq3 : (K == 3) = false := by simpa using hk3
  have HK := Lib.hid hK
  have Hw := Lib.hid hw64
  clear hr hk1 hk2 hk3 hK hw64
  go_enter Try.func20, Try.ntmps20
  go_wp2_with fail
  rw [Hr.out, HK.out, Hw.out]
  refine two_blocks w 34 _ _ (fun W => Calls Try.prog 42 _ W _) ?_
  intro W0 a0 a1 hb0 hz0
  have hnew := Oct.rd_new r W0
  obtain ⟨g, hg⟩ : ∃ g, g = W0.heap.size := ⟨_, rfl⟩
  have hg1 : w.heap.size + 1 < g := by omega
  rw [← hg] at hnew
  refine hnew.mono ?_
  rintro e w1 ⟨rfl, h1, hb1⟩
  have a0 := a0.below hb1 (by omega)
  have a1 := a1.below hb1 (by omega)
  have hb0 := hb0.trans (hb1.mono (by omega))
  have hgz : g < w1.heap.size := h1.lt
  have d0 : w1.cell? ⟨w.heap.size + 1, 0, none⟩ = some (.int .i64 K) := a1.cell 0
  have H1 := Lib.hid (And.intro a0 (And.intro a1 (And.intro h1 hb0)))
  clear a0 a1 hb0 hb1 h1 hnew hg hz0
  go_wp2_with fail
  refine (Oct.rd_whole g _ _ w1 H1.out.2.2.1).mono ?_
  rintro e w5 ⟨rfl, rfl⟩
  cases hwh : (!false && decide (r.size = 0))
  · have z0 : w1.cell? ⟨w.heap.size, 0, none⟩ = some (.int .i64 0) := H1.out.1.cell 0
    have zf0 := H1.out.1.free 0
    have z1 : w1.cell? ⟨w.heap.size, 1, none⟩ = some (.string ⟨#[]⟩) := H1.out.1.cell 1
    have zf1 := H1.out.1.free 1
    have z2 : w1.cell? ⟨w.heap.size, 2, none⟩ = some (.slice none 0 0) := H1.out.1.cell 2
    have zf2 := H1.out.1.free 2
    have z3 : w1.cell? ⟨w.heap.size, 3, none⟩ = some (.string ⟨#[]⟩) := H1.out.1.cell 3
    have zf3 := H1.out.1.free 3
    have z4 : w1.cell? ⟨w.heap.size, 4, none⟩ = some (.slice none 0 0) := H1.out.1.cell 4
    have zf4 := H1.out.1.free 4
    have z5 : w1.cell? ⟨w.heap.size, 5, none⟩ = some (.int .i64 0) := H1.out.1.cell 5
    have zf5 := H1.out.1.free 5
    have z6 : w1.cell? ⟨w.heap.size, 6, none⟩ = some (.string ⟨#[]⟩) := H1.out.1.cell 6
    have zf6 := H1.out.1.free 6
    go_wp2_with fail
    have k8 := (((((((H1.out.1.put 0 (.int .i64 0)).put 1 (.string ⟨#[]⟩)).put 2 (.slice none 0 0)).put 3 (.string ⟨#[]⟩)).put 4 (.slice none 0 0)).put 5 (.int .i64 0)).put 6 (.string ⟨#[]⟩))
    simp only [List.setIfInBounds_toArray, List.set_cons_succ, List.set_cons_zero] at k8
    have M8 := ((((((((Moved.refl w.heap.size w1).setCell (p := ⟨w.heap.size, 0, none⟩) rfl (.int .i64 0)).setCell (p := ⟨w.heap.size, 1, none⟩) rfl (.string ⟨#[]⟩)).setCell (p := ⟨w.heap.size, 2, none⟩) rfl (.slice none 0 0)).setCell (p := ⟨w.heap.size, 3, none⟩) rfl (.string ⟨#[]⟩)).setCell (p := ⟨w.heap.size, 4, none⟩) rfl (.slice none 0 0)).setCell (p := ⟨w.heap.size, 5, none⟩) rfl (.int .i64 0)).setCell (p := ⟨w.heap.size, 6, none⟩) rfl (.string ⟨#[]⟩))
    refine dec_end2 s w _ w.heap.size #[.int .i64 0, .string ⟨#[]⟩, .slice none 0 0, .string ⟨#[]⟩, .slice none 0 0, .int .i64 0, .string ⟨#[]⟩] 4 _ (by kernel_rfl) (by kernel_rfl) rfl k8 (H1.out.2.2.2.trans (M8.below (Nat.le_of_lt H1.out.1.lt))) ?_
    exact decOut_none _ s Hd.out
  · have HG := Lib.hid (Hgood.out w1)
    unfold obj at HG
    have c0 : w1.cell? ⟨w.heap.size + 1, 0, none⟩ = some (.int .i64 K) := H1.out.2.1.cell 0
    have c1 : w1.cell? ⟨w.heap.size + 1, 1, none⟩ = some (.string ⟨#[]⟩) := H1.out.2.1.cell 1
    have c2 : w1.cell? ⟨w.heap.size + 1, 2, none⟩ = some (.slice none 0 0) := H1.out.2.1.cell 2
    have c3 : w1.cell? ⟨w.heap.size + 1, 3, none⟩ = some (.string ⟨#[]⟩) := H1.out.2.1.cell 3
    have c4 : w1.cell? ⟨w.heap.size + 1, 4, none⟩ = some (.slice none 0 0) := H1.out.2.1.cell 4
    have c5 : w1.cell? ⟨w.heap.size + 1, 5, none⟩ = some (.int .i64 0) := H1.out.2.1.cell 5
    have c6 : w1.cell? ⟨w.heap.size + 1, 6, none⟩ = some (.string ⟨#[]⟩) := H1.out.2.1.cell 6
    go_wp2_with fail
    refine HG.out.mono ?_
    rintro e w6 ⟨rfl, hb6⟩
    have a0 := H1.out.1.below hb6 H1.out.1.lt
    have a1 := H1.out.2.1.below hb6 H1.out.2.1.lt
    have hbb := H1.out.2.2.2.trans (hb6.mono H1.out.2.2.2.size)
    have H6 := Lib.hid (And.intro a0 (And.intro a1 (And.intro hb6 hbb)))
    clear a0 a1 hb6 hbb
    clear c0 c1 c2 c3 c4 c5 c6
    have z0 : w6.cell? ⟨w.heap.size, 0, none⟩ = some (.int .i64 0) := H6.out.1.cell 0
    have zf0 := H6.out.1.free 0
    have z1 : w6.cell? ⟨w.heap.size, 1, none⟩ = some (.string ⟨#[]⟩) := H6.out.1.cell 1
    have zf1 := H6.out.1.free 1
    have z2 : w6.cell? ⟨w.heap.size, 2, none⟩ = some (.slice none 0 0) := H6.out.1.cell 2
    have zf2 := H6.out.1.free 2
    have z3 : w6.cell? ⟨w.heap.size, 3, none⟩ = some (.string ⟨#[]⟩) := H6.out.1.cell 3
    have zf3 := H6.out.1.free 3
    have z4 : w6.cell? ⟨w.heap.size, 4, none⟩ = some (.slice none 0 0) := H6.out.1.cell 4
    have zf4 := H6.out.1.free 4
    have z5 : w6.cell? ⟨w.heap.size, 5, none⟩ = some (.int .i64 0) := H6.out.1.cell 5
    have zf5 := H6.out.1.free 5
    have z6 : w6.cell? ⟨w.heap.size, 6, none⟩ = some (.string ⟨#[]⟩) := H6.out.1.cell 6
    have zf6 := H6.out.1.free 6
    go_wp2_with fail
    have k8 := (((((((H6.out.1.put 0 (.int .i64 0)).put 1 (.string ⟨#[]⟩)).put 2 (.slice none 0 0)).put 3 (.string ⟨#[]⟩)).put 4 (.slice none 0 0)).put 5 (.int .i64 0)).put 6 (.string ⟨#[]⟩))
    simp only [List.setIfInBounds_toArray, List.set_cons_succ, List.set_cons_zero] at k8
    have M8 := ((((((((Moved.refl w.heap.size w6).setCell (p := ⟨w.heap.size, 0, none⟩) rfl (.int .i64 0)).setCell (p := ⟨w.heap.size, 1, none⟩) rfl (.string ⟨#[]⟩)).setCell (p := ⟨w.heap.size, 2, none⟩) rfl (.slice none 0 0)).setCell (p := ⟨w.heap.size, 3, none⟩) rfl (.string ⟨#[]⟩)).setCell (p := ⟨w.heap.size, 4, none⟩) rfl (.slice none 0 0)).setCell (p := ⟨w.heap.size, 5, none⟩) rfl (.int .i64 0)).setCell (p := ⟨w.heap.size, 6, none⟩) rfl (.string ⟨#[]⟩))
    refine dec_end2 s w _ w.heap.size #[.int .i64 0, .string ⟨#[]⟩, .slice none 0 0, .string ⟨#[]⟩, .slice none 0 0, .int .i64 0, .string ⟨#[]⟩] 4 _ (by kernel_rfl) (by kernel_rfl) rfl k8 (H6.out.2.2.2.trans (M8.below (Nat.le_of_lt H6.out.1.lt))) ?_
    exact decOut_none _ s Hd.out
set_option maxRecDepth 100000 in
set_option maxHeartbeats 800000 in
theorem decode_1 (s r : ByteArray) (w : World) (hs : 0 < s.size) (hb : (s[0]'hs).toNat = 1) (hne : (s.toList == []) = false) (hr : s.extract 1 s.size = r) (hsi : (s.size : Int) ≤ 262144) :
    Calls Try.prog 20 #[.string s] w fun e w' => DecOut w' s e ∧ Below w.heap.size w w' := by
  have hs1 : (1 : Int) ≤ (s.size : Int) := by omega
  have Hr := Lib.hid hr
  have Hd := Lib.hid (dec_1 s hs hb)
  have hgb : (asBlob s).good = decide ((r.size : Int) ≤ 65536) := by rw [← hr]; rfl
  have hbd : (asBlob s).d = r := by rw [← hr]; rfl
  have Hb := Lib.hid (And.intro hgb hbd)
  clear hr hgb hbd
  go_enter Try.func20, Try.ntmps20
  go_wp2_with fail
  rw [Hr.out]
  refine two_blocks w 34 _ _ (fun W => Calls Try.prog 42 _ W _) ?_
  intro W0 a0 a1 hb0 hz0
  have hnew := Oct.rd_new r W0
  obtain ⟨g, hg⟩ : ∃ g, g = W0.heap.size := ⟨_, rfl⟩
  have hg1 : w.heap.size + 1 < g := by omega
  rw [← hg] at hnew
  refine hnew.mono ?_
  rintro e w1 ⟨rfl, h1, hb1⟩
  have a0 := a0.below hb1 (by omega)
  have a1 := a1.below hb1 (by omega)
  have hb0 := hb0.trans (hb1.mono (by omega))
  have hgz : g < w1.heap.size := h1.lt
  have d0 : w1.cell? ⟨w.heap.size + 1, 0, none⟩ = some (.int .i64 1) := a1.cell 0
  have H1 := Lib.hid (And.intro a0 (And.intro a1 (And.intro h1 hb0)))
  clear a0 a1 hb0 hb1 h1 hnew hg hz0
  go_wp2_with fail
  refine (Oct.rd_left g _ _ w1 H1.out.2.2.1).mono ?_
  rintro e w2 ⟨rfl, rfl⟩
  go_wp2_with fail
  refine (Oct.rd_take_ok g r r.size w1 H1.out.2.2.1 (Nat.le_refl _)).mono ?_
  rintro e w3 ⟨rfl, hR, hm3⟩
  have he1 : r.extract 0 r.size = r := by simp
  have he2 : (r.extract r.size r.size).size = 0 := by simp
  rw [he1]
  generalize r.extract r.size r.size = r2 at *
  clear he1
  have a0 := hm3.blk H1.out.1 (by omega)
  have a1 := hm3.blk H1.out.2.1 (by omega)
  have hbb := H1.out.2.2.2.trans ((hm3.below (by have := H1.out.2.2.1.lt; omega)).mono (by omega))
  have d1 : w3.cell? ⟨w.heap.size + 1, 1, none⟩ = some (.string ⟨#[]⟩) := a1.cell 1
  have f1 := a1.free 1
  have a0 := a0.far (p := ⟨w.heap.size + 1, 1, none⟩) (by simp) (.string r)
  have hR := BlkIs.far hR (p := ⟨w.heap.size + 1, 1, none⟩) (by show g ≠ w.heap.size + 1; omega) (.string r)
  have a1 := a1.put 1 (.string r)
  simp only [List.setIfInBounds_toArray, List.set_cons_succ, List.set_cons_zero] at a1
  have hbb := hbb.setCell (p := ⟨w.heap.size + 1, 1, none⟩) (by show w.heap.size ≤ w.heap.size + 1; omega) (.string r)
  obtain ⟨w4, hww4⟩ : ∃ w4, w4 = w3.setCell ⟨w.heap.size + 1, 1, none⟩ (.string r) := ⟨_, rfl⟩
  rw [← hww4] at a0 a1 hR hbb
  have H4 := Lib.hid (And.intro a0 (And.intro a1 (And.intro hR hbb)))
  have HW := Lib.hid hww4
  clear a0 a1 hR hbb hww4
  clear hm3 d0 hne hb hs1 hsi Hr hs
  go_wp2_with fail
  rw [← HW.out]
  clear HW d1 f1
  go_wp2_with fail
  refine (Oct.rd_whole g _ _ w4 H4.out.2.2.1).mono ?_
  rintro e w5 ⟨rfl, rfl⟩
  rw [show (!false && decide (r2.size = 0)) = true by simp [he2]]
  clear he2
  have hG := good_blob r (.slice none 0 0) ⟨#[]⟩ (.slice none 0 0) 0 ⟨#[]⟩ w4
  rw [← Hb.out.1] at hG
  unfold obj at hG
  have HG := Lib.hid hG
  clear hG
  have c0 : w4.cell? ⟨w.heap.size + 1, 0, none⟩ = some (.int .i64 1) := H4.out.2.1.cell 0
  have c1 : w4.cell? ⟨w.heap.size + 1, 1, none⟩ = some (.string r) := H4.out.2.1.cell 1
  have c2 : w4.cell? ⟨w.heap.size + 1, 2, none⟩ = some (.slice none 0 0) := H4.out.2.1.cell 2
  have c3 : w4.cell? ⟨w.heap.size + 1, 3, none⟩ = some (.string ⟨#[]⟩) := H4.out.2.1.cell 3
  have c4 : w4.cell? ⟨w.heap.size + 1, 4, none⟩ = some (.slice none 0 0) := H4.out.2.1.cell 4
  have c5 : w4.cell? ⟨w.heap.size + 1, 5, none⟩ = some (.int .i64 0) := H4.out.2.1.cell 5
  have c6 : w4.cell? ⟨w.heap.size + 1, 6, none⟩ = some (.string ⟨#[]⟩) := H4.out.2.1.cell 6
  go_wp2_with fail
  refine HG.out.mono ?_
  rintro e w6 ⟨rfl, hb6⟩
  have a0 := H4.out.1.below hb6 H4.out.1.lt
  have a1 := H4.out.2.1.below hb6 H4.out.2.1.lt
  have hbb := H4.out.2.2.2.trans (hb6.mono H4.out.2.2.2.size)
  have H6 := Lib.hid (And.intro a0 (And.intro a1 (And.intro hb6 hbb)))
  clear a0 a1 hb6 hbb
  clear c0 c1 c2 c3 c4 c5 c6
  cases hgd : (asBlob s).good
  · have z0 : w6.cell? ⟨w.heap.size, 0, none⟩ = some (.int .i64 0) := H6.out.1.cell 0
    have zf0 := H6.out.1.free 0
    have z1 : w6.cell? ⟨w.heap.size, 1, none⟩ = some (.string ⟨#[]⟩) := H6.out.1.cell 1
    have zf1 := H6.out.1.free 1
    have z2 : w6.cell? ⟨w.heap.size, 2, none⟩ = some (.slice none 0 0) := H6.out.1.cell 2
    have zf2 := H6.out.1.free 2
    have z3 : w6.cell? ⟨w.heap.size, 3, none⟩ = some (.string ⟨#[]⟩) := H6.out.1.cell 3
    have zf3 := H6.out.1.free 3
    have z4 : w6.cell? ⟨w.heap.size, 4, none⟩ = some (.slice none 0 0) := H6.out.1.cell 4
    have zf4 := H6.out.1.free 4
    have z5 : w6.cell? ⟨w.heap.size, 5, none⟩ = some (.int .i64 0) := H6.out.1.cell 5
    have zf5 := H6.out.1.free 5
    have z6 : w6.cell? ⟨w.heap.size, 6, none⟩ = some (.string ⟨#[]⟩) := H6.out.1.cell 6
    have zf6 := H6.out.1.free 6
    go_wp2_with fail
    have k8 := (((((((H6.out.1.put 0 (.int .i64 0)).put 1 (.string ⟨#[]⟩)).put 2 (.slice none 0 0)).put 3 (.string ⟨#[]⟩)).put 4 (.slice none 0 0)).put 5 (.int .i64 0)).put 6 (.string ⟨#[]⟩))
    simp only [List.setIfInBounds_toArray, List.set_cons_succ, List.set_cons_zero] at k8
    have M8 := ((((((((Moved.refl w.heap.size w6).setCell (p := ⟨w.heap.size, 0, none⟩) rfl (.int .i64 0)).setCell (p := ⟨w.heap.size, 1, none⟩) rfl (.string ⟨#[]⟩)).setCell (p := ⟨w.heap.size, 2, none⟩) rfl (.slice none 0 0)).setCell (p := ⟨w.heap.size, 3, none⟩) rfl (.string ⟨#[]⟩)).setCell (p := ⟨w.heap.size, 4, none⟩) rfl (.slice none 0 0)).setCell (p := ⟨w.heap.size, 5, none⟩) rfl (.int .i64 0)).setCell (p := ⟨w.heap.size, 6, none⟩) rfl (.string ⟨#[]⟩))
    refine dec_end2 s w _ w.heap.size #[.int .i64 0, .string ⟨#[]⟩, .slice none 0 0, .string ⟨#[]⟩, .slice none 0 0, .int .i64 0, .string ⟨#[]⟩] 4 _ (by kernel_rfl) (by kernel_rfl) rfl k8 (H6.out.2.2.2.trans (M8.below (Nat.le_of_lt H6.out.1.lt))) ?_
    refine decOut_none _ s ?_
    rw [Hd.out, hgd]; rfl
  · have z0 : w6.cell? ⟨w.heap.size, 0, none⟩ = some (.int .i64 0) := H6.out.1.cell 0
    have zf0 := H6.out.1.free 0
    have z1 : w6.cell? ⟨w.heap.size, 1, none⟩ = some (.string ⟨#[]⟩) := H6.out.1.cell 1
    have zf1 := H6.out.1.free 1
    have z2 : w6.cell? ⟨w.heap.size, 2, none⟩ = some (.slice none 0 0) := H6.out.1.cell 2
    have zf2 := H6.out.1.free 2
    have z3 : w6.cell? ⟨w.heap.size, 3, none⟩ = some (.string ⟨#[]⟩) := H6.out.1.cell 3
    have zf3 := H6.out.1.free 3
    have z4 : w6.cell? ⟨w.heap.size, 4, none⟩ = some (.slice none 0 0) := H6.out.1.cell 4
    have zf4 := H6.out.1.free 4
    have z5 : w6.cell? ⟨w.heap.size, 5, none⟩ = some (.int .i64 0) := H6.out.1.cell 5
    have zf5 := H6.out.1.free 5
    have z6 : w6.cell? ⟨w.heap.size, 6, none⟩ = some (.string ⟨#[]⟩) := H6.out.1.cell 6
    have zf6 := H6.out.1.free 6
    have c0 : w6.cell? ⟨w.heap.size + 1, 0, none⟩ = some (.int .i64 1) := H6.out.2.1.cell 0
    have c1 : w6.cell? ⟨w.heap.size + 1, 1, none⟩ = some (.string r) := H6.out.2.1.cell 1
    have c2 : w6.cell? ⟨w.heap.size + 1, 2, none⟩ = some (.slice none 0 0) := H6.out.2.1.cell 2
    have c3 : w6.cell? ⟨w.heap.size + 1, 3, none⟩ = some (.string ⟨#[]⟩) := H6.out.2.1.cell 3
    have c4 : w6.cell? ⟨w.heap.size + 1, 4, none⟩ = some (.slice none 0 0) := H6.out.2.1.cell 4
    have c5 : w6.cell? ⟨w.heap.size + 1, 5, none⟩ = some (.int .i64 0) := H6.out.2.1.cell 5
    have c6 : w6.cell? ⟨w.heap.size + 1, 6, none⟩ = some (.string ⟨#[]⟩) := H6.out.2.1.cell 6
    go_wp2_with fail
    have k8 := (((((((H6.out.1.put 0 (.int .i64 1)).put 1 (.string r)).put 2 (.slice none 0 0)).put 3 (.string ⟨#[]⟩)).put 4 (.slice none 0 0)).put 5 (.int .i64 0)).put 6 (.string ⟨#[]⟩))
    simp only [List.setIfInBounds_toArray, List.set_cons_succ, List.set_cons_zero] at k8
    have M8 := ((((((((Moved.refl w.heap.size w6).setCell (p := ⟨w.heap.size, 0, none⟩) rfl (.int .i64 1)).setCell (p := ⟨w.heap.size, 1, none⟩) rfl (.string r)).setCell (p := ⟨w.heap.size, 2, none⟩) rfl (.slice none 0 0)).setCell (p := ⟨w.heap.size, 3, none⟩) rfl (.string ⟨#[]⟩)).setCell (p := ⟨w.heap.size, 4, none⟩) rfl (.slice none 0 0)).setCell (p := ⟨w.heap.size, 5, none⟩) rfl (.int .i64 0)).setCell (p := ⟨w.heap.size, 6, none⟩) rfl (.string ⟨#[]⟩))
    refine dec_end2 s w _ w.heap.size #[.int .i64 1, .string r, .slice none 0 0, .string ⟨#[]⟩, .slice none 0 0, .int .i64 0, .string ⟨#[]⟩] 0 _ (by kernel_rfl) (by kernel_rfl) rfl k8 (H6.out.2.2.2.trans (M8.below (Nat.le_of_lt H6.out.1.lt))) ?_
    exact decOut_fields _ s (asBlob s) (by rw [Hd.out, hgd]; rfl) _ _ (entsV_nil _ _ rfl) (strsC_nil _ _ rfl) 1 0 r ⟨#[]⟩ ⟨#[]⟩ rfl Hb.out.2 rfl rfl rfl
end Go.Proofs.Ytmdchfmcghiaeaa.Obj
