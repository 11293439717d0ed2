/- The reference's Decode walked: as the program's own. Condition: at most 2^18 bytes. -/
import Derived.Test.YtmdchfmcghiaeaaDecode
import Derived.Test.YtmdchfmcghiaeaaRefGood
import Derived.Test.YtmdchfmcghiaeaaRefGood3
import Derived.Test.YtmdchfmcghiaeaaRefTree
import Derived.Test.YtmdchfmcghiaeaaRefCom
namespace Go.Proofs.Ytmdchfmcghiaeaa.Obj
open Go.RowKit
open Oct (RRd takeR textR val Moved)
theorem rgood_any (o : Plain) (es ps : Value) (w : World) (he : EntsV w es o) (hp : StrsV w ps o) :
    Calls Try.prog 32 #[obj o.k o.d es o.t ps o.h o.n] w fun e w' => e = .returned (.bool o.good) ∧ Below w.heap.size w w' := by
  obtain ⟨k, d, ne, nm, kd, id, t, np, f, h, n⟩ := o
  obtain ⟨ao, cap, rfl, he⟩ := he
  obtain ⟨ap, cp, rfl, hp⟩ := hp
  simp only [Plain.good] at *
  by_cases h1 : k = 1
  · subst h1
    rw [if_pos rfl]
    exact ref_good_blob d _ t _ h n w
  rw [if_neg h1]
  by_cases h2 : k = 2
  · subst h2
    rw [if_pos rfl]
    exact ref_good_tree d ao ne cap nm kd id t _ h n w he
  rw [if_neg h2]
  by_cases h3 : k = 3
  · subst h3
    rw [if_pos rfl]
    exact ref_good_commit d _ t ap np cp f h n w hp
  rw [if_neg h3]
  exact ref_good_odd k d _ t _ h n w h1 h2 h3
theorem rdec_end (s : ByteArray) (w w8 : World) (b : Nat) (x : Array Value) (c : Int) (tmps : Array Value) (h2 : tmps.getD 2 undef = .pointer (some ⟨b, 0, none⟩)) (h3 : tmps.getD 3 undef = .int .i64 c) (hx : x.size = 7) (k : BlkIs w8 b 34 x) (hb : Below w.heap.size w w8)
    (hD : DecOut w8 s (.returned (.tuple #[.agg x, .int .i64 c]))) :
    bodyPost Try.prog Try.f21 (fun e w' => DecOut w' s e ∧ Below w.heap.size w w') Exit.ret ⟨tmps, []⟩ w8 := by
  have hinfo : (Try.prog.info? 34).map (·.size) = some x.size := by rw [hx]; kernel_rfl
  refine bodyPost_ret (results_cell_tmp' rfl _ _ b 34 x (0, 0) _ h2 k Try.underlying34 rfl hinfo) rfl ?_
  rw [h3]
  exact ⟨hD, hb⟩
theorem rdecode_0 (s : ByteArray) (w : World) (hs : s.size = 0) (hne : (s.toList == []) = true) :
    Calls Try.prog 21 #[.string s] w fun e w' => DecOut w' s e ∧ Below w.heap.size w w' := by
  have hd := dec_zero s hs
  clear hs
  go_enter Try.func21, Try.ntmps21
  go_wp2_with fail
  have A0 := BlkIs.new w 34 #[.int .i64 0, .string ⟨#[]⟩, .slice none 0 0, .string ⟨#[]⟩, .slice none 0 0, .int .i64 0, .string ⟨#[]⟩]
  refine rdec_end s w _ w.heap.size #[.int .i64 0, .string ⟨#[]⟩, .slice none 0 0, .string ⟨#[]⟩, .slice none 0 0, .int .i64 0, .string ⟨#[]⟩] 4 _ (by kernel_rfl) (by kernel_rfl) rfl A0 ((Below.refl _ _).alloc (Nat.le_refl _) _) ?_
  exact decOut_none _ s hd
set_option maxRecDepth 100000 in
set_option maxHeartbeats 1000000 in
theorem rdecode_2 (s r : ByteArray) (w : World) (hs : 0 < s.size) (hb : (s[0]'hs).toNat = 2) (hne : (s.toList == []) = false) (hr : s.extract 1 s.size = r) (hsi : (s.size : Int) ≤ 262144) (hrs : (r.size : Int) ≤ 140737488355328) :
    Calls Try.prog 21 #[.string s] w fun e w' => DecOut w' s e ∧ Below w.heap.size w w' := by
  have hs1 : (1 : Int) ≤ (s.size : Int) := by omega
  have Hr := Lib.hid hr
  have Hd := Lib.hid (dec_2 s hs hb)
  have Htq := Lib.hid (show treeQ s = takeR r false 4 by rw [← hr]; rfl)
  clear hr
  go_enter Try.func21, Try.ntmps21
  go_wp2_with fail
  rw [Hr.out]
  refine two_blocks w 34 _ _ (fun W => Calls Try.prog 50 #[.string r] W _) ?_
  intro W0 a0 a1 hb0 hz0
  have hnew := Oct.rrd_new r W0 hrs
  obtain ⟨g, hg⟩ : ∃ g, g = W0.heap.size := ⟨_, rfl⟩
  have hg1 : w.heap.size + 1 < g := by omega
  rw [← hg] at hnew
  refine hnew.mono ?_
  rintro e w1 ⟨rfl, h1, hb1⟩
  have a0 := a0.below hb1 (by omega)
  have a1 := a1.below hb1 (by omega)
  have hb0 := hb0.trans (hb1.mono (by omega))
  have hgz : g < w1.heap.size := h1.lt
  have H1 := Lib.hid (And.intro a0 (And.intro a1 (And.intro h1 hb0)))
  clear a0 a1 hb0 hb1 h1 hnew hg hz0 hrs
  go_wp2_with fail
  have hT := rtree_any g r false w1 H1.out.2.2.1
  rw [← Htq.out] at hT
  unfold obj at hT
  refine hT.mono ?_
  rintro e w3 ⟨v, rfl, ao, m, cap, r', rfl, hR, hm3, hrest⟩
  clear hT
  have hE : entsEnd (treeQ s).2 (val (treeQ s).1.data.toList) = treeEnd s := by unfold treeEnd treeN; rfl
  rw [hE] at hR hrest
  have a0 := hm3.blk H1.out.1 (by omega)
  have a1 := hm3.blk H1.out.2.1 (by omega)
  have hbb := H1.out.2.2.2.trans ((hm3.below (by omega)).mono (by omega))
  have hz3 : w.heap.size + 1 < w3.heap.size := a1.lt
  have y0 : w3.cell? ⟨w.heap.size + 1, 0, none⟩ = some (.int .i64 0) := a1.cell 0
  have yf0 := a1.free 0
  have y1 : w3.cell? ⟨w.heap.size + 1, 1, none⟩ = some (.string ⟨#[]⟩) := a1.cell 1
  have yf1 := a1.free 1
  have y2 : w3.cell? ⟨w.heap.size + 1, 2, none⟩ = some (.slice none 0 0) := a1.cell 2
  have yf2 := a1.free 2
  have y3 : w3.cell? ⟨w.heap.size + 1, 3, none⟩ = some (.string ⟨#[]⟩) := a1.cell 3
  have yf3 := a1.free 3
  have y4 : w3.cell? ⟨w.heap.size + 1, 4, none⟩ = some (.slice none 0 0) := a1.cell 4
  have yf4 := a1.free 4
  have y5 : w3.cell? ⟨w.heap.size + 1, 5, none⟩ = some (.int .i64 0) := a1.cell 5
  have yf5 := a1.free 5
  have y6 : w3.cell? ⟨w.heap.size + 1, 6, none⟩ = some (.string ⟨#[]⟩) := a1.cell 6
  have yf6 := a1.free 6
  have a1 := (((((((a1.put 0 (.int .i64 2)).put 1 (.string ⟨#[]⟩)).put 2 (.slice ao m cap)).put 3 (.string ⟨#[]⟩)).put 4 (.slice none 0 0)).put 5 (.int .i64 0)).put 6 (.string ⟨#[]⟩))
  simp only [List.setIfInBounds_toArray, List.set_cons_succ, List.set_cons_zero] at a1
  have a0 := (((((((a0.far (p := ⟨w.heap.size + 1, 0, none⟩) (by show w.heap.size ≠ w.heap.size + 1; omega) (.int .i64 2)).far (p := ⟨w.heap.size + 1, 1, none⟩) (by show w.heap.size ≠ w.heap.size + 1; omega) (.string ⟨#[]⟩)).far (p := ⟨w.heap.size + 1, 2, none⟩) (by show w.heap.size ≠ w.heap.size + 1; omega) (.slice ao m cap)).far (p := ⟨w.heap.size + 1, 3, none⟩) (by show w.heap.size ≠ w.heap.size + 1; omega) (.string ⟨#[]⟩)).far (p := ⟨w.heap.size + 1, 4, none⟩) (by show w.heap.size ≠ w.heap.size + 1; omega) (.slice none 0 0)).far (p := ⟨w.heap.size + 1, 5, none⟩) (by show w.heap.size ≠ w.heap.size + 1; omega) (.int .i64 0)).far (p := ⟨w.heap.size + 1, 6, none⟩) (by show w.heap.size ≠ w.heap.size + 1; omega) (.string ⟨#[]⟩))
  have hR := (((((((hR.far (p := ⟨w.heap.size + 1, 0, none⟩) (by show g ≠ w.heap.size + 1; omega) (.int .i64 2)).far (p := ⟨w.heap.size + 1, 1, none⟩) (by show g ≠ w.heap.size + 1; omega) (.string ⟨#[]⟩)).far (p := ⟨w.heap.size + 1, 2, none⟩) (by show g ≠ w.heap.size + 1; omega) (.slice ao m cap)).far (p := ⟨w.heap.size + 1, 3, none⟩) (by show g ≠ w.heap.size + 1; omega) (.string ⟨#[]⟩)).far (p := ⟨w.heap.size + 1, 4, none⟩) (by show g ≠ w.heap.size + 1; omega) (.slice none 0 0)).far (p := ⟨w.heap.size + 1, 5, none⟩) (by show g ≠ w.heap.size + 1; omega) (.int .i64 0)).far (p := ⟨w.heap.size + 1, 6, none⟩) (by show g ≠ w.heap.size + 1; omega) (.string ⟨#[]⟩))
  have hbb := (((((((hbb.setCell (p := ⟨w.heap.size + 1, 0, none⟩) (by show w.heap.size ≤ w.heap.size + 1; omega) (.int .i64 2)).setCell (p := ⟨w.heap.size + 1, 1, none⟩) (by show w.heap.size ≤ w.heap.size + 1; omega) (.string ⟨#[]⟩)).setCell (p := ⟨w.heap.size + 1, 2, none⟩) (by show w.heap.size ≤ w.heap.size + 1; omega) (.slice ao m cap)).setCell (p := ⟨w.heap.size + 1, 3, none⟩) (by show w.heap.size ≤ w.heap.size + 1; omega) (.string ⟨#[]⟩)).setCell (p := ⟨w.heap.size + 1, 4, none⟩) (by show w.heap.size ≤ w.heap.size + 1; omega) (.slice none 0 0)).setCell (p := ⟨w.heap.size + 1, 5, none⟩) (by show w.heap.size ≤ w.heap.size + 1; omega) (.int .i64 0)).setCell (p := ⟨w.heap.size + 1, 6, none⟩) (by show w.heap.size ≤ w.heap.size + 1; omega) (.string ⟨#[]⟩))
  have hsl : (treeEnd s).2 = false → r' = (treeEnd s).1 ∧ treeN s ≤ 256 ∧ SlIs ((((((((w3.setCell ⟨w.heap.size + 1, 0, none⟩ (.int .i64 2)).setCell ⟨w.heap.size + 1, 1, none⟩ (.string ⟨#[]⟩)).setCell ⟨w.heap.size + 1, 2, none⟩ (.slice ao m cap)).setCell ⟨w.heap.size + 1, 3, none⟩ (.string ⟨#[]⟩)).setCell ⟨w.heap.size + 1, 4, none⟩ (.slice none 0 0)).setCell ⟨w.heap.size + 1, 5, none⟩ (.int .i64 0)).setCell ⟨w.heap.size + 1, 6, none⟩ (.string ⟨#[]⟩))) w1.heap.size 55 3 (.slice ao m cap) (treeN s) (ecells (asTree s).nm (asTree s).kd (asTree s).id (treeN s)) := fun hf => by
    obtain ⟨e1, e2, e3⟩ := hrest hf
    exact ⟨e1, e2, (((((((e3.farB (p := ⟨w.heap.size + 1, 0, none⟩) (by show w.heap.size + 1 < w1.heap.size; omega) (.int .i64 2)).farB (p := ⟨w.heap.size + 1, 1, none⟩) (by show w.heap.size + 1 < w1.heap.size; omega) (.string ⟨#[]⟩)).farB (p := ⟨w.heap.size + 1, 2, none⟩) (by show w.heap.size + 1 < w1.heap.size; omega) (.slice ao m cap)).farB (p := ⟨w.heap.size + 1, 3, none⟩) (by show w.heap.size + 1 < w1.heap.size; omega) (.string ⟨#[]⟩)).farB (p := ⟨w.heap.size + 1, 4, none⟩) (by show w.heap.size + 1 < w1.heap.size; omega) (.slice none 0 0)).farB (p := ⟨w.heap.size + 1, 5, none⟩) (by show w.heap.size + 1 < w1.heap.size; omega) (.int .i64 0)).farB (p := ⟨w.heap.size + 1, 6, none⟩) (by show w.heap.size + 1 < w1.heap.size; omega) (.string ⟨#[]⟩))⟩
  obtain ⟨w4, hw4⟩ : ∃ w4, w4 = (((((((w3.setCell ⟨w.heap.size + 1, 0, none⟩ (.int .i64 2)).setCell ⟨w.heap.size + 1, 1, none⟩ (.string ⟨#[]⟩)).setCell ⟨w.heap.size + 1, 2, none⟩ (.slice ao m cap)).setCell ⟨w.heap.size + 1, 3, none⟩ (.string ⟨#[]⟩)).setCell ⟨w.heap.size + 1, 4, none⟩ (.slice none 0 0)).setCell ⟨w.heap.size + 1, 5, none⟩ (.int .i64 0)).setCell ⟨w.heap.size + 1, 6, none⟩ (.string ⟨#[]⟩)) := ⟨_, rfl⟩
  rw [← hw4] at a0 a1 hR hbb hsl
  have H4 := Lib.hid (And.intro a0 (And.intro a1 (And.intro hR (And.intro hbb hsl))))
  have HW := Lib.hid hw4
  clear hm3 hrest hne hb hs1 hsi Hr hs hE a0 a1 hR hbb hsl hw4
  go_wp2_with fail
  rw [← HW.out]
  clear HW
  clear y0 y1 y2 y3 y4 y5 y6 yf0 yf1 yf2 yf3 yf4 yf5 yf6
  refine (Oct.rrd_whole g _ _ w4 H4.out.2.2.1).mono ?_
  rintro e w5 ⟨rfl, hb5⟩
  have a0 := H4.out.1.below hb5 H4.out.1.lt
  have a1 := H4.out.2.1.below hb5 H4.out.2.1.lt
  have hbb := H4.out.2.2.2.1.trans (hb5.mono H4.out.2.2.2.1.size)
  have H5 := Lib.hid (And.intro a0 (And.intro a1 hbb))
  have Hb5 := Lib.hid hb5
  clear a0 a1 hbb hb5
  cases hwh : (!(treeEnd s).2 && decide (r'.size = 0))
  · have z0 : w5.cell? ⟨w.heap.size, 0, none⟩ = some (.int .i64 0) := H5.out.1.cell 0
    have zf0 := H5.out.1.free 0
    have z1 : w5.cell? ⟨w.heap.size, 1, none⟩ = some (.string ⟨#[]⟩) := H5.out.1.cell 1
    have zf1 := H5.out.1.free 1
    have z2 : w5.cell? ⟨w.heap.size, 2, none⟩ = some (.slice none 0 0) := H5.out.1.cell 2
    have zf2 := H5.out.1.free 2
    have z3 : w5.cell? ⟨w.heap.size, 3, none⟩ = some (.string ⟨#[]⟩) := H5.out.1.cell 3
    have zf3 := H5.out.1.free 3
    have z4 : w5.cell? ⟨w.heap.size, 4, none⟩ = some (.slice none 0 0) := H5.out.1.cell 4
    have zf4 := H5.out.1.free 4
    have z5 : w5.cell? ⟨w.heap.size, 5, none⟩ = some (.int .i64 0) := H5.out.1.cell 5
    have zf5 := H5.out.1.free 5
    have z6 : w5.cell? ⟨w.heap.size, 6, none⟩ = some (.string ⟨#[]⟩) := H5.out.1.cell 6
    have zf6 := H5.out.1.free 6
    go_wp2_with fail
    have k8 := (((((((H5.out.1.put 0 (.int .i64 0)).put 1 (.string ⟨#[]⟩)).put 2 (.slice none 0 0)).put 3 (.string ⟨#[]⟩)).put 4 (.slice none 0 0)).put 5 (.int .i64 0)).put 6 (.string ⟨#[]⟩))
    simp only [List.setIfInBounds_toArray, List.set_cons_succ, List.set_cons_zero] at k8
    have M8 := ((((((((Moved.refl w.heap.size w5).setCell (p := ⟨w.heap.size, 0, none⟩) rfl (.int .i64 0)).setCell (p := ⟨w.heap.size, 1, none⟩) rfl (.string ⟨#[]⟩)).setCell (p := ⟨w.heap.size, 2, none⟩) rfl (.slice none 0 0)).setCell (p := ⟨w.heap.size, 3, none⟩) rfl (.string ⟨#[]⟩)).setCell (p := ⟨w.heap.size, 4, none⟩) rfl (.slice none 0 0)).setCell (p := ⟨w.heap.size, 5, none⟩) rfl (.int .i64 0)).setCell (p := ⟨w.heap.size, 6, none⟩) rfl (.string ⟨#[]⟩))
    refine rdec_end s w _ w.heap.size #[.int .i64 0, .string ⟨#[]⟩, .slice none 0 0, .string ⟨#[]⟩, .slice none 0 0, .int .i64 0, .string ⟨#[]⟩] 4 _ (by kernel_rfl) (by kernel_rfl) rfl k8 (H5.out.2.2.trans (M8.below (Nat.le_of_lt H5.out.1.lt))) ?_
    refine decOut_none _ s ?_
    rw [Hd.out]
    have hww : whole (treeEnd s) = false := by rw [← hwh]; exact (whole_iff _ _ fun hf => (H4.out.2.2.2.2 hf).1).symm
    rw [hww]; rfl
  · have hE2 : (treeEnd s).2 = false := not_left hwh
    obtain ⟨e1, e2, e3⟩ := H4.out.2.2.2.2 hE2
    have hw : whole (treeEnd s) = true := by rw [← hwh]; exact (whole_iff _ _ fun _ => e1).symm
    have e3 := e3.later Hb5.out
    obtain ⟨ao', cap', hv', hev⟩ := EntsAt.own e3
    obtain ⟨rfl, rfl, rfl⟩ : ao = ao' ∧ m = treeN s ∧ cap = cap' := by simpa using hv'
    have HG := Lib.hid (rgood_any (asTree s) (.slice ao (treeN s) cap) (.slice none 0 0) w5 ⟨ao, cap, rfl, hev⟩ (strsV_nil _ _ rfl))
    have HS := Lib.hid (And.intro hw e3)
    clear hev hw e1 e2 e3 hv' hE2 hwh
    have c0 : w5.cell? ⟨w.heap.size + 1, 0, none⟩ = some (.int .i64 2) := H5.out.2.1.cell 0
    have c1 : w5.cell? ⟨w.heap.size + 1, 1, none⟩ = some (.string ⟨#[]⟩) := H5.out.2.1.cell 1
    have c2 : w5.cell? ⟨w.heap.size + 1, 2, none⟩ = some (.slice ao (treeN s) cap) := H5.out.2.1.cell 2
    have c3 : w5.cell? ⟨w.heap.size + 1, 3, none⟩ = some (.string ⟨#[]⟩) := H5.out.2.1.cell 3
    have c4 : w5.cell? ⟨w.heap.size + 1, 4, none⟩ = some (.slice none 0 0) := H5.out.2.1.cell 4
    have c5 : w5.cell? ⟨w.heap.size + 1, 5, none⟩ = some (.int .i64 0) := H5.out.2.1.cell 5
    have c6 : w5.cell? ⟨w.heap.size + 1, 6, none⟩ = some (.string ⟨#[]⟩) := H5.out.2.1.cell 6
    go_wp2_with fail
    refine HG.out.mono ?_
    rintro e w6 ⟨rfl, hb6⟩
    have a0 := H5.out.1.below hb6 H5.out.1.lt
    have a1 := H5.out.2.1.below hb6 H5.out.2.1.lt
    have hbb := H5.out.2.2.trans (hb6.mono H5.out.2.2.size)
    have H6 := Lib.hid (And.intro a0 (And.intro a1 (And.intro hb6 hbb)))
    clear a0 a1 hb6 hbb
    clear c0 c1 c2 c3 c4 c5 c6
    cases hgd : (asTree s).good
    · have z0 : w6.cell? ⟨w.heap.size, 0, none⟩ = some (.int .i64 0) := H6.out.1.cell 0
      have zf0 := H6.out.1.free 0
      have z1 : w6.cell? ⟨w.heap.size, 1, none⟩ = some (.string ⟨#[]⟩) := H6.out.1.cell 1
      have zf1 := H6.out.1.free 1
      have z2 : w6.cell? ⟨w.heap.size, 2, none⟩ = some (.slice none 0 0) := H6.out.1.cell 2
      have zf2 := H6.out.1.free 2
      have z3 : w6.cell? ⟨w.heap.size, 3, none⟩ = some (.string ⟨#[]⟩) := H6.out.1.cell 3
      have zf3 := H6.out.1.free 3
      have z4 : w6.cell? ⟨w.heap.size, 4, none⟩ = some (.slice none 0 0) := H6.out.1.cell 4
      have zf4 := H6.out.1.free 4
      have z5 : w6.cell? ⟨w.heap.size, 5, none⟩ = some (.int .i64 0) := H6.out.1.cell 5
      have zf5 := H6.out.1.free 5
      have z6 : w6.cell? ⟨w.heap.size, 6, none⟩ = some (.string ⟨#[]⟩) := H6.out.1.cell 6
      have zf6 := H6.out.1.free 6
      go_wp2_with fail
      have k8 := (((((((H6.out.1.put 0 (.int .i64 0)).put 1 (.string ⟨#[]⟩)).put 2 (.slice none 0 0)).put 3 (.string ⟨#[]⟩)).put 4 (.slice none 0 0)).put 5 (.int .i64 0)).put 6 (.string ⟨#[]⟩))
      simp only [List.setIfInBounds_toArray, List.set_cons_succ, List.set_cons_zero] at k8
      have M8 := ((((((((Moved.refl w.heap.size w6).setCell (p := ⟨w.heap.size, 0, none⟩) rfl (.int .i64 0)).setCell (p := ⟨w.heap.size, 1, none⟩) rfl (.string ⟨#[]⟩)).setCell (p := ⟨w.heap.size, 2, none⟩) rfl (.slice none 0 0)).setCell (p := ⟨w.heap.size, 3, none⟩) rfl (.string ⟨#[]⟩)).setCell (p := ⟨w.heap.size, 4, none⟩) rfl (.slice none 0 0)).setCell (p := ⟨w.heap.size, 5, none⟩) rfl (.int .i64 0)).setCell (p := ⟨w.heap.size, 6, none⟩) rfl (.string ⟨#[]⟩))
      refine rdec_end s w _ w.heap.size #[.int .i64 0, .string ⟨#[]⟩, .slice none 0 0, .string ⟨#[]⟩, .slice none 0 0, .int .i64 0, .string ⟨#[]⟩] 4 _ (by kernel_rfl) (by kernel_rfl) rfl k8 (H6.out.2.2.2.trans (M8.below (Nat.le_of_lt H6.out.1.lt))) ?_
      refine decOut_none _ s ?_
      rw [Hd.out, hgd, Bool.and_false]; rfl
    · have z0 : w6.cell? ⟨w.heap.size, 0, none⟩ = some (.int .i64 0) := H6.out.1.cell 0
      have zf0 := H6.out.1.free 0
      have z1 : w6.cell? ⟨w.heap.size, 1, none⟩ = some (.string ⟨#[]⟩) := H6.out.1.cell 1
      have zf1 := H6.out.1.free 1
      have z2 : w6.cell? ⟨w.heap.size, 2, none⟩ = some (.slice none 0 0) := H6.out.1.cell 2
      have zf2 := H6.out.1.free 2
      have z3 : w6.cell? ⟨w.heap.size, 3, none⟩ = some (.string ⟨#[]⟩) := H6.out.1.cell 3
      have zf3 := H6.out.1.free 3
      have z4 : w6.cell? ⟨w.heap.size, 4, none⟩ = some (.slice none 0 0) := H6.out.1.cell 4
      have zf4 := H6.out.1.free 4
      have z5 : w6.cell? ⟨w.heap.size, 5, none⟩ = some (.int .i64 0) := H6.out.1.cell 5
      have zf5 := H6.out.1.free 5
      have z6 : w6.cell? ⟨w.heap.size, 6, none⟩ = some (.string ⟨#[]⟩) := H6.out.1.cell 6
      have zf6 := H6.out.1.free 6
      have c0 : w6.cell? ⟨w.heap.size + 1, 0, none⟩ = some (.int .i64 2) := H6.out.2.1.cell 0
      have c1 : w6.cell? ⟨w.heap.size + 1, 1, none⟩ = some (.string ⟨#[]⟩) := H6.out.2.1.cell 1
      have c2 : w6.cell? ⟨w.heap.size + 1, 2, none⟩ = some (.slice ao (treeN s) cap) := H6.out.2.1.cell 2
      have c3 : w6.cell? ⟨w.heap.size + 1, 3, none⟩ = some (.string ⟨#[]⟩) := H6.out.2.1.cell 3
      have c4 : w6.cell? ⟨w.heap.size + 1, 4, none⟩ = some (.slice none 0 0) := H6.out.2.1.cell 4
      have c5 : w6.cell? ⟨w.heap.size + 1, 5, none⟩ = some (.int .i64 0) := H6.out.2.1.cell 5
      have c6 : w6.cell? ⟨w.heap.size + 1, 6, none⟩ = some (.string ⟨#[]⟩) := H6.out.2.1.cell 6
      go_wp2_with fail
      have k8 := (((((((H6.out.1.put 0 (.int .i64 2)).put 1 (.string ⟨#[]⟩)).put 2 (.slice ao (treeN s) cap)).put 3 (.string ⟨#[]⟩)).put 4 (.slice none 0 0)).put 5 (.int .i64 0)).put 6 (.string ⟨#[]⟩))
      simp only [List.setIfInBounds_toArray, List.set_cons_succ, List.set_cons_zero] at k8
      have M8 := ((((((((Moved.refl w.heap.size w6).setCell (p := ⟨w.heap.size, 0, none⟩) rfl (.int .i64 2)).setCell (p := ⟨w.heap.size, 1, none⟩) rfl (.string ⟨#[]⟩)).setCell (p := ⟨w.heap.size, 2, none⟩) rfl (.slice ao (treeN s) cap)).setCell (p := ⟨w.heap.size, 3, none⟩) rfl (.string ⟨#[]⟩)).setCell (p := ⟨w.heap.size, 4, none⟩) rfl (.slice none 0 0)).setCell (p := ⟨w.heap.size, 5, none⟩) rfl (.int .i64 0)).setCell (p := ⟨w.heap.size, 6, none⟩) rfl (.string ⟨#[]⟩))
      refine rdec_end s w _ w.heap.size #[.int .i64 2, .string ⟨#[]⟩, .slice ao (treeN s) cap, .string ⟨#[]⟩, .slice none 0 0, .int .i64 0, .string ⟨#[]⟩] 0 _ (by kernel_rfl) (by kernel_rfl) rfl k8 (H6.out.2.2.2.trans (M8.below (Nat.le_of_lt H6.out.1.lt))) ?_
      have hdd : dec s = some (asTree s) := by rw [Hd.out, HS.out.1, hgd]; rfl
      obtain ⟨ao', cap', hv', hev⟩ := EntsAt.own (M8.sl (HS.out.2.later H6.out.2.2.1) (by omega))
      obtain ⟨rfl, rfl⟩ : ao = ao' ∧ cap = cap' := by simpa using hv'
      exact decOut_fields _ s (asTree s) hdd _ _ ⟨ao, cap, rfl, hev⟩ (strsV_nil _ _ rfl) 2 0 ⟨#[]⟩ ⟨#[]⟩ ⟨#[]⟩ rfl rfl rfl rfl rfl
theorem rgood_asCommit (s : ByteArray) (hh : Nat) (hhe : hh = val (comH s).1.data.toList) (ao : Option Addr) (cap : Nat) (w : World) (hp : StrsAt w ao (comN s) (asCommit s).f) :
    Calls Try.prog 32 #[obj 3 ⟨#[]⟩ (.slice none 0 0) (comT s).1 (.slice ao (comN s) cap) (hh : Int) (comNote s).1] w fun e w' => e = .returned (.bool (asCommit s).good) ∧ Below w.heap.size w w' := by
  have h := rgood_any (asCommit s) (.slice none 0 0) (.slice ao (comN s) cap) w (entsV_nil _ _ (com_ne s)) ⟨ao, cap, by rw [com_np], by rw [com_np]; exact hp⟩
  rw [com_k, com_d, com_t, com_h, com_n, ← hhe] at h
  exact h
theorem rcommit_s (s r : ByteArray) (hr : rest s = r) (hh : Nat) (hhe : hh = val (comH s).1.data.toList) (g : Nat) (w : World) (h : RRd w g r false) :
    Calls Try.prog 52 #[.pointer (some ⟨g, 0, none⟩)] w fun e w' => ∃ v, e = .returned (.agg #[.int .i64 3, .string ⟨#[]⟩, .slice none 0 0, .string (comT s).1, v, .int .i64 (hh : Int), .string (comNote s).1]) ∧ RComOut w w' g (comNote s).2 (comP s) (comN s) (asCommit s).f v := by
  have h0 := rcommit_gen g r w h (comT s) (comQ s) (comH s) (comNote s) (comP s) (comN s) hh (asCommit s).f (by rw [← hr]; unfold comT; rfl) (by unfold comQ; rfl) (by unfold comN; rfl) (by unfold comN comQ; exact Oct.val_takeR _ _) (by unfold comP; rfl) (fun k => by simp only [asCommit]) (by unfold comH; rfl) hhe.symm (by rw [hhe]; unfold comH; exact Oct.val_takeR _ _) (by unfold comNote; rfl)
  unfold obj at h0
  exact h0
set_option maxRecDepth 100000 in
set_option maxHeartbeats 1000000 in
theorem rdecode_3 (s r : ByteArray) (w : World) (hs : 0 < s.size) (hb : (s[0]'hs).toNat = 3) (hne : (s.toList == []) = false) (hr : s.extract 1 s.size = r) (hsi : (s.size : Int) ≤ 262144) (hh : Nat) (hhe : hh = val (comH s).1.data.toList) (hrs : (r.size : Int) ≤ 140737488355328) :
    Calls Try.prog 21 #[.string s] w fun e w' => DecOut w' s e ∧ Below w.heap.size w w' := by
  have hs1 : (1 : Int) ≤ (s.size : Int) := by omega
  have Hr := Lib.hid hr
  have Hd := Lib.hid (dec_3 s hs hb)
  have Hhe := Lib.hid hhe
  have Hrr := Lib.hid (show rest s = r from hr)
  clear hr hhe
  go_enter Try.func21, Try.ntmps21
  go_wp2_with fail
  rw [Hr.out]
  refine two_blocks w 34 _ _ (fun W => Calls Try.prog 50 #[.string r] W _) ?_
  intro W0 a0 a1 hb0 hz0
  have hnew := Oct.rrd_new r W0 hrs
  obtain ⟨g, hg⟩ : ∃ g, g = W0.heap.size := ⟨_, rfl⟩
  have hg1 : w.heap.size + 1 < g := by omega
  rw [← hg] at hnew
  refine hnew.mono ?_
  rintro e w1 ⟨rfl, h1, hb1⟩
  have a0 := a0.below hb1 (by omega)
  have a1 := a1.below hb1 (by omega)
  have hb0 := hb0.trans (hb1.mono (by omega))
  have hgz : g < w1.heap.size := h1.lt
  have H1 := Lib.hid (And.intro a0 (And.intro a1 (And.intro h1 hb0)))
  clear a0 a1 hb0 hb1 h1 hnew hg hz0 hrs
  go_wp2_with fail
  have hT := rcommit_s s r Hrr.out hh Hhe.out g w1 H1.out.2.2.1
  refine hT.mono ?_
  rintro e w3 ⟨v, rfl, ao, m, cap, rfl, hR, hm3, hrest⟩
  clear hT
  have a0 := hm3.blk H1.out.1 (by omega)
  have a1 := hm3.blk H1.out.2.1 (by omega)
  have hbb := H1.out.2.2.2.trans ((hm3.below (by omega)).mono (by omega))
  have hz3 : w.heap.size + 1 < w3.heap.size := a1.lt
  have y0 : w3.cell? ⟨w.heap.size + 1, 0, none⟩ = some (.int .i64 0) := a1.cell 0
  have yf0 := a1.free 0
  have y1 : w3.cell? ⟨w.heap.size + 1, 1, none⟩ = some (.string ⟨#[]⟩) := a1.cell 1
  have yf1 := a1.free 1
  have y2 : w3.cell? ⟨w.heap.size + 1, 2, none⟩ = some (.slice none 0 0) := a1.cell 2
  have yf2 := a1.free 2
  have y3 : w3.cell? ⟨w.heap.size + 1, 3, none⟩ = some (.string ⟨#[]⟩) := a1.cell 3
  have yf3 := a1.free 3
  have y4 : w3.cell? ⟨w.heap.size + 1, 4, none⟩ = some (.slice none 0 0) := a1.cell 4
  have yf4 := a1.free 4
  have y5 : w3.cell? ⟨w.heap.size + 1, 5, none⟩ = some (.int .i64 0) := a1.cell 5
  have yf5 := a1.free 5
  have y6 : w3.cell? ⟨w.heap.size + 1, 6, none⟩ = some (.string ⟨#[]⟩) := a1.cell 6
  have yf6 := a1.free 6
  have a1 := (((((((a1.put 0 (.int .i64 3)).put 1 (.string ⟨#[]⟩)).put 2 (.slice none 0 0)).put 3 (.string (comT s).1)).put 4 (.slice ao m cap)).put 5 (.int .i64 (hh : Int))).put 6 (.string (comNote s).1))
  simp only [List.setIfInBounds_toArray, List.set_cons_succ, List.set_cons_zero] at a1
  have a0 := (((((((a0.far (p := ⟨w.heap.size + 1, 0, none⟩) (by show w.heap.size ≠ w.heap.size + 1; omega) (.int .i64 3)).far (p := ⟨w.heap.size + 1, 1, none⟩) (by show w.heap.size ≠ w.heap.size + 1; omega) (.string ⟨#[]⟩)).far (p := ⟨w.heap.size + 1, 2, none⟩) (by show w.heap.size ≠ w.heap.size + 1; omega) (.slice none 0 0)).far (p := ⟨w.heap.size + 1, 3, none⟩) (by show w.heap.size ≠ w.heap.size + 1; omega) (.string (comT s).1)).far (p := ⟨w.heap.size + 1, 4, none⟩) (by show w.heap.size ≠ w.heap.size + 1; omega) (.slice ao m cap)).far (p := ⟨w.heap.size + 1, 5, none⟩) (by show w.heap.size ≠ w.heap.size + 1; omega) (.int .i64 (hh : Int))).far (p := ⟨w.heap.size + 1, 6, none⟩) (by show w.heap.size ≠ w.heap.size + 1; omega) (.string (comNote s).1))
  have hR := (((((((hR.far (p := ⟨w.heap.size + 1, 0, none⟩) (by show g ≠ w.heap.size + 1; omega) (.int .i64 3)).far (p := ⟨w.heap.size + 1, 1, none⟩) (by show g ≠ w.heap.size + 1; omega) (.string ⟨#[]⟩)).far (p := ⟨w.heap.size + 1, 2, none⟩) (by show g ≠ w.heap.size + 1; omega) (.slice none 0 0)).far (p := ⟨w.heap.size + 1, 3, none⟩) (by show g ≠ w.heap.size + 1; omega) (.string (comT s).1)).far (p := ⟨w.heap.size + 1, 4, none⟩) (by show g ≠ w.heap.size + 1; omega) (.slice ao m cap)).far (p := ⟨w.heap.size + 1, 5, none⟩) (by show g ≠ w.heap.size + 1; omega) (.int .i64 (hh : Int))).far (p := ⟨w.heap.size + 1, 6, none⟩) (by show g ≠ w.heap.size + 1; omega) (.string (comNote s).1))
  have hbb := (((((((hbb.setCell (p := ⟨w.heap.size + 1, 0, none⟩) (by show w.heap.size ≤ w.heap.size + 1; omega) (.int .i64 3)).setCell (p := ⟨w.heap.size + 1, 1, none⟩) (by show w.heap.size ≤ w.heap.size + 1; omega) (.string ⟨#[]⟩)).setCell (p := ⟨w.heap.size + 1, 2, none⟩) (by show w.heap.size ≤ w.heap.size + 1; omega) (.slice none 0 0)).setCell (p := ⟨w.heap.size + 1, 3, none⟩) (by show w.heap.size ≤ w.heap.size + 1; omega) (.string (comT s).1)).setCell (p := ⟨w.heap.size + 1, 4, none⟩) (by show w.heap.size ≤ w.heap.size + 1; omega) (.slice ao m cap)).setCell (p := ⟨w.heap.size + 1, 5, none⟩) (by show w.heap.size ≤ w.heap.size + 1; omega) (.int .i64 (hh : Int))).setCell (p := ⟨w.heap.size + 1, 6, none⟩) (by show w.heap.size ≤ w.heap.size + 1; omega) (.string (comNote s).1))
  have hsl : (comP s).2 = false → comN s ≤ 8 ∧ SlIs ((((((((w3.setCell ⟨w.heap.size + 1, 0, none⟩ (.int .i64 3)).setCell ⟨w.heap.size + 1, 1, none⟩ (.string ⟨#[]⟩)).setCell ⟨w.heap.size + 1, 2, none⟩ (.slice none 0 0)).setCell ⟨w.heap.size + 1, 3, none⟩ (.string (comT s).1)).setCell ⟨w.heap.size + 1, 4, none⟩ (.slice ao m cap)).setCell ⟨w.heap.size + 1, 5, none⟩ (.int .i64 (hh : Int))).setCell ⟨w.heap.size + 1, 6, none⟩ (.string (comNote s).1))) w1.heap.size 9 1 (.slice ao m cap) (comN s) (texts (asCommit s).f (comN s)) := fun hf => by
    obtain ⟨e2, e3⟩ := hrest hf
    exact ⟨e2, (((((((e3.farB (p := ⟨w.heap.size + 1, 0, none⟩) (by show w.heap.size + 1 < w1.heap.size; omega) (.int .i64 3)).farB (p := ⟨w.heap.size + 1, 1, none⟩) (by show w.heap.size + 1 < w1.heap.size; omega) (.string ⟨#[]⟩)).farB (p := ⟨w.heap.size + 1, 2, none⟩) (by show w.heap.size + 1 < w1.heap.size; omega) (.slice none 0 0)).farB (p := ⟨w.heap.size + 1, 3, none⟩) (by show w.heap.size + 1 < w1.heap.size; omega) (.string (comT s).1)).farB (p := ⟨w.heap.size + 1, 4, none⟩) (by show w.heap.size + 1 < w1.heap.size; omega) (.slice ao m cap)).farB (p := ⟨w.heap.size + 1, 5, none⟩) (by show w.heap.size + 1 < w1.heap.size; omega) (.int .i64 (hh : Int))).farB (p := ⟨w.heap.size + 1, 6, none⟩) (by show w.heap.size + 1 < w1.heap.size; omega) (.string (comNote s).1))⟩
  obtain ⟨w4, hw4⟩ : ∃ w4, w4 = (((((((w3.setCell ⟨w.heap.size + 1, 0, none⟩ (.int .i64 3)).setCell ⟨w.heap.size + 1, 1, none⟩ (.string ⟨#[]⟩)).setCell ⟨w.heap.size + 1, 2, none⟩ (.slice none 0 0)).setCell ⟨w.heap.size + 1, 3, none⟩ (.string (comT s).1)).setCell ⟨w.heap.size + 1, 4, none⟩ (.slice ao m cap)).setCell ⟨w.heap.size + 1, 5, none⟩ (.int .i64 (hh : Int))).setCell ⟨w.heap.size + 1, 6, none⟩ (.string (comNote s).1)) := ⟨_, rfl⟩
  rw [← hw4] at a0 a1 hR hbb hsl
  have H4 := Lib.hid (And.intro a0 (And.intro a1 (And.intro hR (And.intro hbb hsl))))
  have HW := Lib.hid hw4
  clear hm3 hrest hne hb hs1 hsi Hr hs a0 a1 hR hbb hsl hw4
  go_wp2_with fail
  rw [← HW.out]
  clear HW
  clear y0 y1 y2 y3 y4 y5 y6 yf0 yf1 yf2 yf3 yf4 yf5 yf6
  refine (Oct.rrd_whole g _ _ w4 H4.out.2.2.1).mono ?_
  rintro e w5 ⟨rfl, hb5⟩
  have a0 := H4.out.1.below hb5 H4.out.1.lt
  have a1 := H4.out.2.1.below hb5 H4.out.2.1.lt
  have hbb := H4.out.2.2.2.1.trans (hb5.mono H4.out.2.2.2.1.size)
  have H5 := Lib.hid (And.intro a0 (And.intro a1 hbb))
  have Hb5 := Lib.hid hb5
  clear a0 a1 hbb hb5
  cases hwh : (!(comNote s).2.2 && decide ((comNote s).2.1.size = 0))
  · have z0 : w5.cell? ⟨w.heap.size, 0, none⟩ = some (.int .i64 0) := H5.out.1.cell 0
    have zf0 := H5.out.1.free 0
    have z1 : w5.cell? ⟨w.heap.size, 1, none⟩ = some (.string ⟨#[]⟩) := H5.out.1.cell 1
    have zf1 := H5.out.1.free 1
    have z2 : w5.cell? ⟨w.heap.size, 2, none⟩ = some (.slice none 0 0) := H5.out.1.cell 2
    have zf2 := H5.out.1.free 2
    have z3 : w5.cell? ⟨w.heap.size, 3, none⟩ = some (.string ⟨#[]⟩) := H5.out.1.cell 3
    have zf3 := H5.out.1.free 3
    have z4 : w5.cell? ⟨w.heap.size, 4, none⟩ = some (.slice none 0 0) := H5.out.1.cell 4
    have zf4 := H5.out.1.free 4
    have z5 : w5.cell? ⟨w.heap.size, 5, none⟩ = some (.int .i64 0) := H5.out.1.cell 5
    have zf5 := H5.out.1.free 5
    have z6 : w5.cell? ⟨w.heap.size, 6, none⟩ = some (.string ⟨#[]⟩) := H5.out.1.cell 6
    have zf6 := H5.out.1.free 6
    go_wp2_with fail
    have k8 := (((((((H5.out.1.put 0 (.int .i64 0)).put 1 (.string ⟨#[]⟩)).put 2 (.slice none 0 0)).put 3 (.string ⟨#[]⟩)).put 4 (.slice none 0 0)).put 5 (.int .i64 0)).put 6 (.string ⟨#[]⟩))
    simp only [List.setIfInBounds_toArray, List.set_cons_succ, List.set_cons_zero] at k8
    have M8 := ((((((((Moved.refl w.heap.size w5).setCell (p := ⟨w.heap.size, 0, none⟩) rfl (.int .i64 0)).setCell (p := ⟨w.heap.size, 1, none⟩) rfl (.string ⟨#[]⟩)).setCell (p := ⟨w.heap.size, 2, none⟩) rfl (.slice none 0 0)).setCell (p := ⟨w.heap.size, 3, none⟩) rfl (.string ⟨#[]⟩)).setCell (p := ⟨w.heap.size, 4, none⟩) rfl (.slice none 0 0)).setCell (p := ⟨w.heap.size, 5, none⟩) rfl (.int .i64 0)).setCell (p := ⟨w.heap.size, 6, none⟩) rfl (.string ⟨#[]⟩))
    refine rdec_end s w _ w.heap.size #[.int .i64 0, .string ⟨#[]⟩, .slice none 0 0, .string ⟨#[]⟩, .slice none 0 0, .int .i64 0, .string ⟨#[]⟩] 4 _ (by kernel_rfl) (by kernel_rfl) rfl k8 (H5.out.2.2.trans (M8.below (Nat.le_of_lt H5.out.1.lt))) ?_
    refine decOut_none _ s ?_
    rw [Hd.out]
    have hww : whole (comEnd s) = false := (com_whole s).symm.trans hwh
    rw [hww]; rfl
  · have hw : whole (comEnd s) = true := (com_whole s).symm.trans hwh
    have hE2 : (comEnd s).2 = false := (whole_parts hw).1
    have hP2 : (comP s).2 = false := by
      cases hx : (comP s).2
      · rfl
      · exfalso
        have h1 : (comH s).2.2 = true := com_bad0 s hx
        have h2 : (comEnd s).2 = true := com_bad s h1
        rw [h2] at hE2; cases hE2
    obtain ⟨e2, e3⟩ := H4.out.2.2.2.2 hP2
    have e3 := e3.later Hb5.out
    obtain ⟨ao', cap', hv', hev⟩ := StrsAt.own e3
    obtain ⟨rfl, rfl, rfl⟩ : ao = ao' ∧ m = comN s ∧ cap = cap' := by simpa using hv'
    have hG := rgood_asCommit s hh Hhe.out ao cap w5 hev
    unfold obj at hG
    have HG := Lib.hid hG
    have HS := Lib.hid (And.intro hw e3)
    clear hev hw e2 e3 hv' hE2 hP2 hwh hG
    have c0 : w5.cell? ⟨w.heap.size + 1, 0, none⟩ = some (.int .i64 3) := H5.out.2.1.cell 0
    have c1 : w5.cell? ⟨w.heap.size + 1, 1, none⟩ = some (.string ⟨#[]⟩) := H5.out.2.1.cell 1
    have c2 : w5.cell? ⟨w.heap.size + 1, 2, none⟩ = some (.slice none 0 0) := H5.out.2.1.cell 2
    have c3 : w5.cell? ⟨w.heap.size + 1, 3, none⟩ = some (.string (comT s).1) := H5.out.2.1.cell 3
    have c4 : w5.cell? ⟨w.heap.size + 1, 4, none⟩ = some (.slice ao (comN s) cap) := H5.out.2.1.cell 4
    have c5 : w5.cell? ⟨w.heap.size + 1, 5, none⟩ = some (.int .i64 (hh : Int)) := H5.out.2.1.cell 5
    have c6 : w5.cell? ⟨w.heap.size + 1, 6, none⟩ = some (.string (comNote s).1) := H5.out.2.1.cell 6
    go_wp2_with fail
    refine HG.out.mono ?_
    rintro e w6 ⟨rfl, hb6⟩
    have a0 := H5.out.1.below hb6 H5.out.1.lt
    have a1 := H5.out.2.1.below hb6 H5.out.2.1.lt
    have hbb := H5.out.2.2.trans (hb6.mono H5.out.2.2.size)
    have H6 := Lib.hid (And.intro a0 (And.intro a1 (And.intro hb6 hbb)))
    clear a0 a1 hb6 hbb
    clear c0 c1 c2 c3 c4 c5 c6
    cases hgd : (asCommit s).good
    · have z0 : w6.cell? ⟨w.heap.size, 0, none⟩ = some (.int .i64 0) := H6.out.1.cell 0
      have zf0 := H6.out.1.free 0
      have z1 : w6.cell? ⟨w.heap.size, 1, none⟩ = some (.string ⟨#[]⟩) := H6.out.1.cell 1
      have zf1 := H6.out.1.free 1
      have z2 : w6.cell? ⟨w.heap.size, 2, none⟩ = some (.slice none 0 0) := H6.out.1.cell 2
      have zf2 := H6.out.1.free 2
      have z3 : w6.cell? ⟨w.heap.size, 3, none⟩ = some (.string ⟨#[]⟩) := H6.out.1.cell 3
      have zf3 := H6.out.1.free 3
      have z4 : w6.cell? ⟨w.heap.size, 4, none⟩ = some (.slice none 0 0) := H6.out.1.cell 4
      have zf4 := H6.out.1.free 4
      have z5 : w6.cell? ⟨w.heap.size, 5, none⟩ = some (.int .i64 0) := H6.out.1.cell 5
      have zf5 := H6.out.1.free 5
      have z6 : w6.cell? ⟨w.heap.size, 6, none⟩ = some (.string ⟨#[]⟩) := H6.out.1.cell 6
      have zf6 := H6.out.1.free 6
      go_wp2_with fail
      have k8 := (((((((H6.out.1.put 0 (.int .i64 0)).put 1 (.string ⟨#[]⟩)).put 2 (.slice none 0 0)).put 3 (.string ⟨#[]⟩)).put 4 (.slice none 0 0)).put 5 (.int .i64 0)).put 6 (.string ⟨#[]⟩))
      simp only [List.setIfInBounds_toArray, List.set_cons_succ, List.set_cons_zero] at k8
      have M8 := ((((((((Moved.refl w.heap.size w6).setCell (p := ⟨w.heap.size, 0, none⟩) rfl (.int .i64 0)).setCell (p := ⟨w.heap.size, 1, none⟩) rfl (.string ⟨#[]⟩)).setCell (p := ⟨w.heap.size, 2, none⟩) rfl (.slice none 0 0)).setCell (p := ⟨w.heap.size, 3, none⟩) rfl (.string ⟨#[]⟩)).setCell (p := ⟨w.heap.size, 4, none⟩) rfl (.slice none 0 0)).setCell (p := ⟨w.heap.size, 5, none⟩) rfl (.int .i64 0)).setCell (p := ⟨w.heap.size, 6, none⟩) rfl (.string ⟨#[]⟩))
      refine rdec_end s w _ w.heap.size #[.int .i64 0, .string ⟨#[]⟩, .slice none 0 0, .string ⟨#[]⟩, .slice none 0 0, .int .i64 0, .string ⟨#[]⟩] 4 _ (by kernel_rfl) (by kernel_rfl) rfl k8 (H6.out.2.2.2.trans (M8.below (Nat.le_of_lt H6.out.1.lt))) ?_
      refine decOut_none _ s ?_
      rw [Hd.out, hgd, Bool.and_false]; rfl
    · have z0 : w6.cell? ⟨w.heap.size, 0, none⟩ = some (.int .i64 0) := H6.out.1.cell 0
      have zf0 := H6.out.1.free 0
      have z1 : w6.cell? ⟨w.heap.size, 1, none⟩ = some (.string ⟨#[]⟩) := H6.out.1.cell 1
      have zf1 := H6.out.1.free 1
      have z2 : w6.cell? ⟨w.heap.size, 2, none⟩ = some (.slice none 0 0) := H6.out.1.cell 2
      have zf2 := H6.out.1.free 2
      have z3 : w6.cell? ⟨w.heap.size, 3, none⟩ = some (.string ⟨#[]⟩) := H6.out.1.cell 3
      have zf3 := H6.out.1.free 3
      have z4 : w6.cell? ⟨w.heap.size, 4, none⟩ = some (.slice none 0 0) := H6.out.1.cell 4
      have zf4 := H6.out.1.free 4
      have z5 : w6.cell? ⟨w.heap.size, 5, none⟩ = some (.int .i64 0) := H6.out.1.cell 5
      have zf5 := H6.out.1.free 5
      have z6 : w6.cell? ⟨w.heap.size, 6, none⟩ = some (.string ⟨#[]⟩) := H6.out.1.cell 6
      have zf6 := H6.out.1.free 6
      have c0 : w6.cell? ⟨w.heap.size + 1, 0, none⟩ = some (.int .i64 3) := H6.out.2.1.cell 0
      have c1 : w6.cell? ⟨w.heap.size + 1, 1, none⟩ = some (.string ⟨#[]⟩) := H6.out.2.1.cell 1
      have c2 : w6.cell? ⟨w.heap.size + 1, 2, none⟩ = some (.slice none 0 0) := H6.out.2.1.cell 2
      have c3 : w6.cell? ⟨w.heap.size + 1, 3, none⟩ = some (.string (comT s).1) := H6.out.2.1.cell 3
      have c4 : w6.cell? ⟨w.heap.size + 1, 4, none⟩ = some (.slice ao (comN s) cap) := H6.out.2.1.cell 4
      have c5 : w6.cell? ⟨w.heap.size + 1, 5, none⟩ = some (.int .i64 (hh : Int)) := H6.out.2.1.cell 5
      have c6 : w6.cell? ⟨w.heap.size + 1, 6, none⟩ = some (.string (comNote s).1) := H6.out.2.1.cell 6
      go_wp2_with fail
      have k8 := (((((((H6.out.1.put 0 (.int .i64 3)).put 1 (.string ⟨#[]⟩)).put 2 (.slice none 0 0)).put 3 (.string (comT s).1)).put 4 (.slice ao (comN s) cap)).put 5 (.int .i64 (hh : Int))).put 6 (.string (comNote s).1))
      simp only [List.setIfInBounds_toArray, List.set_cons_succ, List.set_cons_zero] at k8
      have M8 := ((((((((Moved.refl w.heap.size w6).setCell (p := ⟨w.heap.size, 0, none⟩) rfl (.int .i64 3)).setCell (p := ⟨w.heap.size, 1, none⟩) rfl (.string ⟨#[]⟩)).setCell (p := ⟨w.heap.size, 2, none⟩) rfl (.slice none 0 0)).setCell (p := ⟨w.heap.size, 3, none⟩) rfl (.string (comT s).1)).setCell (p := ⟨w.heap.size, 4, none⟩) rfl (.slice ao (comN s) cap)).setCell (p := ⟨w.heap.size, 5, none⟩) rfl (.int .i64 (hh : Int))).setCell (p := ⟨w.heap.size, 6, none⟩) rfl (.string (comNote s).1))
      refine rdec_end s w _ w.heap.size #[.int .i64 3, .string ⟨#[]⟩, .slice none 0 0, .string (comT s).1, .slice ao (comN s) cap, .int .i64 (hh : Int), .string (comNote s).1] 0 _ (by kernel_rfl) (by kernel_rfl) rfl k8 (H6.out.2.2.2.trans (M8.below (Nat.le_of_lt H6.out.1.lt))) ?_
      have hdd : dec s = some (asCommit s) := by rw [Hd.out, HS.out.1, hgd]; rfl
      obtain ⟨ao', cap', hv', hev⟩ := StrsAt.own (M8.sl (HS.out.2.later H6.out.2.2.1) (by omega))
      obtain ⟨rfl, rfl⟩ : ao = ao' ∧ cap = cap' := by simpa using hv'
      exact decOut_commit _ s hdd hh Hhe.out ao cap hev
set_option maxRecDepth 100000 in
set_option maxHeartbeats 1000000 in
theorem rdecode_1 (s r : ByteArray) (w : World) (hs : 0 < s.size) (hb : (s[0]'hs).toNat = 1) (hne : (s.toList == []) = false) (hr : s.extract 1 s.size = r) (hsi : (s.size : Int) ≤ 262144) (_hrs : (r.size : Int) ≤ 140737488355328) :
    Calls Try.prog 21 #[.string s] w fun e w' => DecOut w' s e ∧ Below w.heap.size w w' := by
  have hs1 : (1 : Int) ≤ (s.size : Int) := by omega
  have Hr := Lib.hid hr
  have Hd := Lib.hid (dec_1 s hs hb)
  have hgb : (asBlob s).good = decide ((r.size : Int) ≤ 65536) := by rw [← hr]; rfl
  have hbd : (asBlob s).d = r := by rw [← hr]; rfl
  have Hb := Lib.hid (And.intro hgb hbd)
  clear hr hgb hbd
  go_enter Try.func21, Try.ntmps21
  go_wp2_with fail
  rw [Hr.out]
  refine two_blocks w 34 _ _ (fun W => Calls Try.prog 32 #[.agg #[.int .i64 1, .string r, .slice none 0 0, .string ⟨#[]⟩, .slice none 0 0, .int .i64 0, .string ⟨#[]⟩]] W _) ?_
  intro W0 a0 a1 hb0 hz0
  have H1 := Lib.hid (And.intro a0 (And.intro a1 hb0))
  clear a0 a1 hb0 hz0
  have hG := ref_good_blob r (.slice none 0 0) ⟨#[]⟩ (.slice none 0 0) 0 ⟨#[]⟩ W0
  rw [← Hb.out.1] at hG
  unfold obj at hG
  have HG := Lib.hid hG
  clear hG
  have c0 : W0.cell? ⟨w.heap.size + 1, 0, none⟩ = some (.int .i64 1) := H1.out.2.1.cell 0
  have c1 : W0.cell? ⟨w.heap.size + 1, 1, none⟩ = some (.string r) := H1.out.2.1.cell 1
  have c2 : W0.cell? ⟨w.heap.size + 1, 2, none⟩ = some (.slice none 0 0) := H1.out.2.1.cell 2
  have c3 : W0.cell? ⟨w.heap.size + 1, 3, none⟩ = some (.string ⟨#[]⟩) := H1.out.2.1.cell 3
  have c4 : W0.cell? ⟨w.heap.size + 1, 4, none⟩ = some (.slice none 0 0) := H1.out.2.1.cell 4
  have c5 : W0.cell? ⟨w.heap.size + 1, 5, none⟩ = some (.int .i64 0) := H1.out.2.1.cell 5
  have c6 : W0.cell? ⟨w.heap.size + 1, 6, none⟩ = some (.string ⟨#[]⟩) := H1.out.2.1.cell 6
  refine HG.out.mono ?_
  rintro e w6 ⟨rfl, hb6⟩
  have a0 := H1.out.1.below hb6 H1.out.1.lt
  have a1 := H1.out.2.1.below hb6 H1.out.2.1.lt
  have hbb := H1.out.2.2.trans (hb6.mono H1.out.2.2.size)
  have H6 := Lib.hid (And.intro a0 (And.intro a1 (And.intro hb6 hbb)))
  clear a0 a1 hb6 hbb
  clear c0 c1 c2 c3 c4 c5 c6
  cases hgd : (asBlob s).good
  · have z0 : w6.cell? ⟨w.heap.size, 0, none⟩ = some (.int .i64 0) := H6.out.1.cell 0
    have zf0 := H6.out.1.free 0
    have z1 : w6.cell? ⟨w.heap.size, 1, none⟩ = some (.string ⟨#[]⟩) := H6.out.1.cell 1
    have zf1 := H6.out.1.free 1
    have z2 : w6.cell? ⟨w.heap.size, 2, none⟩ = some (.slice none 0 0) := H6.out.1.cell 2
    have zf2 := H6.out.1.free 2
    have z3 : w6.cell? ⟨w.heap.size, 3, none⟩ = some (.string ⟨#[]⟩) := H6.out.1.cell 3
    have zf3 := H6.out.1.free 3
    have z4 : w6.cell? ⟨w.heap.size, 4, none⟩ = some (.slice none 0 0) := H6.out.1.cell 4
    have zf4 := H6.out.1.free 4
    have z5 : w6.cell? ⟨w.heap.size, 5, none⟩ = some (.int .i64 0) := H6.out.1.cell 5
    have zf5 := H6.out.1.free 5
    have z6 : w6.cell? ⟨w.heap.size, 6, none⟩ = some (.string ⟨#[]⟩) := H6.out.1.cell 6
    have zf6 := H6.out.1.free 6
    go_wp2_with fail
    have k8 := (((((((H6.out.1.put 0 (.int .i64 0)).put 1 (.string ⟨#[]⟩)).put 2 (.slice none 0 0)).put 3 (.string ⟨#[]⟩)).put 4 (.slice none 0 0)).put 5 (.int .i64 0)).put 6 (.string ⟨#[]⟩))
    simp only [List.setIfInBounds_toArray, List.set_cons_succ, List.set_cons_zero] at k8
    have M8 := ((((((((Moved.refl w.heap.size w6).setCell (p := ⟨w.heap.size, 0, none⟩) rfl (.int .i64 0)).setCell (p := ⟨w.heap.size, 1, none⟩) rfl (.string ⟨#[]⟩)).setCell (p := ⟨w.heap.size, 2, none⟩) rfl (.slice none 0 0)).setCell (p := ⟨w.heap.size, 3, none⟩) rfl (.string ⟨#[]⟩)).setCell (p := ⟨w.heap.size, 4, none⟩) rfl (.slice none 0 0)).setCell (p := ⟨w.heap.size, 5, none⟩) rfl (.int .i64 0)).setCell (p := ⟨w.heap.size, 6, none⟩) rfl (.string ⟨#[]⟩))
    refine rdec_end s w _ w.heap.size #[.int .i64 0, .string ⟨#[]⟩, .slice none 0 0, .string ⟨#[]⟩, .slice none 0 0, .int .i64 0, .string ⟨#[]⟩] 4 _ (by kernel_rfl) (by kernel_rfl) rfl k8 (H6.out.2.2.2.trans (M8.below (Nat.le_of_lt H6.out.1.lt))) ?_
    refine decOut_none _ s ?_
    rw [Hd.out, hgd]; rfl
  · have z0 : w6.cell? ⟨w.heap.size, 0, none⟩ = some (.int .i64 0) := H6.out.1.cell 0
    have zf0 := H6.out.1.free 0
    have z1 : w6.cell? ⟨w.heap.size, 1, none⟩ = some (.string ⟨#[]⟩) := H6.out.1.cell 1
    have zf1 := H6.out.1.free 1
    have z2 : w6.cell? ⟨w.heap.size, 2, none⟩ = some (.slice none 0 0) := H6.out.1.cell 2
    have zf2 := H6.out.1.free 2
    have z3 : w6.cell? ⟨w.heap.size, 3, none⟩ = some (.string ⟨#[]⟩) := H6.out.1.cell 3
    have zf3 := H6.out.1.free 3
    have z4 : w6.cell? ⟨w.heap.size, 4, none⟩ = some (.slice none 0 0) := H6.out.1.cell 4
    have zf4 := H6.out.1.free 4
    have z5 : w6.cell? ⟨w.heap.size, 5, none⟩ = some (.int .i64 0) := H6.out.1.cell 5
    have zf5 := H6.out.1.free 5
    have z6 : w6.cell? ⟨w.heap.size, 6, none⟩ = some (.string ⟨#[]⟩) := H6.out.1.cell 6
    have zf6 := H6.out.1.free 6
    have c0 : w6.cell? ⟨w.heap.size + 1, 0, none⟩ = some (.int .i64 1) := H6.out.2.1.cell 0
    have c1 : w6.cell? ⟨w.heap.size + 1, 1, none⟩ = some (.string r) := H6.out.2.1.cell 1
    have c2 : w6.cell? ⟨w.heap.size + 1, 2, none⟩ = some (.slice none 0 0) := H6.out.2.1.cell 2
    have c3 : w6.cell? ⟨w.heap.size + 1, 3, none⟩ = some (.string ⟨#[]⟩) := H6.out.2.1.cell 3
    have c4 : w6.cell? ⟨w.heap.size + 1, 4, none⟩ = some (.slice none 0 0) := H6.out.2.1.cell 4
    have c5 : w6.cell? ⟨w.heap.size + 1, 5, none⟩ = some (.int .i64 0) := H6.out.2.1.cell 5
    have c6 : w6.cell? ⟨w.heap.size + 1, 6, none⟩ = some (.string ⟨#[]⟩) := H6.out.2.1.cell 6
    go_wp2_with fail
    have k8 := (((((((H6.out.1.put 0 (.int .i64 1)).put 1 (.string r)).put 2 (.slice none 0 0)).put 3 (.string ⟨#[]⟩)).put 4 (.slice none 0 0)).put 5 (.int .i64 0)).put 6 (.string ⟨#[]⟩))
    simp only [List.setIfInBounds_toArray, List.set_cons_succ, List.set_cons_zero] at k8
    have M8 := ((((((((Moved.refl w.heap.size w6).setCell (p := ⟨w.heap.size, 0, none⟩) rfl (.int .i64 1)).setCell (p := ⟨w.heap.size, 1, none⟩) rfl (.string r)).setCell (p := ⟨w.heap.size, 2, none⟩) rfl (.slice none 0 0)).setCell (p := ⟨w.heap.size, 3, none⟩) rfl (.string ⟨#[]⟩)).setCell (p := ⟨w.heap.size, 4, none⟩) rfl (.slice none 0 0)).setCell (p := ⟨w.heap.size, 5, none⟩) rfl (.int .i64 0)).setCell (p := ⟨w.heap.size, 6, none⟩) rfl (.string ⟨#[]⟩))
    refine rdec_end s w _ w.heap.size #[.int .i64 1, .string r, .slice none 0 0, .string ⟨#[]⟩, .slice none 0 0, .int .i64 0, .string ⟨#[]⟩] 0 _ (by kernel_rfl) (by kernel_rfl) rfl k8 (H6.out.2.2.2.trans (M8.below (Nat.le_of_lt H6.out.1.lt))) ?_
    exact decOut_fields _ s (asBlob s) (by rw [Hd.out, hgd]; rfl) _ _ (entsV_nil _ _ rfl) (strsV_nil _ _ rfl) 1 0 r ⟨#[]⟩ ⟨#[]⟩ rfl Hb.out.2 rfl rfl rfl
set_option maxRecDepth 100000 in
set_option maxHeartbeats 1000000 in
theorem rdecode_odd (s : ByteArray) (w : World) (hs : 0 < s.size) (K : Int) (hK : ((s[0]'hs).toNat : Int) = K) (hk1 : K ≠ 1) (hk2 : K ≠ 2) (hk3 : K ≠ 3) (hne : (s.toList == []) = false) (hsi : (s.size : Int) ≤ 262144) :
    Calls Try.prog 21 #[.string s] w fun e w' => DecOut w' s e ∧ Below w.heap.size w w' := by
  have hs1 : (1 : Int) ≤ (s.size : Int) := by omega
  have Hd := Lib.hid (dec_odd s hs (by omega) (by omega) (by omega))
  have hgo : ∀ w, _ := fun w => ref_good_odd 0 ⟨#[]⟩ (.slice none 0 0) ⟨#[]⟩ (.slice none 0 0) 0 ⟨#[]⟩ w (by decide) (by decide) (by decide)
  unfold obj at hgo
  have Hgood := Lib.hid hgo
  have hq1 : (((s[0]'hs).toNat : Int) == 1) = false := by rw [hK]; simpa using hk1
  have hq2 : (((s[0]'hs).toNat : Int) == 2) = false := by rw [hK]; simpa using hk2
  have hq3 : (((s[0]'hs).toNat : Int) == 3) = false := by rw [hK]; simpa using hk3
  clear hk1 hk2 hk3 hK hgo
  go_enter Try.func21, Try.ntmps21
  go_wp2_with fail
  refine two_blocks w 34 _ _ (fun W => Calls Try.prog 32 #[.agg #[.int .i64 0, .string ⟨#[]⟩, .slice none 0 0, .string ⟨#[]⟩, .slice none 0 0, .int .i64 0, .string ⟨#[]⟩]] W _) ?_
  intro W0 a0 a1 hb0 hz0
  have H1 := Lib.hid (And.intro a0 (And.intro a1 hb0))
  clear a0 a1 hb0 hz0
  have c0 : W0.cell? ⟨w.heap.size + 1, 0, none⟩ = some (.int .i64 0) := H1.out.2.1.cell 0
  have c1 : W0.cell? ⟨w.heap.size + 1, 1, none⟩ = some (.string ⟨#[]⟩) := H1.out.2.1.cell 1
  have c2 : W0.cell? ⟨w.heap.size + 1, 2, none⟩ = some (.slice none 0 0) := H1.out.2.1.cell 2
  have c3 : W0.cell? ⟨w.heap.size + 1, 3, none⟩ = some (.string ⟨#[]⟩) := H1.out.2.1.cell 3
  have c4 : W0.cell? ⟨w.heap.size + 1, 4, none⟩ = some (.slice none 0 0) := H1.out.2.1.cell 4
  have c5 : W0.cell? ⟨w.heap.size + 1, 5, none⟩ = some (.int .i64 0) := H1.out.2.1.cell 5
  have c6 : W0.cell? ⟨w.heap.size + 1, 6, none⟩ = some (.string ⟨#[]⟩) := H1.out.2.1.cell 6
  refine (Hgood.out W0).mono ?_
  rintro e w6 ⟨rfl, hb6⟩
  have a0 := H1.out.1.below hb6 H1.out.1.lt
  have a1 := H1.out.2.1.below hb6 H1.out.2.1.lt
  have hbb := H1.out.2.2.trans (hb6.mono H1.out.2.2.size)
  have H6 := Lib.hid (And.intro a0 (And.intro a1 (And.intro hb6 hbb)))
  clear a0 a1 hb6 hbb
  clear c0 c1 c2 c3 c4 c5 c6
  have z0 : w6.cell? ⟨w.heap.size, 0, none⟩ = some (.int .i64 0) := H6.out.1.cell 0
  have zf0 := H6.out.1.free 0
  have z1 : w6.cell? ⟨w.heap.size, 1, none⟩ = some (.string ⟨#[]⟩) := H6.out.1.cell 1
  have zf1 := H6.out.1.free 1
  have z2 : w6.cell? ⟨w.heap.size, 2, none⟩ = some (.slice none 0 0) := H6.out.1.cell 2
  have zf2 := H6.out.1.free 2
  have z3 : w6.cell? ⟨w.heap.size, 3, none⟩ = some (.string ⟨#[]⟩) := H6.out.1.cell 3
  have zf3 := H6.out.1.free 3
  have z4 : w6.cell? ⟨w.heap.size, 4, none⟩ = some (.slice none 0 0) := H6.out.1.cell 4
  have zf4 := H6.out.1.free 4
  have z5 : w6.cell? ⟨w.heap.size, 5, none⟩ = some (.int .i64 0) := H6.out.1.cell 5
  have zf5 := H6.out.1.free 5
  have z6 : w6.cell? ⟨w.heap.size, 6, none⟩ = some (.string ⟨#[]⟩) := H6.out.1.cell 6
  have zf6 := H6.out.1.free 6
  go_wp2_with fail
  have k8 := (((((((H6.out.1.put 0 (.int .i64 0)).put 1 (.string ⟨#[]⟩)).put 2 (.slice none 0 0)).put 3 (.string ⟨#[]⟩)).put 4 (.slice none 0 0)).put 5 (.int .i64 0)).put 6 (.string ⟨#[]⟩))
  simp only [List.setIfInBounds_toArray, List.set_cons_succ, List.set_cons_zero] at k8
  have M8 := ((((((((Moved.refl w.heap.size w6).setCell (p := ⟨w.heap.size, 0, none⟩) rfl (.int .i64 0)).setCell (p := ⟨w.heap.size, 1, none⟩) rfl (.string ⟨#[]⟩)).setCell (p := ⟨w.heap.size, 2, none⟩) rfl (.slice none 0 0)).setCell (p := ⟨w.heap.size, 3, none⟩) rfl (.string ⟨#[]⟩)).setCell (p := ⟨w.heap.size, 4, none⟩) rfl (.slice none 0 0)).setCell (p := ⟨w.heap.size, 5, none⟩) rfl (.int .i64 0)).setCell (p := ⟨w.heap.size, 6, none⟩) rfl (.string ⟨#[]⟩))
  refine rdec_end s w _ w.heap.size #[.int .i64 0, .string ⟨#[]⟩, .slice none 0 0, .string ⟨#[]⟩, .slice none 0 0, .int .i64 0, .string ⟨#[]⟩] 4 _ (by kernel_rfl) (by kernel_rfl) rfl k8 (H6.out.2.2.2.trans (M8.below (Nat.le_of_lt H6.out.1.lt))) ?_
  exact decOut_none _ s Hd.out
theorem rdecode_any (s : ByteArray) (w : World) (hsi : (s.size : Int) ≤ 262144) :
    Calls Try.prog 21 #[.string s] w fun e w' => DecOut w' s e ∧ Below w.heap.size w w' := by
  have he := Path.empty_iff s
  rcases Nat.eq_zero_or_pos s.size with h0 | h0
  · exact rdecode_0 s w h0 (by rw [he]; simp; omega)
  have hne : (s.toList == []) = false := by rw [he]; simp; omega
  have hrs : ((s.extract 1 s.size).size : Int) ≤ 140737488355328 := by rw [ByteArray.size_extract]; omega
  by_cases h1 : (s[0]'h0).toNat = 1
  · exact rdecode_1 s _ w h0 h1 hne rfl hsi hrs
  by_cases h2 : (s[0]'h0).toNat = 2
  · exact rdecode_2 s _ w h0 h2 hne rfl hsi hrs
  by_cases h3 : (s[0]'h0).toNat = 3
  · exact rdecode_3 s _ w h0 h3 hne rfl hsi _ rfl hrs
  exact rdecode_odd s w h0 _ rfl (by omega) (by omega) (by omega) hne hsi
end Go.Proofs.Ytmdchfmcghiaeaa.Obj
