/- object.Decode walked: what bytes hold, or none. Condition: at most 2^18 bytes. -/
import Derived.Test.YtmdchfmcghiaeaaDec
namespace Go.Proofs.Ytmdchfmcghiaeaa.Obj
open Go.RowKit
open Oct (Rd takeR textR val Moved)
theorem dec_end2 (s : ByteArray) (w w8 : World) (b : Nat) (x : Array Value) (c : Int) (tmps : Array Value) (h2 : tmps.getD 2 undef = .pointer (some ⟨b, 0, none⟩)) (h3 : tmps.getD 3 undef = .int .i64 c) (hx : x.size = 7) (k : BlkIs w8 b 34 x) (hb : Below w.heap.size w w8)
    (hD : DecOut w8 s (.returned (.tuple #[.agg x, .int .i64 c]))) :
    bodyPost Try.prog Try.f20 (fun e w' => DecOut w' s e ∧ Below w.heap.size w w') Exit.ret ⟨tmps, []⟩ w8 := by
  have hinfo : (Try.prog.info? 34).map (·.size) = some x.size := by rw [hx]; kernel_rfl
  refine bodyPost_ret (results_cell_tmp' rfl _ _ b 34 x (0, 0) _ h2 k Try.underlying34 rfl hinfo) rfl ?_
  rw [h3]
  exact ⟨hD, hb⟩
theorem _root_.Go.Proofs.Ytmdchfmcghiaeaa.SlIs.farB {w : World} {base n size : Nat} {e : TypeId} {v : Value} {xs : List Value} (h : SlIs w base e size v n xs) {p : Addr} (hp : p.block < base) (u : Value) : SlIs (w.setCell p u) base e size v n xs :=
  h.far (fun hh => by have := (h.lt _ hh).1; omega) u
theorem first_eq (s : ByteArray) (hs : 0 < s.size) : first s = ((s[0]'hs).toNat : Int) := by unfold first kindOf; rw [dif_pos hs]
theorem dec_zero (s : ByteArray) (h : s.size = 0) : dec s = none := if_pos h
theorem dec_2 (s : ByteArray) (hs : 0 < s.size) (h : (s[0]'hs).toNat = 2) : dec s = if whole (treeEnd s) && (asTree s).good then some (asTree s) else none := by
  unfold dec
  rw [if_neg (by omega), first_eq s hs, h, if_neg (by decide), if_pos (by decide)]
theorem dec_3 (s : ByteArray) (hs : 0 < s.size) (h : (s[0]'hs).toNat = 3) : dec s = if whole (comEnd s) && (asCommit s).good then some (asCommit s) else none := by
  unfold dec
  rw [if_neg (by omega), first_eq s hs, h, if_neg (by decide), if_neg (by decide), if_pos (by decide)]
theorem dec_1 (s : ByteArray) (hs : 0 < s.size) (h : (s[0]'hs).toNat = 1) : dec s = if (asBlob s).good then some (asBlob s) else none := by
  unfold dec
  rw [if_neg (by omega), first_eq s hs, h, if_pos (by decide)]
theorem dec_odd (s : ByteArray) (hs : 0 < s.size) (h1 : (s[0]'hs).toNat ≠ 1) (h2 : (s[0]'hs).toNat ≠ 2) (h3 : (s[0]'hs).toNat ≠ 3) : dec s = none := by
  unfold dec
  rw [if_neg (by omega), first_eq s hs, if_neg (by omega), if_neg (by omega), if_neg (by omega)]
theorem not_left {a b : Bool} (h : (!a && b) = true) : a = false := by cases a <;> simp_all
theorem whole_parts {e : ByteArray × Bool} (h : whole e = true) : e.2 = false ∧ e.1.size = 0 := by
  unfold whole at h
  have := not_left h
  rw [this] at h
  exact ⟨this, by simpa using h⟩
theorem com_whole (s : ByteArray) : (!(comNote s).2.2 && decide ((comNote s).2.1.size = 0)) = whole (comEnd s) := by unfold whole comEnd; rfl
theorem com_h (s : ByteArray) : (asCommit s).h = ((val (comH s).1.data.toList : Nat) : Int) := by unfold asCommit; rfl
theorem com_bad0 (s : ByteArray) (h : (comP s).2 = true) : (comH s).2.2 = true := by unfold comH; rw [h, takeR_bad]
theorem com_bad (s : ByteArray) (h : (comH s).2.2 = true) : (comEnd s).2 = true := by unfold comEnd comNote; rw [h]; exact textR_bad _ _
theorem good_three (T N : ByteArray) (np : Nat) (f : Nat → ByteArray) (h : Int) (ao : Option Addr) (cap : Nat) (w : World) (hp : StrsAt w ao np f) :
    Calls Try.prog 29 #[obj 3 ⟨#[]⟩ (.slice none 0 0) T (.slice ao np cap) h N] w fun e w' => e = .returned (.bool ({ none_ with k := 3, t := T, np := np, f := f, h := h, n := N } : Plain).good) ∧ Below w.heap.size w w' :=
  good_any ({ none_ with k := 3, t := T, np := np, f := f, h := h, n := N } : Plain) (.slice none 0 0) (.slice ao np cap) w (entsV_nil _ _ rfl) ⟨ao, cap, rfl, hp⟩ (by show 0 ≤ 1000000; omega)
theorem good_asCommit (s : ByteArray) (hh : Nat) (hhe : hh = val (comH s).1.data.toList) (ao : Option Addr) (cap : Nat) (w : World) (hp : StrsAt w ao (comN s) (asCommit s).f) :
    Calls Try.prog 29 #[obj 3 ⟨#[]⟩ (.slice none 0 0) (comT s).1 (.slice ao (comN s) cap) (hh : Int) (comNote s).1] w fun e w' => e = .returned (.bool (asCommit s).good) ∧ Below w.heap.size w w' := by
  have hg : (asCommit s).good = ({ none_ with k := 3, t := (comT s).1, np := comN s, f := (asCommit s).f, h := (hh : Int), n := (comNote s).1 } : Plain).good := by
    rw [hhe]; unfold asCommit; rfl
  rw [hg]
  exact good_three _ _ _ _ _ ao cap w hp
theorem decOut_some (w : World) (s : ByteArray) (o : Plain) (h : dec s = some o) (es ps : Value) (he : EntsV w es o) (hp : StrsC w ps o) : DecOut w s (.returned (.tuple #[obj o.k o.d es o.t ps o.h o.n, .int .i64 0])) := by
  refine ⟨es, ps, ?_, ?_, ?_⟩
  · rw [h]; exact he
  · rw [h]; exact hp
  · rw [h]; rfl
theorem decOut_fields (w : World) (s : ByteArray) (o : Plain) (hd : dec s = some o) (es ps : Value) (he : EntsV w es o) (hp : StrsC w ps o) (k h : Int) (d t n : ByteArray) (e1 : o.k = k) (e2 : o.d = d) (e3 : o.t = t) (e4 : o.h = h) (e5 : o.n = n) :
    DecOut w s (.returned (.tuple #[obj k d es t ps h n, .int .i64 0])) := by
  subst e1 e2 e3 e4 e5
  exact decOut_some w s o hd es ps he hp
theorem com_ne (s : ByteArray) : (asCommit s).ne = 0 := by unfold asCommit; rfl
theorem com_np (s : ByteArray) : (asCommit s).np = comN s := by unfold asCommit; rfl
theorem com_k (s : ByteArray) : (asCommit s).k = 3 := by unfold asCommit; rfl
theorem com_d (s : ByteArray) : (asCommit s).d = ⟨#[]⟩ := by unfold asCommit; rfl
theorem com_t (s : ByteArray) : (asCommit s).t = (comT s).1 := by unfold asCommit; rfl
theorem com_n (s : ByteArray) : (asCommit s).n = (comNote s).1 := by simp only [asCommit]
theorem decOut_commit (w : World) (s : ByteArray) (h : dec s = some (asCommit s)) (hh : Nat) (hhe : hh = val (comH s).1.data.toList) (ao : Option Addr) (cap : Nat) (hcap : comN s ≤ cap) (hp : StrsAt w ao (comN s) (asCommit s).f) :
    DecOut w s (.returned (.tuple #[obj 3 ⟨#[]⟩ (.slice none 0 0) (comT s).1 (.slice ao (comN s) cap) (hh : Int) (comNote s).1, .int .i64 0])) :=
  decOut_fields w s (asCommit s) h _ _ (entsV_nil _ _ (com_ne s)) ⟨ao, cap, by rw [com_np], by rw [com_np]; exact hcap, by rw [com_np]; exact hp⟩ _ _ _ _ _ (com_k s) (com_d s) (com_t s) (by rw [com_h, ← hhe]) (com_n s)
theorem whole_iff (e : ByteArray × Bool) (r : ByteArray) (h : e.2 = false → r = e.1) : (!e.2 && decide (r.size = 0)) = whole e := by
  unfold whole
  cases he : e.2
  · rw [h he]
  · rfl
set_option maxRecDepth 100000 in
set_option maxHeartbeats 800000 in
theorem decode_2 (s r : ByteArray) (w : World) (hs : 0 < s.size) (hb : (s[0]'hs).toNat = 2) (hne : (s.toList == []) = false) (hr : s.extract 1 s.size = r) (hsi : (s.size : Int) ≤ 262144) :
    Calls Try.prog 20 #[.string s] w fun e w' => DecOut w' s e ∧ Below w.heap.size w w' := by
  have hs1 : (1 : Int) ≤ (s.size : Int) := by omega
  have Hr := Lib.hid hr
  have hdec := dec_2 s hs hb
  have htq : treeQ s = takeR r false 4 := by rw [← hr]; rfl
  have Hd := Lib.hid (And.intro hdec htq)
  clear hr hdec htq
  go_enter Try.func20, Try.ntmps20
  go_wp2_with fail
  rw [Hr.out]
  refine two_blocks w 34 _ _ (fun W => Calls Try.prog 42 _ W _) ?_
  intro W0 a0 a1 hb0 hz0
  have hnew := Oct.rd_new r W0
  obtain ⟨g, hg⟩ : ∃ g, g = W0.heap.size := ⟨_, rfl⟩
  have hg1 : w.heap.size + 1 < g := by omega
  rw [← hg] at hnew
  refine hnew.mono ?_
  rintro e w1 ⟨rfl, h1, hb1⟩
  have a0 := a0.below hb1 (by omega)
  have a1 := a1.below hb1 (by omega)
  have hb0 := hb0.trans (hb1.mono (by omega))
  have hgz : g < w1.heap.size := h1.lt
  have d0 : w1.cell? ⟨w.heap.size + 1, 0, none⟩ = some (.int .i64 2) := a1.cell 0
  have H1 := Lib.hid (And.intro a0 (And.intro a1 (And.intro h1 hb0)))
  clear a0 a1 hb0 hb1 h1 hnew hg hz0
  go_wp2_with fail
  refine (entries_any g r false w1 H1.out.2.2.1).mono ?_
  rintro e w3 ⟨v, rfl, ao, m, cap, r', rfl, h3, hm3, hrest⟩
  rw [← Hd.out.2] at h3 hrest
  have hE : entsEnd (treeQ s).2 (val (treeQ s).1.data.toList) = treeEnd s := rfl
  rw [hE] at h3 hrest
  have a0 := hm3.blk H1.out.1 (by omega)
  have a1 := hm3.blk H1.out.2.1 (by omega)
  have hbb := H1.out.2.2.2.trans ((hm3.below (by omega)).mono (by omega))
  have d2 : w3.cell? ⟨w.heap.size + 1, 2, none⟩ = some (.slice none 0 0) := a1.cell 2
  have f2 := a1.free 2
  have a0 := a0.far (p := ⟨w.heap.size + 1, 2, none⟩) (by simp) (.slice ao m cap)
  have h3 := BlkIs.far h3 (p := ⟨w.heap.size + 1, 2, none⟩) (by show g ≠ w.heap.size + 1; omega) (.slice ao m cap)
  have a1 := a1.put 2 (.slice ao m cap)
  simp only [List.setIfInBounds_toArray, List.set_cons_succ, List.set_cons_zero] at a1
  have hbb := hbb.setCell (p := ⟨w.heap.size + 1, 2, none⟩) (by show w.heap.size ≤ w.heap.size + 1; omega) (.slice ao m cap)
  have hsl : (treeEnd s).2 = false → r' = (treeEnd s).1 ∧ treeN s ≤ 256 ∧ SlIs (w3.setCell ⟨w.heap.size + 1, 2, none⟩ (.slice ao m cap)) w1.heap.size 55 3 (.slice ao m cap) (treeN s) (ecells (asTree s).nm (asTree s).kd (asTree s).id (treeN s)) := fun hf => by
    obtain ⟨e1, e2, e3⟩ := hrest hf
    exact ⟨e1, e2, e3.farB (by show w.heap.size + 1 < w1.heap.size; omega) _⟩
  obtain ⟨w4, hw4⟩ : ∃ w4, w4 = w3.setCell ⟨w.heap.size + 1, 2, none⟩ (.slice ao m cap) := ⟨_, rfl⟩
  rw [← hw4] at a0 a1 h3 hbb hsl
  have H4 := Lib.hid (And.intro a0 (And.intro a1 (And.intro h3 (And.intro hbb hsl))))
  have HW := Lib.hid hw4
  clear a0 a1 h3 hm3 d0 hbb hw4 hsl hrest hne hb hs1 hsi Hr hs
  go_wp2_with fail
  rw [← HW.out]
  clear HW d2 f2
  go_wp2_with fail
  refine (Oct.rd_whole g _ _ w4 H4.out.2.2.1).mono ?_
  rintro e w5 ⟨rfl, rfl⟩
  cases hwh : (!(treeEnd s).2 && decide (r'.size = 0))
  · have z0 : w4.cell? ⟨w.heap.size, 0, none⟩ = some (.int .i64 0) := H4.out.1.cell 0
    have zf0 := H4.out.1.free 0
    have z1 : w4.cell? ⟨w.heap.size, 1, none⟩ = some (.string ⟨#[]⟩) := H4.out.1.cell 1
    have zf1 := H4.out.1.free 1
    have z2 : w4.cell? ⟨w.heap.size, 2, none⟩ = some (.slice none 0 0) := H4.out.1.cell 2
    have zf2 := H4.out.1.free 2
    have z3 : w4.cell? ⟨w.heap.size, 3, none⟩ = some (.string ⟨#[]⟩) := H4.out.1.cell 3
    have zf3 := H4.out.1.free 3
    have z4 : w4.cell? ⟨w.heap.size, 4, none⟩ = some (.slice none 0 0) := H4.out.1.cell 4
    have zf4 := H4.out.1.free 4
    have z5 : w4.cell? ⟨w.heap.size, 5, none⟩ = some (.int .i64 0) := H4.out.1.cell 5
    have zf5 := H4.out.1.free 5
    have z6 : w4.cell? ⟨w.heap.size, 6, none⟩ = some (.string ⟨#[]⟩) := H4.out.1.cell 6
    have zf6 := H4.out.1.free 6
    go_wp2_with fail
    have k8 := (((((((H4.out.1.put 0 (.int .i64 0)).put 1 (.string ⟨#[]⟩)).put 2 (.slice none 0 0)).put 3 (.string ⟨#[]⟩)).put 4 (.slice none 0 0)).put 5 (.int .i64 0)).put 6 (.string ⟨#[]⟩))
    simp only [List.setIfInBounds_toArray, List.set_cons_succ, List.set_cons_zero] at k8
    have M8 := ((((((((Moved.refl w.heap.size w4).setCell (p := ⟨w.heap.size, 0, none⟩) rfl (.int .i64 0)).setCell (p := ⟨w.heap.size, 1, none⟩) rfl (.string ⟨#[]⟩)).setCell (p := ⟨w.heap.size, 2, none⟩) rfl (.slice none 0 0)).setCell (p := ⟨w.heap.size, 3, none⟩) rfl (.string ⟨#[]⟩)).setCell (p := ⟨w.heap.size, 4, none⟩) rfl (.slice none 0 0)).setCell (p := ⟨w.heap.size, 5, none⟩) rfl (.int .i64 0)).setCell (p := ⟨w.heap.size, 6, none⟩) rfl (.string ⟨#[]⟩))
    refine dec_end2 s w _ w.heap.size #[.int .i64 0, .string ⟨#[]⟩, .slice none 0 0, .string ⟨#[]⟩, .slice none 0 0, .int .i64 0, .string ⟨#[]⟩] 4 _ (by kernel_rfl) (by kernel_rfl) rfl k8 (H4.out.2.2.2.1.trans (M8.below (Nat.le_of_lt H4.out.1.lt))) ?_
    refine decOut_none _ s ?_
    rw [Hd.out.1]
    have : whole (treeEnd s) = false := by rw [← hwh]; exact (whole_iff _ _ fun hf => (H4.out.2.2.2.2 hf).1).symm
    rw [this]; rfl
  · have hE2 : (treeEnd s).2 = false := not_left hwh
    obtain ⟨e1, e2, e3⟩ := H4.out.2.2.2.2 hE2
    have hw : whole (treeEnd s) = true := by rw [← hwh]; exact (whole_iff _ _ fun _ => e1).symm
    obtain ⟨ao', cap', hv', hev⟩ := EntsAt.own e3
    obtain ⟨rfl, rfl, rfl⟩ : ao = ao' ∧ m = treeN s ∧ cap = cap' := by simpa using hv'
    have HG := Lib.hid (good_any (asTree s) (.slice ao (treeN s) cap) (.slice none 0 0) w4 ⟨ao, cap, rfl, hev⟩ (strsV_nil _ _ rfl) (by show treeN s ≤ 1000000; omega))
    have HS := Lib.hid (And.intro hw e3)
    clear hev hw e1 e2 e3 hv' hE2 hwh
    have c0 : w4.cell? ⟨w.heap.size + 1, 0, none⟩ = some (.int .i64 2) := H4.out.2.1.cell 0
    have c1 : w4.cell? ⟨w.heap.size + 1, 1, none⟩ = some (.string ⟨#[]⟩) := H4.out.2.1.cell 1
    have c2 : w4.cell? ⟨w.heap.size + 1, 2, none⟩ = some (.slice ao (treeN s) cap) := H4.out.2.1.cell 2
    have c3 : w4.cell? ⟨w.heap.size + 1, 3, none⟩ = some (.string ⟨#[]⟩) := H4.out.2.1.cell 3
    have c4 : w4.cell? ⟨w.heap.size + 1, 4, none⟩ = some (.slice none 0 0) := H4.out.2.1.cell 4
    have c5 : w4.cell? ⟨w.heap.size + 1, 5, none⟩ = some (.int .i64 0) := H4.out.2.1.cell 5
    have c6 : w4.cell? ⟨w.heap.size + 1, 6, none⟩ = some (.string ⟨#[]⟩) := H4.out.2.1.cell 6
    go_wp2_with fail
    refine HG.out.mono ?_
    rintro e w6 ⟨rfl, hb6⟩
    have a0 := H4.out.1.below hb6 H4.out.1.lt
    have a1 := H4.out.2.1.below hb6 H4.out.2.1.lt
    have hbb := H4.out.2.2.2.1.trans (hb6.mono H4.out.2.2.2.1.size)
    have H6 := Lib.hid (And.intro a0 (And.intro a1 (And.intro hb6 hbb)))
    clear a0 a1 hb6 hbb
    clear c0 c1 c2 c3 c4 c5 c6
    cases hgd : (asTree s).good
    · have z0 : w6.cell? ⟨w.heap.size, 0, none⟩ = some (.int .i64 0) := H6.out.1.cell 0
      have zf0 := H6.out.1.free 0
      have z1 : w6.cell? ⟨w.heap.size, 1, none⟩ = some (.string ⟨#[]⟩) := H6.out.1.cell 1
      have zf1 := H6.out.1.free 1
      have z2 : w6.cell? ⟨w.heap.size, 2, none⟩ = some (.slice none 0 0) := H6.out.1.cell 2
      have zf2 := H6.out.1.free 2
      have z3 : w6.cell? ⟨w.heap.size, 3, none⟩ = some (.string ⟨#[]⟩) := H6.out.1.cell 3
      have zf3 := H6.out.1.free 3
      have z4 : w6.cell? ⟨w.heap.size, 4, none⟩ = some (.slice none 0 0) := H6.out.1.cell 4
      have zf4 := H6.out.1.free 4
      have z5 : w6.cell? ⟨w.heap.size, 5, none⟩ = some (.int .i64 0) := H6.out.1.cell 5
      have zf5 := H6.out.1.free 5
      have z6 : w6.cell? ⟨w.heap.size, 6, none⟩ = some (.string ⟨#[]⟩) := H6.out.1.cell 6
      have zf6 := H6.out.1.free 6
      go_wp2_with fail
      have k8 := (((((((H6.out.1.put 0 (.int .i64 0)).put 1 (.string ⟨#[]⟩)).put 2 (.slice none 0 0)).put 3 (.string ⟨#[]⟩)).put 4 (.slice none 0 0)).put 5 (.int .i64 0)).put 6 (.string ⟨#[]⟩))
      simp only [List.setIfInBounds_toArray, List.set_cons_succ, List.set_cons_zero] at k8
      have M8 := ((((((((Moved.refl w.heap.size w6).setCell (p := ⟨w.heap.size, 0, none⟩) rfl (.int .i64 0)).setCell (p := ⟨w.heap.size, 1, none⟩) rfl (.string ⟨#[]⟩)).setCell (p := ⟨w.heap.size, 2, none⟩) rfl (.slice none 0 0)).setCell (p := ⟨w.heap.size, 3, none⟩) rfl (.string ⟨#[]⟩)).setCell (p := ⟨w.heap.size, 4, none⟩) rfl (.slice none 0 0)).setCell (p := ⟨w.heap.size, 5, none⟩) rfl (.int .i64 0)).setCell (p := ⟨w.heap.size, 6, none⟩) rfl (.string ⟨#[]⟩))
      refine dec_end2 s w _ w.heap.size #[.int .i64 0, .string ⟨#[]⟩, .slice none 0 0, .string ⟨#[]⟩, .slice none 0 0, .int .i64 0, .string ⟨#[]⟩] 4 _ (by kernel_rfl) (by kernel_rfl) rfl k8 (H6.out.2.2.2.trans (M8.below (Nat.le_of_lt H6.out.1.lt))) ?_
      refine decOut_none _ s ?_
      rw [Hd.out.1, hgd, Bool.and_false]; rfl
    · have z0 : w6.cell? ⟨w.heap.size, 0, none⟩ = some (.int .i64 0) := H6.out.1.cell 0
      have zf0 := H6.out.1.free 0
      have z1 : w6.cell? ⟨w.heap.size, 1, none⟩ = some (.string ⟨#[]⟩) := H6.out.1.cell 1
      have zf1 := H6.out.1.free 1
      have z2 : w6.cell? ⟨w.heap.size, 2, none⟩ = some (.slice none 0 0) := H6.out.1.cell 2
      have zf2 := H6.out.1.free 2
      have z3 : w6.cell? ⟨w.heap.size, 3, none⟩ = some (.string ⟨#[]⟩) := H6.out.1.cell 3
      have zf3 := H6.out.1.free 3
      have z4 : w6.cell? ⟨w.heap.size, 4, none⟩ = some (.slice none 0 0) := H6.out.1.cell 4
      have zf4 := H6.out.1.free 4
      have z5 : w6.cell? ⟨w.heap.size, 5, none⟩ = some (.int .i64 0) := H6.out.1.cell 5
      have zf5 := H6.out.1.free 5
      have z6 : w6.cell? ⟨w.heap.size, 6, none⟩ = some (.string ⟨#[]⟩) := H6.out.1.cell 6
      have zf6 := H6.out.1.free 6
      have c0 : w6.cell? ⟨w.heap.size + 1, 0, none⟩ = some (.int .i64 2) := H6.out.2.1.cell 0
      have c1 : w6.cell? ⟨w.heap.size + 1, 1, none⟩ = some (.string ⟨#[]⟩) := H6.out.2.1.cell 1
      have c2 : w6.cell? ⟨w.heap.size + 1, 2, none⟩ = some (.slice ao (treeN s) cap) := H6.out.2.1.cell 2
      have c3 : w6.cell? ⟨w.heap.size + 1, 3, none⟩ = some (.string ⟨#[]⟩) := H6.out.2.1.cell 3
      have c4 : w6.cell? ⟨w.heap.size + 1, 4, none⟩ = some (.slice none 0 0) := H6.out.2.1.cell 4
      have c5 : w6.cell? ⟨w.heap.size + 1, 5, none⟩ = some (.int .i64 0) := H6.out.2.1.cell 5
      have c6 : w6.cell? ⟨w.heap.size + 1, 6, none⟩ = some (.string ⟨#[]⟩) := H6.out.2.1.cell 6
      go_wp2_with fail
      have k8 := (((((((H6.out.1.put 0 (.int .i64 2)).put 1 (.string ⟨#[]⟩)).put 2 (.slice ao (treeN s) cap)).put 3 (.string ⟨#[]⟩)).put 4 (.slice none 0 0)).put 5 (.int .i64 0)).put 6 (.string ⟨#[]⟩))
      simp only [List.setIfInBounds_toArray, List.set_cons_succ, List.set_cons_zero] at k8
      have M8 := ((((((((Moved.refl w.heap.size w6).setCell (p := ⟨w.heap.size, 0, none⟩) rfl (.int .i64 2)).setCell (p := ⟨w.heap.size, 1, none⟩) rfl (.string ⟨#[]⟩)).setCell (p := ⟨w.heap.size, 2, none⟩) rfl (.slice ao (treeN s) cap)).setCell (p := ⟨w.heap.size, 3, none⟩) rfl (.string ⟨#[]⟩)).setCell (p := ⟨w.heap.size, 4, none⟩) rfl (.slice none 0 0)).setCell (p := ⟨w.heap.size, 5, none⟩) rfl (.int .i64 0)).setCell (p := ⟨w.heap.size, 6, none⟩) rfl (.string ⟨#[]⟩))
      refine dec_end2 s w _ w.heap.size #[.int .i64 2, .string ⟨#[]⟩, .slice ao (treeN s) cap, .string ⟨#[]⟩, .slice none 0 0, .int .i64 0, .string ⟨#[]⟩] 0 _ (by kernel_rfl) (by kernel_rfl) rfl k8 (H6.out.2.2.2.trans (M8.below (Nat.le_of_lt H6.out.1.lt))) ?_
      have hdd : dec s = some (asTree s) := by rw [Hd.out.1, HS.out.1, hgd]; rfl
      refine ⟨.slice ao (treeN s) cap, .slice none 0 0, ?_, strsC_nil _ _ (by rw [hdd]; rfl), by rw [hdd]; rfl⟩
      rw [hdd]
      obtain ⟨ao', cap', hv', hev⟩ := EntsAt.own (M8.sl (HS.out.2.later H6.out.2.2.1) (by omega))
      exact ⟨ao', cap', hv', hev⟩
end Go.Proofs.Ytmdchfmcghiaeaa.Obj
