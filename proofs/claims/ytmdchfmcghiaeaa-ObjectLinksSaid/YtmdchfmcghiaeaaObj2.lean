/- object.Decode of a blob: kind 1, then the note to the end. Conditions: the first byte is 1, at most 65,537 bytes. -/
import Derived.Test.YtmdchfmcghiaeaaObj1
namespace Go.Proofs.Ytmdchfmcghiaeaa.Obj
open Go.RowKit
theorem results_cell_tmp' {P : Program} {fn : Func} {p q : Tmp} {ty : TypeId} (h : fn.results = #[.cell p ty, .tmp q]) (tmps : Array Value) (w : World) (g : Nat) (t : TypeId) (cs : Array Value) (fr : Nat × Nat) (d : TypeDesc)
    (hp : tmps.getD p undef = .pointer (some ⟨g, 0, none⟩)) (hg : w.heap[g]? = some (.cells cs t fr))
    (hu : P.underlying ty = some d) (hd : (match d with | .struct _ | .array _ _ => true | _ => false) = true) (hi : (P.info? ty).map (·.size) = some cs.size) :
    (results fn tmps).run P w = .ok (.tuple #[.agg cs, tmps.getD q undef]) w := by
  have hp' : tmps[p]?.getD undef = .pointer (some ⟨g, 0, none⟩) := by simpa using hp
  simp [results, h, hp', asAddr, run_loadVar_row w g t ty cs fr d hg hu hd hi]
theorem dec_end (w w8 : World) (b : Nat) (x : Array Value) (c : Int) (tmps : Array Value) (h2 : tmps.getD 2 undef = .pointer (some ⟨b, 0, none⟩)) (h3 : tmps.getD 3 undef = .int .i64 c) (hx : x.size = 7) (k : BlkIs w8 b 34 x) (hb : Below w.heap.size w w8) :
    bodyPost Try.prog Try.f20 (fun e w' => e = .returned (.tuple #[.agg x, .int .i64 c]) ∧ Below w.heap.size w w') Exit.ret ⟨tmps, []⟩ w8 := by
  have hinfo : (Try.prog.info? 34).map (·.size) = some x.size := by rw [hx]; kernel_rfl
  refine bodyPost_ret (results_cell_tmp' rfl _ _ b 34 x (0, 0) _ h2 k Try.underlying34 rfl hinfo) rfl ?_
  exact ⟨by rw [h3], hb⟩
set_option maxRecDepth 100000 in
set_option maxHeartbeats 1000000 in
theorem decode_blob (s : ByteArray) (r : ByteArray) (w : World) (hs : 0 < s.size) (hb : (s[0]'hs).toNat = 1) (hne : (s.toList == []) = false) (hr : s.extract 1 s.size = r) (hsi : (s.size : Int) ≤ 65537) (hrs : (r.size : Int) ≤ 65536) :
    Calls Try.prog 20 #[.string s] w fun e w' => e = .returned (.tuple #[obj 1 r (.slice none 0 0) ⟨#[]⟩ (.slice none 0 0) 0 ⟨#[]⟩, .int .i64 0]) ∧ Below w.heap.size w w' := by
  have hs1 : (1 : Int) ≤ (s.size : Int) := by omega
  have Hr := Lib.hid hr
  clear hr
  go_enter Try.func20, Try.ntmps20
  go_wp2_with fail
  rw [Hr.out]
  refine two_blocks w 34 _ _ (fun W => Calls Try.prog 42 _ W _) ?_
  intro W0 a0 a1 hb0 hz0
  have hnew := Oct.rd_new r W0
  obtain ⟨g, hg⟩ : ∃ g, g = W0.heap.size := ⟨_, rfl⟩
  have hg1 : w.heap.size + 1 < g := by omega
  rw [← hg] at hnew
  refine hnew.mono ?_
  rintro e w1 ⟨rfl, h1, hb1⟩
  have a0 := a0.below hb1 (by omega)
  have a1 := a1.below hb1 (by omega)
  have hb0 := hb0.trans (hb1.mono (by omega))
  have d0 : w1.cell? ⟨w.heap.size + 1, 0, none⟩ = some (.int .i64 1) := a1.cell 0
  have H1 := Lib.hid (And.intro a0 (And.intro a1 (And.intro h1 hb0)))
  clear a0 a1 hb0 hb1 h1 hnew hg hz0
  go_wp2_with fail
  refine (Oct.rd_left g _ _ w1 H1.out.2.2.1).mono ?_
  rintro e w2 ⟨rfl, rfl⟩
  go_wp2_with fail
  refine (Oct.rd_take_ok g r r.size w1 H1.out.2.2.1 (Nat.le_refl _)).mono ?_
  rintro e w3 ⟨rfl, h3, hm3⟩
  have hb3 := hm3.below (Nat.le_of_lt H1.out.2.2.1.lt)
  clear hm3
  have he1 : r.extract 0 r.size = r := by simp
  have he2 : (r.extract r.size r.size).size = 0 := by simp
  rw [he1]
  generalize r.extract r.size r.size = r2 at *
  clear he1
  have a0 := H1.out.1.below hb3 (by omega)
  have a1 := H1.out.2.1.below hb3 (by omega)
  have d1 : w3.cell? ⟨w.heap.size + 1, 0, none⟩ = some (.int .i64 1) := a1.cell 0
  have d2 : w3.cell? ⟨w.heap.size + 1, 1, none⟩ = some (.string ⟨#[]⟩) := a1.cell 1
  have f2 := a1.free 1
  have a0 := a0.far (p := ⟨w.heap.size + 1, 1, none⟩) (by simp) (.string r)
  have h3 := BlkIs.far h3 (p := ⟨w.heap.size + 1, 1, none⟩) (by show g ≠ w.heap.size + 1; omega) (.string r)
  have a1 := a1.put 1 (.string r)
  simp only [List.setIfInBounds_toArray, List.set_cons_succ, List.set_cons_zero] at a1
  have hbb := (H1.out.2.2.2.trans (hb3.mono (by omega))).setCell (p := ⟨w.heap.size + 1, 1, none⟩) (by show w.heap.size ≤ w.heap.size + 1; omega) (.string r)
  obtain ⟨w4, hw4⟩ : ∃ w4, w4 = w3.setCell ⟨w.heap.size + 1, 1, none⟩ (.string r) := ⟨_, rfl⟩
  rw [← hw4] at a0 a1 h3 hbb
  have H4 := Lib.hid (And.intro a0 (And.intro a1 (And.intro h3 hbb)))
  have HW := Lib.hid hw4
  clear a0 a1 h3 hb3 d0 hbb hw4 hne hb hs1 hsi Hr hs
  go_wp2_with fail
  rw [← HW.out]
  clear HW d1 d2 f2
  have hW := Oct.rd_whole g r2 false w4 H4.out.2.2.1
  rw [show (!false && decide (r2.size = 0)) = true by simp [he2]] at hW
  clear he2
  refine hW.mono ?_
  rintro e w5 ⟨rfl, rfl⟩
  clear hW
  have hG := good_blob r (.slice none 0 0) ⟨#[]⟩ (.slice none 0 0) 0 ⟨#[]⟩ w4
  rw [decide_eq_true hrs] at hG
  have HG := Lib.hid hG
  clear hG
  have hinfo : (Try.prog.info? 34).map (·.size) = some 7 := by kernel_rfl
  have c0 : w4.cell? ⟨w.heap.size + 1, 0, none⟩ = some (.int .i64 1) := H4.out.2.1.cell 0
  have c1 : w4.cell? ⟨w.heap.size + 1, 1, none⟩ = some (.string r) := H4.out.2.1.cell 1
  have c2 : w4.cell? ⟨w.heap.size + 1, 2, none⟩ = some (.slice none 0 0) := H4.out.2.1.cell 2
  have c3 : w4.cell? ⟨w.heap.size + 1, 3, none⟩ = some (.string ⟨#[]⟩) := H4.out.2.1.cell 3
  have c4 : w4.cell? ⟨w.heap.size + 1, 4, none⟩ = some (.slice none 0 0) := H4.out.2.1.cell 4
  have c5 : w4.cell? ⟨w.heap.size + 1, 5, none⟩ = some (.int .i64 0) := H4.out.2.1.cell 5
  have c6 : w4.cell? ⟨w.heap.size + 1, 6, none⟩ = some (.string ⟨#[]⟩) := H4.out.2.1.cell 6
  go_wp2_with fail
  refine HG.out.mono ?_
  rintro e w6 ⟨rfl, hb6⟩
  have a0 := H4.out.1.below hb6 H4.out.1.lt
  have a1 := H4.out.2.1.below hb6 H4.out.2.1.lt
  have H6 := Lib.hid (And.intro a0 (And.intro a1 (H4.out.2.2.2.trans (hb6.mono H4.out.2.2.2.size))))
  clear a0 a1 hb6 HG c0 c1 c2 c3 c4 c5 c6
  have c0 : w6.cell? ⟨w.heap.size + 1, 0, none⟩ = some (.int .i64 1) := H6.out.2.1.cell 0
  have c1 : w6.cell? ⟨w.heap.size + 1, 1, none⟩ = some (.string r) := H6.out.2.1.cell 1
  have c2 : w6.cell? ⟨w.heap.size + 1, 2, none⟩ = some (.slice none 0 0) := H6.out.2.1.cell 2
  have c3 : w6.cell? ⟨w.heap.size + 1, 3, none⟩ = some (.string ⟨#[]⟩) := H6.out.2.1.cell 3
  have c4 : w6.cell? ⟨w.heap.size + 1, 4, none⟩ = some (.slice none 0 0) := H6.out.2.1.cell 4
  have c5 : w6.cell? ⟨w.heap.size + 1, 5, none⟩ = some (.int .i64 0) := H6.out.2.1.cell 5
  have c6 : w6.cell? ⟨w.heap.size + 1, 6, none⟩ = some (.string ⟨#[]⟩) := H6.out.2.1.cell 6
  have z0 : w6.cell? ⟨w.heap.size, 0, none⟩ = some (.int .i64 0) := H6.out.1.cell 0
  have f0 := H6.out.1.free 0
  have z1 : w6.cell? ⟨w.heap.size, 1, none⟩ = some (.string ⟨#[]⟩) := H6.out.1.cell 1
  have f1 := H6.out.1.free 1
  have z2 : w6.cell? ⟨w.heap.size, 2, none⟩ = some (.slice none 0 0) := H6.out.1.cell 2
  have f2 := H6.out.1.free 2
  have z3 : w6.cell? ⟨w.heap.size, 3, none⟩ = some (.string ⟨#[]⟩) := H6.out.1.cell 3
  have f3 := H6.out.1.free 3
  have z4 : w6.cell? ⟨w.heap.size, 4, none⟩ = some (.slice none 0 0) := H6.out.1.cell 4
  have f4 := H6.out.1.free 4
  have z5 : w6.cell? ⟨w.heap.size, 5, none⟩ = some (.int .i64 0) := H6.out.1.cell 5
  have f5 := H6.out.1.free 5
  have z6 : w6.cell? ⟨w.heap.size, 6, none⟩ = some (.string ⟨#[]⟩) := H6.out.1.cell 6
  have f6 := H6.out.1.free 6
  go_wp2_with fail
  have k0 := ((((((H6.out.1.put 0 (.int .i64 1)).put 1 (.string r)).put 2 (.slice none 0 0)).put 3 (.string ⟨#[]⟩)).put 4 (.slice none 0 0)).put 5 (.int .i64 0)).put 6 (.string ⟨#[]⟩)
  simp only [List.setIfInBounds_toArray, List.set_cons_succ, List.set_cons_zero] at k0
  refine dec_end w _ w.heap.size #[.int .i64 1, .string r, .slice none 0 0, .string ⟨#[]⟩, .slice none 0 0, .int .i64 0, .string ⟨#[]⟩] 0 _ (by kernel_rfl) (by kernel_rfl) rfl k0 ?_
  have g := Nat.le_refl w.heap.size
  have b := (((((((H6.out.2.2.setCell (p := ⟨w.heap.size, 0, none⟩) g (.int .i64 1)).setCell (p := ⟨w.heap.size, 1, none⟩) g (.string r)).setCell (p := ⟨w.heap.size, 2, none⟩) g (.slice none 0 0)).setCell (p := ⟨w.heap.size, 3, none⟩) g (.string ⟨#[]⟩)).setCell (p := ⟨w.heap.size, 4, none⟩) g (.slice none 0 0)).setCell (p := ⟨w.heap.size, 5, none⟩) g (.int .i64 0)).setCell (p := ⟨w.heap.size, 6, none⟩) g (.string ⟨#[]⟩))
  exact b
end Go.Proofs.Ytmdchfmcghiaeaa.Obj
