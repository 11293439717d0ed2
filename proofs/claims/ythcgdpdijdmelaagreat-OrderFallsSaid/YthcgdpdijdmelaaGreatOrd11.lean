/- order's isRight and the reference's right, walked. Conditions: the book as a map, the facts' parents readable and in it. (Layer 11.) -/
import Derived.Test.YthcgdpdijdmelaaGreatOrd10
namespace Go.Proofs.YthcgdpdijdmelaaGreat.Ord
set_option linter.unusedVariables false
open Go.RowKit Go.Sort Go.Lib
open Go.Proofs.YthcgdpdijdmelaaGreat.Obj (most IntsAt icells icells_snoc height)
theorem el_int : ElemOk Tryz.prog 52 3 1 8 := ElemOk.mk' (z := .int .i64 0) Tryz.underlying52 (by kernel_rfl) rfl
theorem run_field_h (y : Fv) (w : World) : (Instr.field 28 (.agg #[.string y.id, .int .i64 y.h, .slice y.pa y.np y.pc]) 1).run Tryz.prog w = .ok (.int .i64 y.h) w := by
  simp [Instr.field, run_underlying Tryz.underlying28, asAgg, part, isAgg, run_underlying Tryz.underlying3]
/-- A field of a struct that is a value. -/
theorem wpList_field_to {P : Program} {ops : Array Oper} {rest : List Oper} {o : Oper} {a : Act} {w : World} {Q : Exit → Act → World → Prop} (hgd : o.guard = none) (t : TypeId) (x : Operand) (i : Nat) (hop : o.op = Op.field t x i)
    {xv v : Value} (hx : a.eval x = xv) (hrun : (Instr.field t xv i).run P w = .ok v w) (hK : wpList P ops Q rest (a.put o.dst v) w) : wpList P ops Q (o :: rest) a w := by
  refine wpList_plain hgd fun K' hK' => ?_
  unfold Oper.wp
  simp [execOp, hop, hx, hrun, Result.andThen]
  exact hK' _ _ (by simpa using hK)
/-- The heights of a fact's parents. -/
def parH (n : Nat) (f : Nat → Fv) (x : Fv) (k : Nat) : Int := (f (place f (x.p k) n)).h
theorem rightH_val (n : Nat) (f : Nat → Fv) (x : Fv) : rightH n f x = if x.np = 0 then 0 else wrap64 (most (parH n f x) (x.np - 1) + 1) := rfl
set_option maxRecDepth 100000 in
theorem isRight_any (n : Nat) (f : Nat → Fv) (g : Nat) (x : Fv) (w : World) (hd : Dist n f) (hb : SMap w g (bookL n f)) (hst : StrsAt w x.pa x.np x.p) (hp : ∀ k, k < x.np → Here n f (x.p k)) (hnp : x.np ≤ 1000000) :
    Calls Tryz.prog 23 #[.map (some g), .agg #[.string x.id, .int .i64 x.h, .slice x.pa x.np x.pc]] w fun e w' => e = .returned (.bool (decide (x.h = rightH n f x))) ∧ Below w.heap.size w w' := by
  obtain ⟨hh, hhh⟩ : ∃ hh, hh = parH n f x := ⟨_, rfl⟩
  have HF := Lib.hid (fun k (hk : k < x.np) => show ∃ c j, findAt (bookL n f) (x.p k) 0 = some (c, aggF (f j)) ∧ (f j).h = hh k from by
    have h1 := place_here.2 (hp k hk)
    obtain ⟨c, hc⟩ := book_some hd h1
    rw [place_at f _ n h1] at hc
    exact ⟨c, _, hc, by rw [hhh]; rfl⟩)
  obtain ⟨r, hr⟩ : ∃ r, r = rightH n f x := ⟨_, rfl⟩
  rw [rightH_val, ← hhh] at hr
  rw [← show r = rightH n f x by rw [hr, hhh]; rfl]
  obtain ⟨i, h, pa, np, pc, p⟩ := x
  simp only at HF hr hst hnp hp ⊢
  have HB := Lib.hid (And.intro hb hst)
  have hgw := hb.lt
  have hm := hst.1
  have hz := Tryz.zeroValue28
  have hu := Tryz.underlying58
  have hs := Tryz.underlying9
  have C := Lib.hid (fun ao cap (wx : World) (h : IntsAt wx ao np hh) => by have := height ao np cap hh wx h; rw [← hr] at this; exact this)
  obtain ⟨bb, hbb⟩ : ∃ bb, bb = decide (h = r) := ⟨_, rfl⟩
  rw [← hbb]
  have hbb' : (h == r) = bb := by rw [hbb]; by_cases e : h = r <;> simp [e]
  clear hd hb hst hp hr hhh hbb
  have H0 := Lib.hid (show BlkIs (w.alloc (.cells #[.string i, .int .i64 h, .slice pa np pc] 28)) w.heap.size 28 #[.string i, .int .i64 h, .slice pa np pc] ∧ Below w.heap.size w (w.alloc (.cells #[.string i, .int .i64 h, .slice pa np pc] 28)) from
    ⟨BlkIs.new _ _ _, (Below.refl _ _).alloc (Nat.le_refl _) _⟩)
  go_enter Tryz.func23, Tryz.ntmps23
  go_wp2_with fail
  obtain ⟨W, hW⟩ : ∃ W, W = w.alloc (.cells #[.string i, .int .i64 h, .slice pa np pc] 28) := ⟨_, rfl⟩
  rw [← hW] at H0 ⊢
  clear hW
  go_loopw [5, 11] (fun v c wr => ∃ k : Nat, c = .int .i64 (k : Int) ∧ k ≤ np ∧ Hid (SlIs wr w.heap.size 3 1 v k (icells hh k) ∧ BlkIs wr w.heap.size 28 #[.string i, .int .i64 h, .slice pa np pc] ∧ Below w.heap.size w wr)) (fun _ c _ => ((np : Int) - intOf c).toNat)
  case atStart => exact ⟨0, rfl, by omega, Lib.hid ⟨SlIs.nil_ _ _ _ _, H0.out⟩⟩
  case round =>
    obtain ⟨k, rfl, hk, HR⟩ := hrel
    have hbw := HR.out.2.2.size
    rcases Nat.lt_or_ge k np with hk1 | hk1
    · obtain ⟨b, off, rfl, hlt, hcell⟩ := HB.out.2.2 (by omega)
      have c0 := hcell k hk1
      rw [← HR.out.2.2.cell hlt] at c0
      have ki : (k : Int) < np := by omega
      obtain ⟨c, j, hc, hj⟩ := HF.out k hk1
      have V := Lib.hid (lookF_some (.agg #[.string ⟨#[]⟩, .int .i64 0, .slice none 0 0]) hc)
      obtain ⟨y, hy⟩ : ∃ y, y = f j := ⟨_, rfl⟩
      rw [← hy] at V hj
      unfold aggF at V
      have HJ := Lib.hid hj
      obtain ⟨q, hq⟩ : ∃ q, q = p k := ⟨_, rfl⟩
      rw [← hq] at V c0
      obtain ⟨ao1, cap1, rfl, hnc1, hcm1, hao1⟩ := HR.out.1.form
      clear hcell hc hj hy hq
      go_wp2_with (first
        | (at_lookup; refine wpList_lookup_one rfl _ _ rfl hu hs (hz _) rfl (HB.out.1.below HR.out.2.2 hgw) q rfl V.out ?_)
        | (refine wpList_field_to rfl _ _ _ rfl rfl (run_field_h y _) ?_)
        | (at_builtin
           refine wpList_append_sl rfl _ _ _ 52 rfl el_int (.slice ao1 k cap1) k (icells hh k) rfl (HR.out.1.alloc _) _ 1 [.int .i64 y.h] rfl (SrcIs.own Tryz.underlying52 (SlIs.made (base := 0) (BlkIs.new _ _ _) (Nat.zero_le _) rfl (by decide))) (by intro u hu; rcases List.mem_singleton.1 hu with rfl; rfl) (by unfold maxLen; omega) (by omega) (by simp only [World.size_alloc]; omega) ?_
           intro v1 w3 hs1 hg1 hat1
           have hb3 := (HR.out.2.2.alloc hbw (.cells #[.int .i64 y.h] 3)).grown hg1 (by simp only [World.size_alloc]; omega) fun j hj => (HR.out.1.lt j hj).1
           have hk3 := (HR.out.2.1.alloc (.cells #[.int .i64 y.h] 3)).grown hg1 (Ne.symm (HR.out.1.ne_blk HR.out.2.1 (by decide)))
           rw [HJ.out, icells_snoc] at hs1
           have H3 := Lib.hid (And.intro hs1 (And.intro hk3 hb3))
           clear hs1 hb3 hk3 hg1 hat1 hao1))
      refine ⟨⟨k + 1, rfl, hk1, H3⟩, ?_⟩
      simp [intOf]
      omega
    · have ki : (np : Int) ≤ (k : Int) := by omega
      obtain rfl : k = np := by omega
      obtain ⟨ao1, cap1, rfl, hI⟩ := IntsAt.own HR.out.1
      have HI := Lib.hid (fun u : LaterOf wr => hI.later u.h)
      have e0 : ∀ u : LaterOf wr, u.w.cell? ⟨w.heap.size, 1, none⟩ = some (.int .i64 h) := fun u => (u.blk HR.out.2.1).cell 1
      clear hI
      go_upto_region 7 with (fail)
      refine wp_region_all (fun w' => ∃ u : LaterOf wr, w' = u.w) (by kernel_rfl) (by kernel_rfl) ⟨LaterOf.start wr, rfl⟩ ?_
      repeat (go_big_quiet_step (first | exact LaterOf.call_same _ (C.out _ _ _ (HI.out _))))
      refine wpQuiet_nil ?_
      intro w8 hw8
      obtain ⟨u, rfl⟩ := hw8
      clear C e0
      go_wp2_with fail
      go_ret
      exact ⟨rfl, HR.out.2.2.trans (u.h.mono HR.out.2.2.size)⟩
end Go.Proofs.YthcgdpdijdmelaaGreat.Ord
