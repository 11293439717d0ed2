/- The reference's right, walked. Conditions: the facts readable, the parents among them. (Layer 11.) -/
import Derived.Test.YthcgdpdijdmelaaOrd11
namespace Go.Proofs.Ythcgdpdijdmelaa.Ord
set_option linter.unusedVariables false
open Go.RowKit Go.Sort Go.Lib
open Go.Proofs.Ythcgdpdijdmelaa.Obj (most IntsAt icells icells_snoc height ref_height)
set_option maxRecDepth 100000 in
theorem right_any (ao : Option Addr) (n cap : Nat) (f : Nat → Fv) (x : Fv) (w : World) (hF : FactsAt w ao n f) (hst : StrsAt w x.pa x.np x.p) (hp : ∀ k, k < x.np → Here n f (x.p k)) (hnp : x.np ≤ 1000000) :
    Calls Try.prog 37 #[.slice ao n cap, .agg #[.string x.id, .int .i64 x.h, .slice x.pa x.np x.pc]] w fun e w' => e = .returned (.bool (decide (x.h = rightH n f x))) ∧ Below w.heap.size w w' := by
  obtain ⟨hh, hhh⟩ : ∃ hh, hh = parH n f x := ⟨_, rfl⟩
  have HP := Lib.hid (fun k (hk : k < x.np) => show ∃ j, j < n ∧ placeV f n (x.p k) = (j : Int) ∧ (f j).h = hh k from by
    have h1 := place_here.2 (hp k hk)
    exact ⟨_, h1, by unfold placeV; rw [if_pos h1], by rw [hhh]; rfl⟩)
  obtain ⟨r, hr⟩ : ∃ r, r = rightH n f x := ⟨_, rfl⟩
  rw [rightH_val, ← hhh] at hr
  rw [← show r = rightH n f x by rw [hr, hhh]; rfl]
  obtain ⟨i, h, pa, np, pc, p⟩ := x
  simp only at HP hr hst hnp hp ⊢
  have HB := Lib.hid (And.intro hF hst)
  have hm := hst.1
  have hmn := hF.1
  have C := Lib.hid (fun ao cap (wx : World) (h : IntsAt wx ao np hh) => by have := ref_height ao np cap hh wx h; rw [← hr] at this; exact this)
  obtain ⟨bb, hbb⟩ : ∃ bb, bb = decide (h = r) := ⟨_, rfl⟩
  rw [← hbb]
  have hbb' : (h == r) = bb := by rw [hbb]; by_cases e : h = r <;> simp [e]
  clear hF hst hp hr hhh hbb
  have H0 := Lib.hid (show ∃ W, W = (w.alloc (.cells #[.string i, .int .i64 h, .slice pa np pc] 24)).alloc (.cells #[] 3) ∧ BlkIs W w.heap.size 24 #[.string i, .int .i64 h, .slice pa np pc] ∧ Below w.heap.size w W ∧ SlIs W w.heap.size 3 1 (.slice (some ⟨w.heap.size + 1, 0, none⟩) 0 0) 0 (icells hh 0) from
    ⟨_, rfl, (BlkIs.new _ _ _).alloc _, ((Below.refl _ _).alloc (Nat.le_refl _) _).alloc (by simp) _, SlIs.made (BlkIs.new2 _ _ _ _) (by omega) rfl (by decide)⟩)
  go_enter Try.func37, Try.ntmps37
  go_wp2_with fail
  obtain ⟨W, hW, H0⟩ := H0.out
  rw [← hW]
  have H0 := Lib.hid H0
  clear hW
  go_loopw [5, 6] (fun v c wr => ∃ k : Nat, c = .int .i64 (k : Int) ∧ k ≤ np ∧ Hid (SlIs wr w.heap.size 3 1 v k (icells hh k) ∧ BlkIs wr w.heap.size 24 #[.string i, .int .i64 h, .slice pa np pc] ∧ Below w.heap.size w wr)) (fun _ c _ => ((np : Int) - intOf c).toNat)
  case atStart => exact ⟨0, rfl, by omega, Lib.hid ⟨H0.out.2.2, H0.out.1, H0.out.2.1⟩⟩
  case round =>
    obtain ⟨k, rfl, hk, HR⟩ := hrel
    have hbw := HR.out.2.2.size
    have d2 : wr.cell? ⟨w.heap.size, 2, none⟩ = some (.slice pa np pc) := HR.out.2.1.cell 2
    rcases Nat.lt_or_ge k np with hk1 | hk1
    · obtain ⟨b, off, rfl, hlt, hcell⟩ := HB.out.2.2 (by omega)
      have c0 := hcell k hk1
      rw [← HR.out.2.2.cell hlt] at c0
      have ki : (k : Int) < np := by omega
      obtain ⟨j, hj, hpl, hjh⟩ := HP.out k hk1
      obtain ⟨bf, off', rfl, hlt', hcell'⟩ := HB.out.1.2.1 (by omega)
      have c1 := (hcell' j hj).2.1
      rw [← HR.out.2.2.cell hlt'] at c1
      have P := Lib.hid (place_any (some ⟨bf, off', none⟩) n cap f (p k) wr (HB.out.1.later (HR.out.2.2.mono (Nat.le_refl _))))
      obtain ⟨y, hy⟩ : ∃ y, y = f j := ⟨_, rfl⟩
      rw [← hy] at c1 hjh
      have HJ := Lib.hid hjh
      obtain ⟨q, hq⟩ : ∃ q, q = p k := ⟨_, rfl⟩
      rw [← hq] at c0 P hpl
      rw [hpl] at P
      have ji : (j : Int) < n := by omega
      obtain ⟨ao1, cap1, rfl, hnc1, hcm1, hao1⟩ := HR.out.1.form
      clear hcell hcell' hjh hy hq hpl
      go_wp2_with fail
      refine P.out.mono ?_
      rintro e w1 ⟨rfl, rfl⟩
      clear P
      go_wp2_with (at_builtin
                   refine wpList_append_sl rfl _ _ _ 68 rfl el_int (.slice ao1 k cap1) k (icells hh k) rfl (HR.out.1.alloc _) _ 1 [.int .i64 y.h] rfl (SrcIs.own Try.underlying68 (SlIs.made (base := 0) (BlkIs.new _ _ _) (Nat.zero_le _) rfl (by decide))) (by intro u hu; rcases List.mem_singleton.1 hu with rfl; rfl) (by unfold maxLen; omega) (by omega) (by simp only [World.size_alloc]; omega) ?_
                   intro v1 w3 hs1 hg1 hat1
                   have hb3 := (HR.out.2.2.alloc hbw (.cells #[.int .i64 y.h] 3)).grown hg1 (by simp only [World.size_alloc]; omega) fun j hj => (HR.out.1.lt j hj).1
                   have hk3 := (HR.out.2.1.alloc (.cells #[.int .i64 y.h] 3)).grown hg1 (Ne.symm (HR.out.1.ne_blk HR.out.2.1 (by decide)))
                   rw [HJ.out, icells_snoc] at hs1
                   have H3 := Lib.hid (And.intro hs1 (And.intro hk3 hb3))
                   clear hs1 hb3 hk3 hg1 hat1 hao1)
      refine ⟨⟨k + 1, rfl, hk1, H3⟩, ?_⟩
      simp [intOf]
      omega
    · have ki : (np : Int) ≤ (k : Int) := by omega
      obtain rfl : k = np := by omega
      obtain ⟨ao1, cap1, rfl, hI⟩ := IntsAt.own HR.out.1
      have HI := Lib.hid (fun u : LaterOf wr => hI.later u.h)
      have e0 : ∀ u : LaterOf wr, u.w.cell? ⟨w.heap.size, 1, none⟩ = some (.int .i64 h) := fun u => (u.blk HR.out.2.1).cell 1
      clear hI
      go_upto_region 6 with (fail)
      refine wp_region_all (fun w' => ∃ u : LaterOf wr, w' = u.w) (by kernel_rfl) (by kernel_rfl) ⟨LaterOf.start wr, rfl⟩ ?_
      repeat (go_big_quiet_step (first | exact LaterOf.call_same _ (C.out _ _ _ (HI.out _))))
      refine wpQuiet_nil ?_
      intro w8 hw8
      obtain ⟨u, rfl⟩ := hw8
      clear C e0
      go_wp2_with fail
      go_ret
      exact ⟨rfl, HR.out.2.2.trans (u.h.mono HR.out.2.2.size)⟩
end Go.Proofs.Ythcgdpdijdmelaa.Ord
