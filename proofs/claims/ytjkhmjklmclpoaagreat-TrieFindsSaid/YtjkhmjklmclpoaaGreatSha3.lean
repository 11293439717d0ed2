/- What (*sha.Hash).Add does, walked. -/
import Derived.Test.YtjkhmjklmclpoaaGreatSha2
import Derived.Test.YtjkhmjklmclpoaaGreatSlice
import Derived.Test.YtjkhmjklmclpoaaGreatRegion
import Derived.BigQuiet
namespace Go.Proofs.YtjkhmjklmclpoaaGreat.Sha
open Go.RowKit
/-- A Hash in memory: the state, the rest, the count. -/
def hcells (s : St) (v : Value) (cnt : Int) : Array Value := #[.int .u32 s.a, .int .u32 s.b, .int .u32 s.c, .int .u32 s.d, .int .u32 s.e, .int .u32 s.f, .int .u32 s.g, .int .u32 s.h, v, .int .u64 cnt]
theorem el_u8 : ElemOk Tryz.prog 40 5 1 1 := ElemOk.mk' Tryz.underlying40 (z := .int .u8 0) (by kernel_rfl) rfl
theorem hash_part (z z' : St) (v : Value) (c : Int) (j : Nat) : (hcells z' v c)[j]? = if 0 ≤ j ∧ j < 0 + (nums .u32 z'.cells).size then (nums .u32 z'.cells)[j - 0]? else (hcells z v c)[j]? := by
  have h8 : (nums .u32 z'.cells).size = 8 := rfl
  rw [h8]
  by_cases hj : j < 8
  · rw [if_pos (by omega)]
    have : j = 0 ∨ j = 1 ∨ j = 2 ∨ j = 3 ∨ j = 4 ∨ j = 5 ∨ j = 6 ∨ j = 7 := by omega
    rcases this with rfl | rfl | rfl | rfl | rfl | rfl | rfl | rfl <;> rfl
  · rw [if_neg (by omega)]
    by_cases h10 : j < 10
    · have : j = 8 ∨ j = 9 := by omega
      rcases this with rfl | rfl <;> rfl
    · rw [Array.getElem?_eq_none (by show 10 ≤ j; omega), Array.getElem?_eq_none (by show 10 ≤ j; omega)]
/-- The length of the slice in a cell. -/
def lenAt : Option Value → Nat
  | some (.slice _ n _) => n
  | _ => 0
set_option maxHeartbeats 400000 in
theorem add_any (g B : Nat) (s : ByteArray) (st : St) (v : Value) (l : List UInt8) (cnt : Int) (w : World)
    (hst : st.isW) (hblk : BlkIs w g 106 (hcells st v cnt)) (hsl : SlIs w B 5 1 v l.length (bcells l)) (hBg : B ≤ g) (hc0 : 0 ≤ cnt) (hc1 : cnt + s.size ≤ 9223372036854775807) (hl : l.length + s.size ≤ 140737488355328) :
    Calls Tryz.prog 54 #[.pointer (some ⟨g, 0, none⟩), .string s] w fun e w' => e = .returned (.tuple #[]) ∧
      ∃ v', BlkIs w' g 106 (hcells (absorb (l.length + s.size) st (l ++ s.data.toList)).1 v' (cnt + s.size)) ∧
        SlIs w' B 5 1 v' (absorb (l.length + s.size) st (l ++ s.data.toList)).2.length (bcells (absorb (l.length + s.size) st (l ++ s.data.toList)).2) ∧ Below B w w' := by
  obtain ⟨ao, cap, rfl, hnc, hcm, hao⟩ := hsl.form
  have d8 := hblk.cell 8
  have d9 := hblk.cell 9
  simp [hcells] at d8 d9
  have f8 := hblk.free 8
  have f9 := hblk.free 9
  have hne : (Value.slice ao l.length cap).ownBlock ≠ some g := hsl.ne_blk hblk (by decide)
  have hsl1 : SlIs (w.setCell ⟨g, 9, none⟩ (.int .u64 (cnt + s.size))) B 5 1 (.slice ao l.length cap) l.length (bcells l) := hsl.far hne _
  have hblk1 : BlkIs (w.setCell ⟨g, 9, none⟩ (.int .u64 (cnt + s.size))) g 106 (hcells st (.slice ao l.length cap) (cnt + s.size)) := by
    have := hblk.put 9 (.int .u64 (cnt + s.size)); simpa [hcells] using this
  have hbe1 : Below B w (w.setCell ⟨g, 9, none⟩ (.int .u64 (cnt + s.size))) := (Below.refl _ _).setCell (p := ⟨g, 9, none⟩) hBg _
  have hBw : B ≤ (w.setCell ⟨g, 9, none⟩ (.int .u64 (cnt + s.size))).heap.size := by have := hblk1.lt; omega
  have hb63 : l.length + s.size ≤ maxLen := by unfold maxLen; omega
  have hb47 : (l.length + s.size) * 1 ≤ 140737488355328 := by omega
  have H1 := Lib.hid (And.intro hsl1 (And.intro hblk1 (And.intro hbe1 (And.intro hBw (And.intro hb63 hb47)))))
  have Hne := Lib.hid hne
  clear hblk hsl hne hsl1 hblk1 hbe1 hBw hb63 hb47 hao
  have Hst := Lib.hid hst; clear hst
  go_enter Tryz.func54, Tryz.ntmps54
  go_wp2_with (first
    | (at_builtin
       refine wpList_append_sl rfl _ _ _ 9 rfl el_u8 (.slice ao l.length cap) l.length (bcells l) rfl H1.out.1 (.string s) s.size (bcells s.data.toList) rfl (SrcIs.string Tryz.underlying9 _ s) (bcells_one _) H1.out.2.2.2.2.1 H1.out.2.2.2.2.2 H1.out.2.2.2.1 ?_
       intro v1 w1 hs1 hg1 hat1
       obtain ⟨ao1, cap1, rfl, hnc1, hcm1, hao1⟩ := hs1.form
       have hb1 := H1.out.2.1.grown hg1 (Ne.symm Hne.out)
       have e8 : w1.cell? ⟨g, 8, none⟩ = some (Value.slice ao l.length cap) := hb1.cell 8
       have k8 : w1.frozen? ⟨g, 8, none⟩ = false := hb1.free 8
       have H2 := Lib.hid (And.intro hs1 (And.intro hg1 (And.intro hat1 hb1)))
       clear hs1 hg1 hat1 hb1 hao1))
  obtain ⟨w2, hw2⟩ : ∃ w2, w2 = w1.setCell ⟨g, 8, none⟩ (.slice ao1 (l.length + s.size) cap1) := ⟨_, rfl⟩
  have hb2 : BlkIs w2 g 106 (hcells st (.slice ao1 (l.length + s.size) cap1) (cnt + s.size)) := by
    have := H2.out.2.2.2.put 8 (.slice ao1 (l.length + s.size) cap1); rw [hw2]; simpa [hcells] using this
  have hs2 : SlIs w2 B 5 1 (.slice ao1 (l.length + s.size) cap1) (l.length + s.size) (bcells (l ++ s.data.toList)) := by
    rw [hw2, ← bcells_append]; exact H2.out.1.far (H2.out.1.ne_blk H2.out.2.2.2 (by decide)) _
  have hg2 : Below B w w2 := by
    rw [hw2]
    refine (H1.out.2.2.1.grown H2.out.2.1 H1.out.2.2.2.1 fun k hk => (H1.out.1.lt k hk).1).setCell (p := ⟨g, 8, none⟩) hBg _
  have H3 := Lib.hid (And.intro hb2 (And.intro hs2 hg2))
  clear hb2 hs2 hg2
  rw [← hw2]
  clear hw2 H2 H1 d8 d9 f8 f9 e8 k8
  obtain ⟨L, hL⟩ : ∃ L, L = l ++ s.data.toList := ⟨_, rfl⟩
  obtain ⟨N, hN⟩ : ∃ N, N = l.length + s.size := ⟨_, rfl⟩
  have hLN : L.length = N := by rw [hL, hN, List.length_append]; rfl
  rw [← hL, ← hN] at H3
  have HL := Lib.hid (And.intro hL (And.intro hN hLN))
  rw [← hN] at hl
  clear hL hN hLN
  go_loopw [25] (fun _ wr => ∃ (f : Nat) (z : St) (m : List UInt8) (v : Value), m.length ≤ f ∧ m.length ≤ N ∧ absorb f z m = absorb N st L ∧ z.isW ∧ BlkIs wr g 106 (hcells z v (cnt + s.size)) ∧ SlIs wr B 5 1 v m.length (bcells m) ∧ Below B w wr) (fun _ wr => lenAt (wr.cell? ⟨g, 8, none⟩))
  case atStart =>
    refine ⟨N, st, L, .slice ao1 N cap1, by rw [HL.out.2.2]; omega, by rw [HL.out.2.2]; omega, rfl, Hst.out, H3.out.1, ?_, H3.out.2.2⟩
    rw [HL.out.2.2]; exact H3.out.2.1
  case round =>
    obtain ⟨f, z, m, v, hmf, hmN, habs, hzw, hblk, hsl, hbe⟩ := hrel
    obtain ⟨ao2, cap2, rfl, hnc2, hcm2, hao2⟩ := hsl.form
    clear hao2
    obtain ⟨z1, z2, z3, z4, z5, z6, z7, z8⟩ := z
    have d8 : wr.cell? ⟨g, 8, none⟩ = some (.slice ao2 m.length cap2) := hblk.cell 8
    have hmi : (m.length : Int) ≤ 140737488355328 := by omega
    by_cases h64 : 64 ≤ m.length
    · have h1 : (64 : Int) ≤ (m.length : Int) := by omega
      obtain ⟨b, off, cap3, hv3, hbB, hbw, hnc3, hcm3, hcell, hfree⟩ := hsl.at_ (by omega)
      injection hv3 with e1 _ e3
      subst e1 e3
      have x0 : ∀ x : LaterOf wr, x.w.cell? ⟨g, 0, none⟩ = some (.int .u32 z1) := fun x => (x.blk hblk).cell 0
      have x1 : ∀ x : LaterOf wr, x.w.cell? ⟨g, 1, none⟩ = some (.int .u32 z2) := fun x => (x.blk hblk).cell 1
      have x2 : ∀ x : LaterOf wr, x.w.cell? ⟨g, 2, none⟩ = some (.int .u32 z3) := fun x => (x.blk hblk).cell 2
      have x3 : ∀ x : LaterOf wr, x.w.cell? ⟨g, 3, none⟩ = some (.int .u32 z4) := fun x => (x.blk hblk).cell 3
      have x4 : ∀ x : LaterOf wr, x.w.cell? ⟨g, 4, none⟩ = some (.int .u32 z5) := fun x => (x.blk hblk).cell 4
      have x5 : ∀ x : LaterOf wr, x.w.cell? ⟨g, 5, none⟩ = some (.int .u32 z6) := fun x => (x.blk hblk).cell 5
      have x6 : ∀ x : LaterOf wr, x.w.cell? ⟨g, 6, none⟩ = some (.int .u32 z7) := fun x => (x.blk hblk).cell 6
      have x7 : ∀ x : LaterOf wr, x.w.cell? ⟨g, 7, none⟩ = some (.int .u32 z8) := fun x => (x.blk hblk).cell 7
      have x8 : ∀ x : LaterOf wr, x.w.cell? ⟨g, 8, none⟩ = some (.slice (some ⟨b, off, none⟩) m.length cap2) := fun x => (x.blk hblk).cell 8
      have hmix : ∀ x : LaterOf wr, Calls Tryz.prog 80 #[.agg (nums .u32 (St.mk z1 z2 z3 z4 z5 z6 z7 z8).cells), .slice (some ⟨b, off, none⟩) 64 cap2] x.w fun e w' => e = .returned (.agg (nums .u32 (mix ⟨z1, z2, z3, z4, z5, z6, z7, z8⟩ (ib (m.take 64))).cells)) ∧ Below x.w.heap.size x.w w' := fun x =>
        mix_any ⟨z1, z2, z3, z4, z5, z6, z7, z8⟩ b off cap2 x.w (ib (m.take 64)) hzw (by rw [ib_length, List.length_take]; omega) (by omega) (by unfold maxLen at hcm2; omega) (by have := x.h.size; omega) (ib_isB _) fun j hj => by
          rw [x.h.cell (p := ⟨b, off + j, none⟩) hbw, hcell j (by rw [bcells_length]; omega)]
          simp only [bcells, ib, List.getD, List.getElem?_map, List.getElem?_take, if_pos hj]
          rw [List.getElem?_eq_getElem (by omega)]; rfl
      have Hmix := Lib.hid hmix; clear hmix
      have H4 := Lib.hid (And.intro hblk (And.intro hsl (And.intro hbe (And.intro hzw (And.intro habs (And.intro hcell hmf))))))
      clear hblk hsl hbe hzw habs hcell hmf hfree
      go_wp2
      refine wp_region_heads (fun w' => ∃ x : LaterOf wr, w' = x.w) 13 (by kernel_rfl) (by kernel_rfl) ⟨LaterOf.start wr, rfl⟩ ?_
      simp only [List.take_succ_cons, List.take_zero, List.drop_succ_cons, List.drop_zero]
      repeat (go_big_quiet_step (exact LaterOf.call _ (Hmix.out _)))
      refine wpQuiet_nil ?_
      intro w3 hw3
      obtain ⟨x, rfl⟩ := hw3
      have hb5 := x.blk H4.out.1
      obtain ⟨w3, hx3⟩ := x
      clear x0 x1 x2 x3 x4 x5 x6 x7 x8
      have hi62 : (Tryz.prog.info? 102).map (·.size) = some (nums .u32 (mix ⟨z1, z2, z3, z4, z5, z6, z7, z8⟩ (ib (m.take 64))).cells).size := by kernel_rfl
      refine wpList_store_part_to rfl 102 _ _ rfl g 0 (nums .u32 (mix ⟨z1, z2, z3, z4, z5, z6, z7, z8⟩ (ib (m.take 64))).cells) rfl rfl 106 _ (hcells (mix ⟨z1, z2, z3, z4, z5, z6, z7, z8⟩ (ib (m.take 64))) (.slice (some ⟨b, off, none⟩) m.length cap2) (cnt + s.size)) hb5 hi62 (show 0 + 8 ≤ 10 by omega) (nums_one _ _) (hash_part _ _ _ _) ?_
      intro w4 hb6 hg6
      have y8 : w4.cell? ⟨g, 8, none⟩ = some (.slice (some ⟨b, off, none⟩) m.length cap2) := hb6.cell 8
      have k8 : w4.frozen? ⟨g, 8, none⟩ = false := hb6.free 8
      have hsl4 : SlIs w4 B 5 1 (.slice (some ⟨b, off, none⟩) m.length cap2) m.length (bcells m) :=
        (H4.out.2.1.later hx3).kept hg6 (.inr (H4.out.2.1.ne_blk H4.out.1 (by decide)))
      have hcut := hsl4.cut (lo := 64) (hi := m.length) h64 (Nat.le_refl _)
      have hne4 : ∀ (ao : Option Addr) (n c : Nat), SlIs w4 B 5 1 (.slice ao n c) n (bcells (m.drop 64)) → (Value.slice ao n c).ownBlock ≠ some g := fun ao n c h => h.ne_blk hb6 (by decide)
      have hbe4 : Below B w w4 := (H4.out.2.2.1.trans (hx3.mono (by have := H4.out.2.2.1.size; have := H4.out.1.lt; omega))).trans (grown_below hg6 hBg (by have := hb6.lt; have := hx3.size; have := H4.out.1.lt; omega))
      have hput : ∀ v, BlkIs (w4.setCell ⟨g, 8, none⟩ v) g 106 (hcells (mix ⟨z1, z2, z3, z4, z5, z6, z7, z8⟩ (ib (m.take 64))) v (cnt + s.size)) := fun v => by
        have := hb6.put 8 v; simpa [hcells] using this
      have e1 : (bcells m).drop 64 = bcells (m.drop 64) := by simp [bcells, List.map_drop]
      simp only [Nat.mul_one, e1] at hcut
      rw [List.take_of_length_le (by rw [bcells_length, List.length_drop]; omega)] at hcut
      have H6 := Lib.hid (And.intro hcut (And.intro hne4 (And.intro hbe4 hput)))
      have Hd8 := Lib.hid d8
      clear hcut hne4 hbe4 hput hsl4 hb6 hg6 hx3 hb5 hi62 d8 e1
      have hf1 : f = (f - 1) + 1 := by have := H4.out.2.2.2.2.2.2; omega
      have hstep : absorb (f - 1) (mix ⟨z1, z2, z3, z4, z5, z6, z7, z8⟩ (ib (m.take 64))) (m.drop 64) = absorb N st L := by
        rw [← H4.out.2.2.2.2.1, hf1, absorb_step _ _ _ h64]; rfl
      have hmf1 : (m.drop 64).length ≤ f - 1 := by have := H4.out.2.2.2.2.2.2; rw [List.length_drop]; omega
      have H8 := Lib.hid (And.intro hstep hmf1)
      clear hstep hmf1 hf1
      by_cases hcap : cap2 = 64
      · subst hcap
        have hcut := H6.out.1
        have hz0 : m.length - 64 = 0 := by omega
        rw [if_pos rfl, hz0, Nat.sub_self] at hcut
        have Hcut := Lib.hid hcut; clear hcut
        go_wp2
        go_roundw
        case rel =>
          refine ⟨f - 1, mix ⟨z1, z2, z3, z4, z5, z6, z7, z8⟩ (ib (m.take 64)), m.drop 64, .slice (some ⟨b, off, none⟩) 0 0, H8.out.2, by rw [List.length_drop]; omega, H8.out.1, mix_isW _ _, H6.out.2.2.2 _, ?_, H6.out.2.2.1.setCell (p := ⟨g, 8, none⟩) hBg _⟩
          rw [List.length_drop, hz0]
          exact Hcut.out.far (H6.out.2.1 _ _ _ Hcut.out) _
        case measure =>
          rw [((H6.out.2.2.2 _).cell 8 : _ = some (Value.slice (some ⟨b, off, none⟩) 0 0)), Hd8.out]
          show 0 < m.length
          omega
      · have hcut := H6.out.1
        rw [if_neg hcap, Option.map_some, Addr.add_lit] at hcut
        have Hcut := Lib.hid hcut; clear hcut
        go_wp2
        go_roundw
        case rel =>
          refine ⟨f - 1, mix ⟨z1, z2, z3, z4, z5, z6, z7, z8⟩ (ib (m.take 64)), m.drop 64, .slice (some ⟨b, off + 64, none⟩) (m.length - 64) (cap2 - 64), H8.out.2, by rw [List.length_drop]; omega, H8.out.1, mix_isW _ _, H6.out.2.2.2 _, ?_, H6.out.2.2.1.setCell (p := ⟨g, 8, none⟩) hBg _⟩
          rw [List.length_drop]
          exact Hcut.out.far (H6.out.2.1 _ _ _ Hcut.out) _
        case measure =>
          rw [((H6.out.2.2.2 _).cell 8 : _ = some (Value.slice (some ⟨b, off + 64, none⟩) (m.length - 64) (cap2 - 64))), Hd8.out]
          show m.length - 64 < m.length
          omega
    · have h1 : ¬ ((64 : Int) ≤ (m.length : Int)) := by omega
      have H4 := Lib.hid (And.intro hblk (And.intro hsl (And.intro hbe habs)))
      clear hblk hsl hbe hzw habs
      go_wp2
      go_end0
      refine ⟨rfl, ?_⟩
      have e := H4.out.2.2.2
      rw [absorb_small _ _ _ (by omega)] at e
      rw [← HL.out.1, ← HL.out.2.1, ← e]
      exact ⟨_, H4.out.1, H4.out.2.1, H4.out.2.2.1⟩
end Go.Proofs.YtjkhmjklmclpoaaGreat.Sha
