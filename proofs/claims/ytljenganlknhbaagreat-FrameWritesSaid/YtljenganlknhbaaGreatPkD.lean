/- Several texts in one. (Layer 19.) -/
import Derived.Test.YtljenganlknhbaaGreatPkC
import Derived.Test.YtljenganlknhbaaGreatPkA
import Derived.BigQuiet
/- What (*sha.Hash).Add does, walked. -/
namespace Go.Proofs.YtljenganlknhbaaGreat.Sha
open Go.RowKit
/-- A Hash in memory: the state, the rest, the count. -/
def hcells (s : St) (v : Value) (cnt : Int) : Array Value := #[.int .u32 s.a, .int .u32 s.b, .int .u32 s.c, .int .u32 s.d, .int .u32 s.e, .int .u32 s.f, .int .u32 s.g, .int .u32 s.h, v, .int .u64 cnt]
theorem el_u8 : ElemOk Tryz.prog 43 5 1 1 := ElemOk.mk' Tryz.underlying43 (z := .int .u8 0) (by kernel_rfl) rfl
theorem hash_part (z z' : St) (v : Value) (c : Int) (j : Nat) : (hcells z' v c)[j]? = if 0 ≤ j ∧ j < 0 + (nums .u32 z'.cells).size then (nums .u32 z'.cells)[j - 0]? else (hcells z v c)[j]? := by
  have h8 : (nums .u32 z'.cells).size = 8 := rfl
  rw [h8]
  by_cases hj : j < 8
  · rw [if_pos (by omega)]
    have : j = 0 ∨ j = 1 ∨ j = 2 ∨ j = 3 ∨ j = 4 ∨ j = 5 ∨ j = 6 ∨ j = 7 := by omega
    rcases this with rfl | rfl | rfl | rfl | rfl | rfl | rfl | rfl <;> rfl
  · rw [if_neg (by omega)]
    by_cases h10 : j < 10
    · have : j = 8 ∨ j = 9 := by omega
      rcases this with rfl | rfl <;> rfl
    · rw [Array.getElem?_eq_none (by show 10 ≤ j; omega), Array.getElem?_eq_none (by show 10 ≤ j; omega)]
/-- The length of the slice in a cell. -/
def lenAt : Option Value → Nat
  | some (.slice _ n _) => n
  | _ => 0
set_option maxHeartbeats 400000 in
theorem add_any (g B : Nat) (s : ByteArray) (st : St) (v : Value) (l : List UInt8) (cnt : Int) (w : World)
    (hst : st.isW) (hblk : BlkIs w g 177 (hcells st v cnt)) (hsl : SlIs w B 5 1 v l.length (bcells l)) (hBg : B ≤ g) (hc0 : 0 ≤ cnt) (hc1 : cnt + s.size ≤ 9223372036854775807) (hl : l.length + s.size ≤ 140737488355328) :
    Calls Tryz.prog 158 #[.pointer (some ⟨g, 0, none⟩), .string s] w fun e w' => e = .returned (.tuple #[]) ∧
      ∃ v', BlkIs w' g 177 (hcells (absorb (l.length + s.size) st (l ++ s.data.toList)).1 v' (cnt + s.size)) ∧
        SlIs w' B 5 1 v' (absorb (l.length + s.size) st (l ++ s.data.toList)).2.length (bcells (absorb (l.length + s.size) st (l ++ s.data.toList)).2) ∧ Below B w w' := by
  obtain ⟨ao, cap, rfl, hnc, hcm, hao⟩ := hsl.form
  have d8 := hblk.cell 8
  have d9 := hblk.cell 9
  simp [hcells] at d8 d9
  have f8 := hblk.free 8
  have f9 := hblk.free 9
  have hne : (Value.slice ao l.length cap).ownBlock ≠ some g := hsl.ne_blk hblk (by decide)
  have hsl1 : SlIs (w.setCell ⟨g, 9, none⟩ (.int .u64 (cnt + s.size))) B 5 1 (.slice ao l.length cap) l.length (bcells l) := hsl.far hne _
  have hblk1 : BlkIs (w.setCell ⟨g, 9, none⟩ (.int .u64 (cnt + s.size))) g 177 (hcells st (.slice ao l.length cap) (cnt + s.size)) := by
    have := hblk.put 9 (.int .u64 (cnt + s.size)); simpa [hcells] using this
  have hbe1 : Below B w (w.setCell ⟨g, 9, none⟩ (.int .u64 (cnt + s.size))) := (Below.refl _ _).setCell (p := ⟨g, 9, none⟩) hBg _
  have hBw : B ≤ (w.setCell ⟨g, 9, none⟩ (.int .u64 (cnt + s.size))).heap.size := by have := hblk1.lt; omega
  have hb63 : l.length + s.size ≤ maxLen := by unfold maxLen; omega
  have hb47 : (l.length + s.size) * 1 ≤ 140737488355328 := by omega
  have H1 := Lib.hid (And.intro hsl1 (And.intro hblk1 (And.intro hbe1 (And.intro hBw (And.intro hb63 hb47)))))
  have Hne := Lib.hid hne
  clear hblk hsl hne hsl1 hblk1 hbe1 hBw hb63 hb47 hao
  have Hst := Lib.hid hst; clear hst
  go_enter Tryz.func158, Tryz.ntmps158
  go_wp2_with (first
    | (at_builtin
       refine wpList_append_sl rfl _ _ _ 9 rfl el_u8 (.slice ao l.length cap) l.length (bcells l) rfl H1.out.1 (.string s) s.size (bcells s.data.toList) rfl (SrcIs.string Tryz.underlying9 _ s) (bcells_one _) H1.out.2.2.2.2.1 H1.out.2.2.2.2.2 H1.out.2.2.2.1 ?_
       intro v1 w1 hs1 hg1 hat1
       obtain ⟨ao1, cap1, rfl, hnc1, hcm1, hao1⟩ := hs1.form
       have hb1 := H1.out.2.1.grown hg1 (Ne.symm Hne.out)
       have e8 : w1.cell? ⟨g, 8, none⟩ = some (Value.slice ao l.length cap) := hb1.cell 8
       have k8 : w1.frozen? ⟨g, 8, none⟩ = false := hb1.free 8
       have H2 := Lib.hid (And.intro hs1 (And.intro hg1 (And.intro hat1 hb1)))
       clear hs1 hg1 hat1 hb1 hao1))
  obtain ⟨w2, hw2⟩ : ∃ w2, w2 = w1.setCell ⟨g, 8, none⟩ (.slice ao1 (l.length + s.size) cap1) := ⟨_, rfl⟩
  have hb2 : BlkIs w2 g 177 (hcells st (.slice ao1 (l.length + s.size) cap1) (cnt + s.size)) := by
    have := H2.out.2.2.2.put 8 (.slice ao1 (l.length + s.size) cap1); rw [hw2]; simpa [hcells] using this
  have hs2 : SlIs w2 B 5 1 (.slice ao1 (l.length + s.size) cap1) (l.length + s.size) (bcells (l ++ s.data.toList)) := by
    rw [hw2, ← bcells_append]; exact H2.out.1.far (H2.out.1.ne_blk H2.out.2.2.2 (by decide)) _
  have hg2 : Below B w w2 := by
    rw [hw2]
    refine (H1.out.2.2.1.grown H2.out.2.1 H1.out.2.2.2.1 fun k hk => (H1.out.1.lt k hk).1).setCell (p := ⟨g, 8, none⟩) hBg _
  have H3 := Lib.hid (And.intro hb2 (And.intro hs2 hg2))
  clear hb2 hs2 hg2
  rw [← hw2]
  clear hw2 H2 H1 d8 d9 f8 f9 e8 k8
  obtain ⟨L, hL⟩ : ∃ L, L = l ++ s.data.toList := ⟨_, rfl⟩
  obtain ⟨N, hN⟩ : ∃ N, N = l.length + s.size := ⟨_, rfl⟩
  have hLN : L.length = N := by rw [hL, hN, List.length_append]; rfl
  rw [← hL, ← hN] at H3
  have HL := Lib.hid (And.intro hL (And.intro hN hLN))
  rw [← hN] at hl
  clear hL hN hLN
  go_loopw [25] (fun _ wr => ∃ (f : Nat) (z : St) (m : List UInt8) (v : Value), m.length ≤ f ∧ m.length ≤ N ∧ absorb f z m = absorb N st L ∧ z.isW ∧ BlkIs wr g 177 (hcells z v (cnt + s.size)) ∧ SlIs wr B 5 1 v m.length (bcells m) ∧ Below B w wr) (fun _ wr => lenAt (wr.cell? ⟨g, 8, none⟩))
  case atStart =>
    refine ⟨N, st, L, .slice ao1 N cap1, by rw [HL.out.2.2]; omega, by rw [HL.out.2.2]; omega, rfl, Hst.out, H3.out.1, ?_, H3.out.2.2⟩
    rw [HL.out.2.2]; exact H3.out.2.1
  case round =>
    obtain ⟨f, z, m, v, hmf, hmN, habs, hzw, hblk, hsl, hbe⟩ := hrel
    obtain ⟨ao2, cap2, rfl, hnc2, hcm2, hao2⟩ := hsl.form
    clear hao2
    obtain ⟨z1, z2, z3, z4, z5, z6, z7, z8⟩ := z
    have d8 : wr.cell? ⟨g, 8, none⟩ = some (.slice ao2 m.length cap2) := hblk.cell 8
    have hmi : (m.length : Int) ≤ 140737488355328 := by omega
    by_cases h64 : 64 ≤ m.length
    · have h1 : (64 : Int) ≤ (m.length : Int) := by omega
      obtain ⟨b, off, cap3, hv3, hbB, hbw, hnc3, hcm3, hcell, hfree⟩ := hsl.at_ (by omega)
      injection hv3 with e1 _ e3
      subst e1 e3
      have x0 : ∀ x : LaterOf wr, x.w.cell? ⟨g, 0, none⟩ = some (.int .u32 z1) := fun x => (x.blk hblk).cell 0
      have x1 : ∀ x : LaterOf wr, x.w.cell? ⟨g, 1, none⟩ = some (.int .u32 z2) := fun x => (x.blk hblk).cell 1
      have x2 : ∀ x : LaterOf wr, x.w.cell? ⟨g, 2, none⟩ = some (.int .u32 z3) := fun x => (x.blk hblk).cell 2
      have x3 : ∀ x : LaterOf wr, x.w.cell? ⟨g, 3, none⟩ = some (.int .u32 z4) := fun x => (x.blk hblk).cell 3
      have x4 : ∀ x : LaterOf wr, x.w.cell? ⟨g, 4, none⟩ = some (.int .u32 z5) := fun x => (x.blk hblk).cell 4
      have x5 : ∀ x : LaterOf wr, x.w.cell? ⟨g, 5, none⟩ = some (.int .u32 z6) := fun x => (x.blk hblk).cell 5
      have x6 : ∀ x : LaterOf wr, x.w.cell? ⟨g, 6, none⟩ = some (.int .u32 z7) := fun x => (x.blk hblk).cell 6
      have x7 : ∀ x : LaterOf wr, x.w.cell? ⟨g, 7, none⟩ = some (.int .u32 z8) := fun x => (x.blk hblk).cell 7
      have x8 : ∀ x : LaterOf wr, x.w.cell? ⟨g, 8, none⟩ = some (.slice (some ⟨b, off, none⟩) m.length cap2) := fun x => (x.blk hblk).cell 8
      have hmix : ∀ x : LaterOf wr, Calls Tryz.prog 178 #[.agg (nums .u32 (St.mk z1 z2 z3 z4 z5 z6 z7 z8).cells), .slice (some ⟨b, off, none⟩) 64 cap2] x.w fun e w' => e = .returned (.agg (nums .u32 (mix ⟨z1, z2, z3, z4, z5, z6, z7, z8⟩ (ib (m.take 64))).cells)) ∧ Below x.w.heap.size x.w w' := fun x =>
        mix_any ⟨z1, z2, z3, z4, z5, z6, z7, z8⟩ b off cap2 x.w (ib (m.take 64)) hzw (by rw [ib_length, List.length_take]; omega) (by omega) (by unfold maxLen at hcm2; omega) (by have := x.h.size; omega) (ib_isB _) fun j hj => by
          rw [x.h.cell (p := ⟨b, off + j, none⟩) hbw, hcell j (by rw [bcells_length]; omega)]
          simp only [bcells, ib, List.getD, List.getElem?_map, List.getElem?_take, if_pos hj]
          rw [List.getElem?_eq_getElem (by omega)]; rfl
      have Hmix := Lib.hid hmix; clear hmix
      have H4 := Lib.hid (And.intro hblk (And.intro hsl (And.intro hbe (And.intro hzw (And.intro habs (And.intro hcell hmf))))))
      clear hblk hsl hbe hzw habs hcell hmf hfree
      go_wp2
      refine wp_region_heads (fun w' => ∃ x : LaterOf wr, w' = x.w) 13 (by kernel_rfl) (by kernel_rfl) ⟨LaterOf.start wr, rfl⟩ ?_
      simp only [List.take_succ_cons, List.take_zero, List.drop_succ_cons, List.drop_zero]
      repeat (go_big_quiet_step (exact LaterOf.call _ (Hmix.out _)))
      refine wpQuiet_nil ?_
      intro w3 hw3
      obtain ⟨x, rfl⟩ := hw3
      have hb5 := x.blk H4.out.1
      obtain ⟨w3, hx3⟩ := x
      clear x0 x1 x2 x3 x4 x5 x6 x7 x8
      have hi62 : (Tryz.prog.info? 174).map (·.size) = some (nums .u32 (mix ⟨z1, z2, z3, z4, z5, z6, z7, z8⟩ (ib (m.take 64))).cells).size := by kernel_rfl
      refine wpList_store_part_to rfl 174 _ _ rfl g 0 (nums .u32 (mix ⟨z1, z2, z3, z4, z5, z6, z7, z8⟩ (ib (m.take 64))).cells) rfl rfl 177 _ (hcells (mix ⟨z1, z2, z3, z4, z5, z6, z7, z8⟩ (ib (m.take 64))) (.slice (some ⟨b, off, none⟩) m.length cap2) (cnt + s.size)) hb5 hi62 (show 0 + 8 ≤ 10 by omega) (nums_one _ _) (hash_part _ _ _ _) ?_
      intro w4 hb6 hg6
      have y8 : w4.cell? ⟨g, 8, none⟩ = some (.slice (some ⟨b, off, none⟩) m.length cap2) := hb6.cell 8
      have k8 : w4.frozen? ⟨g, 8, none⟩ = false := hb6.free 8
      have hsl4 : SlIs w4 B 5 1 (.slice (some ⟨b, off, none⟩) m.length cap2) m.length (bcells m) :=
        (H4.out.2.1.later hx3).kept hg6 (.inr (H4.out.2.1.ne_blk H4.out.1 (by decide)))
      have hcut := hsl4.cut (lo := 64) (hi := m.length) h64 (Nat.le_refl _)
      have hne4 : ∀ (ao : Option Addr) (n c : Nat), SlIs w4 B 5 1 (.slice ao n c) n (bcells (m.drop 64)) → (Value.slice ao n c).ownBlock ≠ some g := fun ao n c h => h.ne_blk hb6 (by decide)
      have hbe4 : Below B w w4 := (H4.out.2.2.1.trans (hx3.mono (by have := H4.out.2.2.1.size; have := H4.out.1.lt; omega))).trans (grown_below hg6 hBg (by have := hb6.lt; have := hx3.size; have := H4.out.1.lt; omega))
      have hput : ∀ v, BlkIs (w4.setCell ⟨g, 8, none⟩ v) g 177 (hcells (mix ⟨z1, z2, z3, z4, z5, z6, z7, z8⟩ (ib (m.take 64))) v (cnt + s.size)) := fun v => by
        have := hb6.put 8 v; simpa [hcells] using this
      have e1 : (bcells m).drop 64 = bcells (m.drop 64) := by simp [bcells, List.map_drop]
      simp only [Nat.mul_one, e1] at hcut
      rw [List.take_of_length_le (by rw [bcells_length, List.length_drop]; omega)] at hcut
      have H6 := Lib.hid (And.intro hcut (And.intro hne4 (And.intro hbe4 hput)))
      have Hd8 := Lib.hid d8
      clear hcut hne4 hbe4 hput hsl4 hb6 hg6 hx3 hb5 hi62 d8 e1
      have hf1 : f = (f - 1) + 1 := by have := H4.out.2.2.2.2.2.2; omega
      have hstep : absorb (f - 1) (mix ⟨z1, z2, z3, z4, z5, z6, z7, z8⟩ (ib (m.take 64))) (m.drop 64) = absorb N st L := by
        rw [← H4.out.2.2.2.2.1, hf1, absorb_step _ _ _ h64]; rfl
      have hmf1 : (m.drop 64).length ≤ f - 1 := by have := H4.out.2.2.2.2.2.2; rw [List.length_drop]; omega
      have H8 := Lib.hid (And.intro hstep hmf1)
      clear hstep hmf1 hf1
      by_cases hcap : cap2 = 64
      · subst hcap
        have hcut := H6.out.1
        have hz0 : m.length - 64 = 0 := by omega
        rw [if_pos rfl, hz0, Nat.sub_self] at hcut
        have Hcut := Lib.hid hcut; clear hcut
        go_wp2
        go_roundw
        case rel =>
          refine ⟨f - 1, mix ⟨z1, z2, z3, z4, z5, z6, z7, z8⟩ (ib (m.take 64)), m.drop 64, .slice (some ⟨b, off, none⟩) 0 0, H8.out.2, by rw [List.length_drop]; omega, H8.out.1, mix_isW _ _, H6.out.2.2.2 _, ?_, H6.out.2.2.1.setCell (p := ⟨g, 8, none⟩) hBg _⟩
          rw [List.length_drop, hz0]
          exact Hcut.out.far (H6.out.2.1 _ _ _ Hcut.out) _
        case measure =>
          rw [((H6.out.2.2.2 _).cell 8 : _ = some (Value.slice (some ⟨b, off, none⟩) 0 0)), Hd8.out]
          show 0 < m.length
          omega
      · have hcut := H6.out.1
        rw [if_neg hcap, Option.map_some, Addr.add_lit] at hcut
        have Hcut := Lib.hid hcut; clear hcut
        go_wp2
        go_roundw
        case rel =>
          refine ⟨f - 1, mix ⟨z1, z2, z3, z4, z5, z6, z7, z8⟩ (ib (m.take 64)), m.drop 64, .slice (some ⟨b, off + 64, none⟩) (m.length - 64) (cap2 - 64), H8.out.2, by rw [List.length_drop]; omega, H8.out.1, mix_isW _ _, H6.out.2.2.2 _, ?_, H6.out.2.2.1.setCell (p := ⟨g, 8, none⟩) hBg _⟩
          rw [List.length_drop]
          exact Hcut.out.far (H6.out.2.1 _ _ _ Hcut.out) _
        case measure =>
          rw [((H6.out.2.2.2 _).cell 8 : _ = some (Value.slice (some ⟨b, off + 64, none⟩) (m.length - 64) (cap2 - 64))), Hd8.out]
          show m.length - 64 < m.length
          omega
    · have h1 : ¬ ((64 : Int) ≤ (m.length : Int)) := by omega
      have H4 := Lib.hid (And.intro hblk (And.intro hsl (And.intro hbe habs)))
      clear hblk hsl hbe hzw habs
      go_wp2
      go_end0
      refine ⟨rfl, ?_⟩
      have e := H4.out.2.2.2
      rw [absorb_small _ _ _ (by omega)] at e
      rw [← HL.out.1, ← HL.out.2.1, ← e]
      exact ⟨_, H4.out.1, H4.out.2.1, H4.out.2.2.1⟩
end Go.Proofs.YtljenganlknhbaaGreat.Sha

/- What sha.tail, New, End and Sum compute, walked. -/
namespace Go.Proofs.YtljenganlknhbaaGreat.Sha
open Go.RowKit
theorem zeros_snoc (n : Nat) (h : 1 ≤ n) : bcells (128 :: List.replicate (n - 1) 0) ++ bcells [0] = bcells (128 :: List.replicate (n + 1 - 1) 0) := by
  rw [bcells_append]
  congr 1
  rw [show n + 1 - 1 = (n - 1) + 1 by omega, List.replicate_succ']; rfl
set_option maxHeartbeats 400000 in
theorem tail_any (cnt : Nat) (w : World) (hc : cnt ≤ 9223372036854775807) :
    Calls Tryz.prog 179 #[.int .u64 cnt] w fun e w' => e = .returned (.string ⟨(padTail cnt).toArray⟩) ∧ Below w.heap.size w w' := by
  have Hc := Lib.hid hc; clear hc
  have hci : (cnt : Int) ≤ 9223372036854775807 := by have := Hc.out; omega
  go_enter Tryz.func179, Tryz.ntmps179
  go_wp2
  go_loopw [3] (fun b wr => ∃ (n : Nat) (ao : Option Addr) (cap : Nat), 1 ≤ n ∧ n ≤ 1 + zeros cnt ∧ b = .slice ao n cap ∧ SlIs wr w.heap.size 5 1 (.slice ao n cap) n (bcells (128 :: List.replicate (n - 1) 0)) ∧ Below w.heap.size w wr) (fun b _ => 100 - lenAt (some b))
  case atStart => exact ⟨1, _, _, by omega, by omega, rfl, SlIs.made (BlkIs.new _ _ _) (Nat.le_refl _) rfl (by decide), (Below.refl _ _).alloc (Nat.le_refl _) _⟩
  case round =>
    obtain ⟨n, ao, cap, hn1, hn2, rfl, hsl, hbe⟩ := hrel
    have hz := zeros_le cnt
    have hnb : (n : Int) ≤ 100 := by omega
    by_cases hlt : n < 1 + zeros cnt
    · have hne : (((cnt : Int) + (n : Int)) % 64 != 56) = true := by
        have := zeros_hit cnt n hn1 hn2
        simp; omega
      have H := Lib.hid (And.intro hsl hbe); clear hsl hbe
      have hbw := H.out.2.size
      go_wp2_with (first
        | (at_builtin
           refine wpList_append_sl rfl _ _ _ 43 rfl el_u8 (.slice ao n cap) n (bcells (128 :: List.replicate (n - 1) 0)) rfl (H.out.1.alloc _) _ 1 (bcells [0]) rfl (SrcIs.own Tryz.underlying43 (SlIs.made (base := 0) (BlkIs.new _ _ _) (Nat.zero_le _) rfl (by decide))) (bcells_one _) (by unfold maxLen; omega) (by omega) (by simp only [World.size_alloc]; omega) ?_
           intro v1 w1 hs1 hg1 hat1
           obtain ⟨ao1, cap1, rfl, hnc1, hcm1, hao1⟩ := hs1.form
           rw [zeros_snoc n hn1] at hs1
           have hb1 := (H.out.2.alloc hbw _).grown hg1 (by simp only [World.size_alloc]; omega) fun k hk => (H.out.1.lt k hk).1
           have H1 := Lib.hid (And.intro hs1 hb1)
           clear hs1 hb1 hg1 hat1 hao1))
      go_roundw
      case rel => exact ⟨n + 1, ao1, cap1, by omega, by omega, rfl, H1.out.1, H1.out.2⟩
      case measure => show 100 - (n + 1) < 100 - n; omega
    · have hne : (((cnt : Int) + (n : Int)) % 64 != 56) = false := by
        have := zeros_hit cnt n hn1 hn2
        simp; omega
      have hn : n = 1 + zeros cnt := by omega
      have H := Lib.hid (And.intro hsl (And.intro hbe hn)); clear hsl hbe hn
      go_wp2
      obtain ⟨N, hN⟩ : ∃ N, N = cnt * 8 % 18446744073709551616 := ⟨_, rfl⟩
      have HN := Lib.hid hN
      have hNi : IntKind.u64.wrap ((cnt : Int) * 8) = (N : Int) := by rw [hN, IntKind.wrap_u64]; omega
      clear hN
      obtain ⟨hd, hhd⟩ : ∃ hd, hd = (128 : UInt8) :: List.replicate (n - 1) 0 := ⟨_, rfl⟩
      have Hhd := Lib.hid hhd; clear hhd
      go_loopw [3, 4] (fun b i wr => ∃ (j : Nat) (ao : Option Addr) (cap : Nat), j ≤ 8 ∧ i = .int .i64 (56 - 8 * (j : Int)) ∧ b = .slice ao (n + j) cap ∧ SlIs wr w.heap.size 5 1 (.slice ao (n + j) cap) (n + j) (bcells (hd ++ (be8 N).take j)) ∧ Below w.heap.size w wr) (fun b _ _ => 1000 - lenAt (some b))
      case atStart => exact ⟨0, _, _, by omega, rfl, rfl, by rw [List.take_zero, List.append_nil, Hhd.out]; exact H.out.1, H.out.2.1⟩
      case round =>
        obtain ⟨j, ao, cap, hj, rfl, rfl, hsl, hbe⟩ := hrel
        have H := Lib.hid (And.intro hsl hbe); clear hsl hbe
        have hbw := H.out.2.size
        by_cases hlt : j < 8
        · have h1 : (0 : Int) ≤ 56 - 8 * (j : Int) := by omega
          have h2 : 8 * (j : Int) ≤ 56 := by omega
          have ht : (56 - 8 * (j : Int)).toNat = 56 - 8 * j := by omega
          have hnb2 : n + j ≤ 100 := by omega
          go_wp2_with (first
            | (at_builtin
               refine wpList_append_sl rfl _ _ _ 43 rfl el_u8 (.slice ao (n + j) cap) (n + j) (bcells (hd ++ (be8 N).take j)) rfl (H.out.1.alloc _) _ 1 [Value.int .u8 ((N : Int) / 2 ^ (56 - 8 * j) % 256)] rfl (SrcIs.own Tryz.underlying43 (SlIs.made (base := 0) (BlkIs.new _ _ _) (Nat.zero_le _) rfl (by decide))) (by rw [byte_cell]; exact bcells_one _) (by unfold maxLen; omega) (by omega) (by simp only [World.size_alloc]; omega) ?_
               intro v1 w1 hs1 hg1 hat1
               obtain ⟨ao1, cap1, rfl, hnc1, hcm1, hao1⟩ := hs1.form
               rw [byte_cell, bcells_append, List.append_assoc, ← be8_next N j hlt] at hs1
               have hb1 := (H.out.2.alloc hbw _).grown hg1 (by simp only [World.size_alloc]; omega) fun k hk => (H.out.1.lt k hk).1
               have H1 := Lib.hid (And.intro hs1 hb1)
               clear hs1 hb1 hg1 hat1 hao1))
          go_roundw
          case rel => exact ⟨j + 1, ao1, cap1, by omega, by go_num, rfl, H1.out.1, H1.out.2⟩
          case measure => show 1000 - (n + (j + 1)) < 1000 - (n + j); omega
        · obtain rfl : j = 8 := by omega
          have hconv := H.out.1.text (P := Tryz.prog) (dst := 9) Tryz.underlying43 Tryz.underlying5 Tryz.underlying9
          go_wp2
          go_ret
          refine ⟨?_, H.out.2⟩
          rw [Hhd.out, List.take_of_length_le (by rw [be8_length]; omega), HN.out]
          have hnn : n - 1 = zeros cnt := by omega
          rw [hnn]; rfl
theorem new_any (w : World) : Calls Tryz.prog 157 #[] w fun e w' => ∃ g, e = .returned (.pointer (some ⟨g, 0, none⟩)) ∧ w.heap.size ≤ g ∧ BlkIs w' g 177 (hcells H0 (.slice none 0 0) 0) ∧ Below w.heap.size w w' := by
  go_enter Tryz.func157, Tryz.ntmps157
  go_wp2_with (first
    | (go_at_call 177; refine (first_any _).mono ?_; rintro e w1 ⟨rfl, hb1⟩)
    | (refine wpList_build_to rfl 177 _ rfl (hcells H0 (.slice none 0 0) 0) (by kernel_rfl) ?_))
  go_ret
  exact ⟨_, rfl, hb1.size, BlkIs.new _ _ _, hb1.alloc hb1.size _⟩
theorem out4_cells (x : Int) (h : isW x) : bcells (out4 x) = [Value.int .u8 (x / 16777216 % 256), Value.int .u8 (x / 65536 % 256), Value.int .u8 (x / 256 % 256), Value.int .u8 (x % 256)] := by
  obtain ⟨n, rfl⟩ := Int.eq_ofNat_of_zero_le h.1
  simp only [bcells, out4, List.map_cons, List.map_nil, UInt8.toNat_ofNat', Int.toNat_natCast]
  congr 2
  congr 2
  congr 2
  congr 2
  omega
theorem out_snoc (l : List Int) (j : Nat) (h : j < l.length) : out (l.take (j + 1)) = out (l.take j) ++ out4 (l.getD j 0) := by
  unfold out
  rw [List.take_add_one, List.flatMap_append, List.getElem?_eq_getElem h]
  simp [List.getD, List.getElem?_eq_getElem h]
theorem out_length (l : List Int) : (out l).length = 4 * l.length := by
  induction l with
  | nil => rfl
  | cons x l ih => simp [out, out4] at ih ⊢; omega
set_option maxHeartbeats 1000000 in
theorem end_any (g B : Nat) (st : St) (v : Value) (l : List UInt8) (cnt : Nat) (w : World)
    (hst : st.isW) (hblk : BlkIs w g 177 (hcells st v cnt)) (hsl : SlIs w B 5 1 v l.length (bcells l)) (hc1 : cnt ≤ 4611686018427387904) (hl : l.length ≤ 1000) :
    Calls Tryz.prog 159 #[.pointer (some ⟨g, 0, none⟩)] w fun e w' => e = .returned (.string ⟨(finish st l cnt).toArray⟩) ∧ Below w.heap.size w w' := by
  obtain ⟨ao, cap, rfl, hnc, hcm, hao⟩ := hsl.form
  clear hao
  obtain ⟨z1, z2, z3, z4, z5, z6, z7, z8⟩ := st
  have d0 : w.cell? ⟨g, 0, none⟩ = some (.int .u32 z1) := hblk.cell 0
  have d1 : w.cell? ⟨g, 1, none⟩ = some (.int .u32 z2) := hblk.cell 1
  have d2 : w.cell? ⟨g, 2, none⟩ = some (.int .u32 z3) := hblk.cell 2
  have d3 : w.cell? ⟨g, 3, none⟩ = some (.int .u32 z4) := hblk.cell 3
  have d4 : w.cell? ⟨g, 4, none⟩ = some (.int .u32 z5) := hblk.cell 4
  have d5 : w.cell? ⟨g, 5, none⟩ = some (.int .u32 z6) := hblk.cell 5
  have d6 : w.cell? ⟨g, 6, none⟩ = some (.int .u32 z7) := hblk.cell 6
  have d7 : w.cell? ⟨g, 7, none⟩ = some (.int .u32 z8) := hblk.cell 7
  have d8 : w.cell? ⟨g, 8, none⟩ = some (.slice ao l.length cap) := hblk.cell 8
  have hgw := hblk.lt
  have H := Lib.hid (And.intro hblk (And.intro hsl hst))
  clear hblk hsl hst
  go_enter Tryz.func159, Tryz.ntmps159
  go_wp2_with fail
  go_region_held3 (fun w' => w'.cell? ⟨g, 0, none⟩ = some (.int .u32 z1) ∧ w'.cell? ⟨g, 1, none⟩ = some (.int .u32 z2) ∧ w'.cell? ⟨g, 2, none⟩ = some (.int .u32 z3) ∧ w'.cell? ⟨g, 3, none⟩ = some (.int .u32 z4) ∧ w'.cell? ⟨g, 4, none⟩ = some (.int .u32 z5) ∧ w'.cell? ⟨g, 5, none⟩ = some (.int .u32 z6) ∧ w'.cell? ⟨g, 6, none⟩ = some (.int .u32 z7) ∧ w'.cell? ⟨g, 7, none⟩ = some (.int .u32 z8) ∧ w'.cell? ⟨g, 8, none⟩ = some (.slice ao l.length cap))
    (first | go_keep | exact ⟨q0, q1, q2, q3, q4, q5, q6, q7, q8⟩)
    ((refine step_append_sl rfl _ _ _ 43 (by rfl) el_u8 (base := w.heap.size) (.slice none 0 0) 0 [] (by rfl) (SlIs.nil_ _ _ _ _) (.slice ao l.length cap) l.length (bcells l) (by rfl) (SrcIs.own Tryz.underlying43 H.out.2.1.drew) (bcells_one _) (by unfold maxLen; omega) (by omega) (Nat.le_refl _) ?_; intro v1 w1 hs1 hg1 hat1
      obtain ⟨ao1, cap1, rfl, hnc1, hcm1, hao1⟩ := hs1.form
      have hb1 : BlkIs w1 g 177 (hcells ⟨z1, z2, z3, z4, z5, z6, z7, z8⟩ (.slice ao l.length cap) cnt) := BlkIs.grown H.out.1.drew hg1 (by simp [Value.ownBlock])
      have q0 : w1.cell? ⟨g, 0, none⟩ = some (.int .u32 z1) := hb1.cell 0
      have q1 : w1.cell? ⟨g, 1, none⟩ = some (.int .u32 z2) := hb1.cell 1
      have q2 : w1.cell? ⟨g, 2, none⟩ = some (.int .u32 z3) := hb1.cell 2
      have q3 : w1.cell? ⟨g, 3, none⟩ = some (.int .u32 z4) := hb1.cell 3
      have q4 : w1.cell? ⟨g, 4, none⟩ = some (.int .u32 z5) := hb1.cell 4
      have q5 : w1.cell? ⟨g, 5, none⟩ = some (.int .u32 z6) := hb1.cell 5
      have q6 : w1.cell? ⟨g, 6, none⟩ = some (.int .u32 z7) := hb1.cell 6
      have q7 : w1.cell? ⟨g, 7, none⟩ = some (.int .u32 z8) := hb1.cell 7
      have q8 : w1.cell? ⟨g, 8, none⟩ = some (.slice ao l.length cap) := hb1.cell 8
      have H1 := Lib.hid (And.intro hs1 (And.intro hg1 hb1))
      clear hs1 hg1 hat1 hao1 hb1))
  have hq1 : BlkIs w1 g 177 (hcells ⟨z1, z2, z3, z4, z5, z6, z7, z8⟩ (.slice ao l.length cap) cnt) := H1.out.2.2
  have hgw1 : g < w1.heap.size := hq1.lt
  have q9 : w1.cell? ⟨g, 9, none⟩ = some (.int .u64 cnt) := hq1.cell 9
  clear hq1 d0 d1 d2 d3 d4 d5 d6 d7 d8 q0 q1 q2 q3 q4 q5 q6 q7 q8
  go_wp2_with fail
  refine (tail_any cnt _ (by omega)).mono ?_
  rintro e w3 ⟨rfl, hb3⟩
  have hz3 := hb3.size
  simp only [World.size_alloc] at hz3
  have hg1s : w.heap.size ≤ w1.heap.size := H1.out.2.1.size
  have hL : BlkIs w3 w1.heap.size 177 (hcells ⟨z1, z2, z3, z4, z5, z6, z7, z8⟩ (.slice ao1 l.length cap1) 0) := (BlkIs.new w1 _ _).below hb3 (by simp only [World.size_alloc]; omega)
  have hS : SlIs w3 w.heap.size 5 1 (.slice ao1 l.length cap1) l.length (bcells l) := by
    have := H1.out.1
    rw [List.nil_append, Nat.zero_add] at this
    exact (this.alloc _).later hb3
  have hA : Below w.heap.size w w1 := (below_drewN (Below.refl w.heap.size w) 1).grown (row := none) H1.out.2.1 (Nat.le_refl _) (fun k hk => by cases hk)
  have hbe3 : Below w.heap.size w w3 := (hA.alloc hg1s _).trans (hb3.mono (by simp only [World.size_alloc]; omega))
  have hps : (ByteArray.mk (padTail cnt).toArray).size = (padTail cnt).length := by simp [ByteArray.size]
  have hpl := padTail_length cnt
  have hzl := zeros_le cnt
  have H3 := Lib.hid (And.intro hL (And.intro hS (And.intro hbe3 hps)))
  clear hL hS hbe3 hb3 q9
  go_wp2_with fail
  refine (add_any w1.heap.size w.heap.size ⟨(padTail cnt).toArray⟩ ⟨z1, z2, z3, z4, z5, z6, z7, z8⟩ _ l 0 w3 H.out.2.2 H3.out.1 H3.out.2.1 hg1s (by omega) (by rw [hps]; omega) (by rw [hps]; omega)).mono ?_
  rintro e w4 ⟨rfl, v4, hB4, hS4, hb4⟩
  obtain ⟨fz, hfz⟩ : ∃ fz, fz = (absorb (l.length + (padTail cnt).length) ⟨z1, z2, z3, z4, z5, z6, z7, z8⟩ (l ++ padTail cnt)).1 := ⟨_, rfl⟩
  have hB5 : BlkIs w4 w1.heap.size 177 (hcells fz v4 (0 + (ByteArray.mk (padTail cnt).toArray).size)) := by rw [hfz, ← hps]; exact hB4
  have hfw : fz.isW := by rw [hfz]; exact absorb_isW _ _ _ H.out.2.2
  have hfin : finish ⟨z1, z2, z3, z4, z5, z6, z7, z8⟩ l cnt = out fz.cells := by rw [hfz]; rfl
  have hbe4 : Below w.heap.size w w4 := H3.out.2.2.1.trans hb4
  have hz4 := hb4.size
  clear hB4 hfz hps
  obtain ⟨y1, y2, y3, y4, y5, y6, y7, y8⟩ := fz
  have c0 : w4.cell? ⟨w1.heap.size, 0, none⟩ = some (.int .u32 y1) := hB5.cell 0
  have c1 : w4.cell? ⟨w1.heap.size, 1, none⟩ = some (.int .u32 y2) := hB5.cell 1
  have c2 : w4.cell? ⟨w1.heap.size, 2, none⟩ = some (.int .u32 y3) := hB5.cell 2
  have c3 : w4.cell? ⟨w1.heap.size, 3, none⟩ = some (.int .u32 y4) := hB5.cell 3
  have c4 : w4.cell? ⟨w1.heap.size, 4, none⟩ = some (.int .u32 y5) := hB5.cell 4
  have c5 : w4.cell? ⟨w1.heap.size, 5, none⟩ = some (.int .u32 y6) := hB5.cell 5
  have c6 : w4.cell? ⟨w1.heap.size, 6, none⟩ = some (.int .u32 y7) := hB5.cell 6
  have c7 : w4.cell? ⟨w1.heap.size, 7, none⟩ = some (.int .u32 y8) := hB5.cell 7
  have H4 := Lib.hid (And.intro hbe4 (And.intro hfin hfw))
  clear hB5 hS4 hb4 hbe4 hfin hfw H3
  go_wp2
  obtain ⟨L, hL⟩ : ∃ L, L = (St.mk y1 y2 y3 y4 y5 y6 y7 y8).cells := ⟨_, rfl⟩
  have HL := Lib.hid hL
  obtain ⟨i0, hi0, hz0, hz1, hz2⟩ := info_parts (show (Tryz.prog.info? 41).map (fun i => (i.zero, i.size, i.bytes)) = some (some (.int .u32 0), 1, 4) by kernel_rfl)
  have Hi0 := Lib.hid (And.intro hi0 hz1); clear hi0 hz0 hz1 hz2 hL
  go_loopw [4, 6, 31] (fun b _ i wr => ∃ (j : Nat) (ao : Option Addr) (cap : Nat), j ≤ 8 ∧ i = .int .i64 j ∧ b = .slice ao (4 * j) cap ∧ SlIs wr w.heap.size 5 1 (.slice ao (4 * j) cap) (4 * j) (bcells (out (L.take j))) ∧ Below w.heap.size w wr) (fun _ _ i _ => 8 - (intOf i).toNat)
  case atStart => exact ⟨0, none, 0, by omega, rfl, rfl, SlIs.nil_ _ _ _ _, H4.out.1⟩
  case round =>
    obtain ⟨j, ao2, cap2, hj, rfl, rfl, hsl, hbe⟩ := hrel
    have H5 := Lib.hid (And.intro hsl hbe); clear hsl hbe
    have hbw := H5.out.2.size
    by_cases hlt : j < 8
    · have h1 : (j : Int) < 8 := by omega
      obtain ⟨x, hx⟩ : ∃ x, x = L.getD j 0 := ⟨_, rfl⟩
      have hxw : isW x := by
        obtain ⟨g1, g2, g3, g4, g5, g6, g7, g8⟩ := H4.out.2.2
        rw [hx, HL.out]
        exact getD_all (p := isW) ⟨by decide, by decide⟩ _ (by
          intro x hx
          simp only [St.cells, List.mem_cons, List.not_mem_nil, or_false] at hx
          rcases hx with rfl | rfl | rfl | rfl | rfl | rfl | rfl | rfl <;> assumption) j
      have hidx := run_index_row (P := Tryz.prog) Tryz.underlying174 Hi0.out.1 Hi0.out.2 Tryz.underlying41 rfl (nums .u32 (St.mk y1 y2 y3 y4 y5 y6 y7 y8).cells) .i64 j hlt (.int .u32 x) (by rw [hx, HL.out]; exact nums_get _ _ _ hlt)
      have hidx2 : ∀ w : World, (Instr.index 174 (.agg #[.int .u32 y1, .int .u32 y2, .int .u32 y3, .int .u32 y4, .int .u32 y5, .int .u32 y6, .int .u32 y7, .int .u32 y8]) (.int .i64 (j : Int))).run Tryz.prog w = .ok (.int .u32 x) w := hidx
      have hx0 := hxw.1
      have Hx := Lib.hid (And.intro hx hxw); clear hx hxw hidx
      go_wp2_with (first
        | (at_builtin
           refine wpList_append_sl rfl _ _ _ 43 rfl el_u8 (.slice ao2 (4 * j) cap2) (4 * j) (bcells (out (L.take j))) rfl (H5.out.1.alloc _) _ 4 (bcells (out4 x)) rfl (by rw [out4_cells x Hx.out.2]; exact SrcIs.own Tryz.underlying43 (SlIs.made (base := 0) (BlkIs.new _ _ _) (Nat.zero_le _) rfl (by decide))) (bcells_one _) (by unfold maxLen; omega) (by omega) (by simp only [World.size_alloc]; omega) ?_
           intro v1 w5 hs1 hg1 hat1
           obtain ⟨ao3, cap3, rfl, hnc3, hcm3, hao3⟩ := hs1.form
           rw [bcells_append, Hx.out.1, ← out_snoc L j (by rw [HL.out]; exact hlt)] at hs1
           have hb1 := (H5.out.2.alloc hbw _).grown hg1 (by simp only [World.size_alloc]; omega) fun k hk => (H5.out.1.lt k hk).1
           have H6 := Lib.hid (And.intro hs1 hb1)
           clear hs1 hb1 hg1 hat1 hao3))
      go_roundw
      case rel => exact ⟨j + 1, ao3, cap3, by omega, by go_num, by rw [show 4 * (j + 1) = 4 * j + 4 by omega], H6.out.1, H6.out.2⟩
      case measure => simp [intOf]; omega
    · obtain rfl : j = 8 := by omega
      have hconv := H5.out.1.text (P := Tryz.prog) (dst := 9) Tryz.underlying43 Tryz.underlying5 Tryz.underlying9
      go_wp2
      go_ret
      refine ⟨?_, H5.out.2⟩
      rw [H4.out.2.1, HL.out]
      rfl
end Go.Proofs.YtljenganlknhbaaGreat.Sha

/- What sha.Sum computes, and what the law's own 'awake' answers. -/
namespace Go.Proofs.YtljenganlknhbaaGreat.Sha
open Go.RowKit
theorem sum_any (s : ByteArray) (w : World) (hs : s.size ≤ 140737488355328) : Calls Tryz.prog 126 #[.string s] w fun e w' => e = .returned (.string ⟨(sum s.data.toList).toArray⟩) ∧ Below w.heap.size w w' := by
  have hsz : s.data.toList.length = s.size := rfl
  have Hsz := Lib.hid hsz; clear hsz
  go_enter Tryz.func126, Tryz.ntmps126
  go_wp2_with fail
  refine (new_any _).mono ?_
  rintro e w1 ⟨g, rfl, hg, hblk, hb1⟩
  go_wp2_with fail
  refine (add_any g w.heap.size s H0 (.slice none 0 0) [] 0 w1 H0_isW hblk (SlIs.nil_ _ _ _ _) hg (by omega) (by omega) (by simpa using hs)).mono ?_
  rintro e w2 ⟨rfl, v, hblk2, hsl2, hb2⟩
  have hl1 : (absorb s.size H0 s.data.toList).2.length ≤ 1000 := by
    have := absorb_rest s.size H0 s.data.toList (by rw [Hsz.out]; omega); omega
  have hw1 := absorb_isW s.size H0 s.data.toList H0_isW
  simp only [List.length_nil, Nat.zero_add, List.nil_append, Int.zero_add] at hblk2 hsl2
  have hfin : sum s.data.toList = finish (absorb s.size H0 s.data.toList).1 (absorb s.size H0 s.data.toList).2 s.size := rfl
  generalize absorb s.size H0 s.data.toList = r at *
  have H := Lib.hid (And.intro hblk2 (And.intro hsl2 (And.intro hfin (hb1.trans hb2))))
  clear hblk2 hsl2 hfin hb1 hb2 hblk
  go_wp2_with fail
  refine (end_any g w.heap.size r.1 v r.2 s.size w2 hw1 H.out.1 H.out.2.1 (by omega) hl1).mono ?_
  rintro e w3 ⟨rfl, hb3⟩
  go_wp2_with fail
  go_ret
  exact ⟨by rw [H.out.2.2.1]; rfl, H.out.2.2.2.trans (hb3.mono H.out.2.2.2.size)⟩

theorem sum_nil : sum [] = [227, 176, 196, 66, 152, 252, 28, 20, 154, 251, 244, 200, 153, 111, 185, 36, 39, 174, 65, 228, 100, 155, 147, 76, 164, 149, 153, 27, 120, 82, 184, 85] := by decide +kernel
theorem sum_abc : sum [97, 98, 99] = [186, 120, 22, 191, 143, 1, 207, 234, 65, 65, 64, 222, 93, 174, 34, 35, 176, 3, 97, 163, 150, 23, 122, 156, 180, 16, 255, 97, 242, 0, 21, 173] := by decide +kernel
/-- What is 32 bytes long. -/
theorem sum_size (l : List UInt8) : (ByteArray.mk (sum l).toArray).size = 32 := by
  show (sum l).toArray.size = 32
  rw [List.size_toArray]
  unfold sum finish
  rw [out_length]; rfl
end Go.Proofs.YtljenganlknhbaaGreat.Sha

