/- Several texts in one. (Layer 19.) -/
import Derived.Test.YtljenganlknhbaaGreatPkD
import Derived.Deep.Cut
import Derived.Deep.CutBlock
/- What the reference of layer 2 computes, walked: turn, block. -/
namespace Go.Proofs.YtljenganlknhbaaGreat.Sha
open Go.RowKit
theorem bits_or_comm (k : IntKind) (x y : Int) : bits BinOp.or k x y = bits BinOp.or k y x := by
  simp only [bits, BitVec.or_comm]
theorem turn_any (x n : Int) (w : World) (hx : isW x) (h : 1 ≤ n) (h2 : n ≤ 31) :
    Calls Tryz.prog 170 #[.int .u32 x, .int .i64 n] w fun e w' => e = .returned (.int .u32 (rotl x (32 - n.toNat))) ∧ ∃ m, w' = w.drewN m := by
  obtain ⟨m, rfl⟩ := Int.eq_ofNat_of_zero_le (show 0 ≤ n by omega)
  have hx0 := hx.1
  have hx1 := hx.2
  have e1 : IntKind.i64.wrap (32 - (m : Int)) = 32 - (m : Int) := IntWalk.i64_in _ (by omega)
  have n1 : (32 - (m : Int)).toNat = 32 - m := by omega
  have g1 : (0 : Int) ≤ 32 - (m : Int) := by omega
  have hm : m ≤ 31 := by omega
  have hm1 : 1 ≤ m := by omega
  go_enter Tryz.func170, Tryz.ntmps170
  go_wp2
  go_quiet (fail)
  go_wp2
  go_ret
  refine ⟨?_, _, rfl⟩
  refine ret_int ?_
  rw [bits_or_comm]
  unfold rotl
  rw [Int.toNat_natCast, show 32 - (32 - m) = m by omega]
theorem consts_any (w : World) : Calls Tryz.prog 142 #[] w fun e w' => e = .returned (.agg (nums .u32 kTable)) ∧ Below w.heap.size w w' := by
  have hinfo : (Tryz.prog.info? 150).map (·.size) = some (nums .u32 kTable).size := by kernel_rfl
  go_enter Tryz.func142, Tryz.ntmps142
  go_wp2_with (first
    | (refine wpList_build_to rfl 150 _ rfl (nums .u32 kTable) (by kernel_rfl) ?_)
    | (refine wpList_store_row rfl 150 _ _ rfl w.heap.size (nums .u32 kTable) rfl rfl 150 _ (BlkIs.new _ _ _) hinfo (by rfl) (nums_one _ _) ?_))
  refine bodyPost_ret (results_cell_row rfl _ _ w.heap.size 150 (nums .u32 kTable) (0, 0) _ rfl (BlkIs.row (BlkIs.new _ _ _) _) Tryz.underlying150 rfl hinfo) rfl ⟨rfl, below_row ((Below.refl _ _).alloc (Nat.le_refl _) _) (Nat.le_refl _) _⟩
end Go.Proofs.YtljenganlknhbaaGreat.Sha

/- What the reference's block computes, walked. -/
namespace Go.Proofs.YtljenganlknhbaaGreat.Sha
open Go.RowKit
/-- Of the world only what it is good for is kept. -/
theorem gen_world {P : Program} {c : Code} {Q : Exit → Act → World → Prop} {a : Act} {w : World} (R : World → Prop) (h : R w) (k : ∀ W, R W → c.wp P Q a W) : c.wp P Q a w := k w h
theorem stopper {p : Prop} (h : Hid p) : p := h
theorem nums_round (s : St) (k w : Int) {p q : Int} (hp : p = rp s k w) (hq : q = rq s) : (round s k w).cells = [(p + q) % 4294967296, s.a, s.b, s.c, (s.d + p) % 4294967296, s.e, s.f, s.g] := by
  rw [hp, hq]; rfl
/-- One draw more. -/
def LaterOf.next {w0 : World} (x : LaterOf w0) : LaterOf w0 := ⟨{ x.w with drawn := x.w.drawn + 1 }, ⟨x.h.os, x.h.tape, x.h.output, x.h.size, x.h.block⟩⟩
theorem LaterOf.quiet {P : Program} {f : FuncId} {args : Array Value} {w0 : World} (x : LaterOf w0) {v : Value} (h : Calls P f args x.w fun e w' => e = .returned v ∧ ∃ m, w' = x.w.drewN m) :
    Calls P f args x.w fun e w'' => e = .returned v ∧ ∃ y : LaterOf w0, w'' = y.w :=
  h.mono fun _ _ ⟨he, m, hm⟩ => ⟨he, ⟨x.w.drewN m, below_drewN x.h m⟩, hm⟩
theorem or4 (c0 c1 c2 c3 : Int) (h0 : isB c0) (h1 : isB c1) (h2 : isB c2) (h3 : isB c3) :
    bits BinOp.or IntKind.u32 (bits BinOp.or IntKind.u32 (bits BinOp.or IntKind.u32 (c0 * 16777216) (c1 * 65536)) (c2 * 256)) c3 = ((c0 * 256 + c1) * 256 + c2) * 256 + c3 := by
  unfold isB at *
  have e1 : bits BinOp.or IntKind.u32 (c0 * 16777216) (c1 * 65536) = c0 * 16777216 + c1 * 65536 := by
    rw [u32_or _ _ (by omega) (by omega) (by omega) (by omega), nat_join 24 _ _ (by omega) (by omega)]; omega
  have e2 : bits BinOp.or IntKind.u32 (c0 * 16777216 + c1 * 65536) (c2 * 256) = c0 * 16777216 + c1 * 65536 + c2 * 256 := by
    rw [u32_or _ _ (by omega) (by omega) (by omega) (by omega), nat_join 16 _ _ (by omega) (by omega)]; omega
  have e3 : bits BinOp.or IntKind.u32 (c0 * 16777216 + c1 * 65536 + c2 * 256) c3 = c0 * 16777216 + c1 * 65536 + c2 * 256 + c3 := by
    rw [u32_or _ _ (by omega) (by omega) (by omega) (by omega), nat_join 8 _ _ (by omega) (by omega)]; omega
  rw [e1, e2, e3]; omega
theorem be4 (b0 b1 b2 b3 : Int) : be [b0, b1, b2, b3] = ((b0 * 256 + b1) * 256 + b2) * 256 + b3 := by simp [be]
set_option maxHeartbeats 1000000 in
set_option maxRecDepth 100000 in
theorem block_any (s : St) (b off cap : Nat) (w : World) (bs : List Int) (hs : s.isW) (hl : bs.length = 64)
   (hb : b < w.heap.size) (hbs : ∀ x ∈ bs, isB x) (hc : ∀ j, j < 64 → w.cell? ⟨b, off + j, none⟩ = some (.int .u8 (bs.getD j 0))) :
    Calls Tryz.prog 144 #[.agg (nums .u32 s.cells), .slice (some ⟨b, off, none⟩) 64 cap, .agg (nums .u32 kTable)] w fun e w' => e = .returned (.agg (nums .u32 (mix s bs).cells)) ∧ Below w.heap.size w w' := by
  obtain ⟨s1, s2, s3, s4, s5, s6, s7, s8⟩ := s
  have Hs := Lib.hid hs; clear hs
  have Hc := Lib.hid hc
  clear hc
  have Hl := Lib.hid hl
  clear hl
  have Hbs := Lib.hid hbs
  clear hbs
  obtain ⟨K, hK⟩ : ∃ K, K = nums .u32 kTable := ⟨_, rfl⟩
  rw [← hK]
  have HK := Lib.hid hK; clear hK
  show Calls Tryz.prog 144 #[.agg #[.int .u32 s1, .int .u32 s2, .int .u32 s3, .int .u32 s4, .int .u32 s5, .int .u32 s6, .int .u32 s7, .int .u32 s8], .slice (some ⟨b, off, none⟩) 64 cap, .agg K] w _
  go_enter Tryz.func144, Tryz.ntmps144
  obtain ⟨Z, hZ⟩ : ∃ Z, Z = nums .u32 (upto []) := ⟨_, rfl⟩
  have hbuild : ∀ f : Nat × Operand → Nat × Value, Tryz.prog.built 150 (Array.map f #[]).toList = some Z := fun f => by rw [hZ, show (Array.map f #[]).toList = [] by simp]; kernel_rfl
  have hZs : Z.size = 64 := by rw [hZ]; rfl
  have hinfo : (Tryz.prog.info? 150).map (·.size) = some Z.size := by rw [hZs]; kernel_rfl
  have hZ1 : Z.all (·.oneCell') = true := by rw [hZ]; exact nums_one _ _
  have HZ := Lib.hid (And.intro hZ (And.intro hbuild (And.intro hZs (And.intro hinfo hZ1))))
  clear hZ hbuild hZs hinfo hZ1
  go_upto_region 1 with (fail)
  refine gen_world (fun W => BlkIs W w.heap.size 149 #[.int .u32 s1, .int .u32 s2, .int .u32 s3, .int .u32 s4, .int .u32 s5, .int .u32 s6, .int .u32 s7, .int .u32 s8] ∧ BlkIs W (w.heap.size + 1) 150 K ∧ BlkIs W (w.heap.size + 1 + 1) 149 (nums .u32 [0, 0, 0, 0, 0, 0, 0, 0]) ∧ W.heap.size = w.heap.size + 1 + 1 + 1 ∧ Below w.heap.size w W)
    ⟨((BlkIs.new _ _ _).alloc _).alloc _, (BlkIs.new2 _ _ _ _).alloc _, BlkIs.new3 _ _ _ _ _, by simp only [World.size_alloc], (((Below.refl _ _).alloc (Nat.le_refl _) _).alloc (by simp only [World.size_alloc]; omega) _).alloc (by simp only [World.size_alloc]; omega) _⟩ ?_
  rintro W ⟨f0, f1, f2, fz, fb⟩
  have F := Lib.hid (And.intro f0 (And.intro f1 (And.intro f2 (And.intro fz fb))))
  clear f0 f1 f2 fz fb
  go_wp2_with (first
    | (refine wpList_build_to rfl 150 _ rfl Z (HZ.out.2.1 _) ?_)
    | (refine wpList_store_row_to rfl 150 _ _ rfl W.heap.size Z rfl rfl 150 _ (BlkIs.new _ _ _) HZ.out.2.2.2.1 (by rw [HZ.out.2.2.1]; rfl) HZ.out.2.2.2.2 ?_
       intro w2 hk2 hg2))
  have hbW : b < W.heap.size := by have := F.out.2.2.2.1; omega
  have hbe2 : Below W.heap.size W w2 := ((Below.refl _ _).alloc (Nat.le_refl _) _).trans (grown_below hg2 (Nat.le_refl _) (by simp only [World.size_alloc]; omega))
  have H2 := Lib.hid (And.intro hk2 hbe2); clear hk2 hbe2 hg2
  go_loopw [8] (fun i wr => ∃ t : Nat, t ≤ 16 ∧ i = .int .i64 t ∧ BlkIs wr W.heap.size 150 (nums .u32 (upto ((List.range t).map (word bs)))) ∧ Below W.heap.size W wr) (fun i _ => 16 - (intOf i).toNat)
  case atStart => exact ⟨0, by omega, rfl, by have := H2.out.1; rw [HZ.out.1] at this; exact this, H2.out.2⟩
  case round =>
    obtain ⟨t, ht, rfl, hblk, hbe⟩ := hrel
    by_cases hlt : t < 16
    · have h1 : (t : Int) < 16 := by omega
      have hlen := Hl.out
      obtain ⟨c0, hc0⟩ : ∃ c, c = bs.getD (4 * t) 0 := ⟨_, rfl⟩
      obtain ⟨c1, hc1⟩ : ∃ c, c = bs.getD (4 * t + 1) 0 := ⟨_, rfl⟩
      obtain ⟨c2, hc2⟩ : ∃ c, c = bs.getD (4 * t + 2) 0 := ⟨_, rfl⟩
      obtain ⟨c3, hc3⟩ : ∃ c, c = bs.getD (4 * t + 3) 0 := ⟨_, rfl⟩
      have byte : ∀ j, j < 64 → ∀ x : LaterOf wr, x.w.cell? ⟨b, off + j, none⟩ = some (.int .u8 (bs.getD j 0)) := fun j hj x => by
        have e1 : x.w.cell? ⟨b, off + j, none⟩ = wr.cell? ⟨b, off + j, none⟩ := x.h.cell (p := ⟨b, off + j, none⟩) (by have := hbe.size; show b < _; omega)
        have e2 : wr.cell? ⟨b, off + j, none⟩ = W.cell? ⟨b, off + j, none⟩ := hbe.cell (p := ⟨b, off + j, none⟩) hbW
        have e3 : W.cell? ⟨b, off + j, none⟩ = w.cell? ⟨b, off + j, none⟩ := F.out.2.2.2.2.cell (p := ⟨b, off + j, none⟩) hb
        rw [e1, e2, e3]; exact Hc.out j hj
      have x0 := byte (4 * t) (by omega)
      have x1 := byte (4 * t + 1) (by omega)
      have x2 := byte (4 * t + 2) (by omega)
      have x3 := byte (4 * t + 3) (by omega)
      rw [← hc0] at x0; rw [← hc1] at x1; rw [← hc2] at x2; rw [← hc3] at x3
      clear byte
      have m : ∀ j, isB (bs.getD j 0) := getD_all (p := isB) ⟨by decide, by decide⟩ bs Hbs.out
      have b0 : isB c0 := hc0 ▸ m _
      have b1 : isB c1 := hc1 ▸ m _
      have b2 : isB c2 := hc2 ▸ m _
      have b3 : isB c3 := hc3 ▸ m _
      clear m
      have p0 := b0.1; have p1 := b1.1; have p2 := b2.1; have p3 := b3.1
      have q0 := b0.2; have q1 := b1.2; have q2 := b2.2; have q3 := b3.2
      obtain ⟨v, hv⟩ : ∃ v, v = word bs t := ⟨_, rfl⟩
      have hvv : v = ((c0 * 256 + c1) * 256 + c2) * 256 + c3 := by
        rw [hv, hc0, hc1, hc2, hc3, ← be4]
        unfold word
        congr 1
        apply List.ext_getElem?
        intro i
        rw [List.getElem?_take, List.getElem?_drop]
        by_cases hi : i < 4
        · rw [if_pos hi]
          have : i = 0 ∨ i = 1 ∨ i = 2 ∨ i = 3 := by omega
          rcases this with rfl | rfl | rfl | rfl <;> (rw [List.getElem?_eq_getElem (by omega)]; simp [List.getD, hlen, show 4 * t < 64 by omega, show 4 * t + 1 < 64 by omega, show 4 * t + 2 < 64 by omega, show 4 * t + 3 < 64 by omega])
        · rw [if_neg hi, List.getElem?_eq_none (by simp; omega)]
      have hor : bits BinOp.or IntKind.u32 (bits BinOp.or IntKind.u32 (bits BinOp.or IntKind.u32 (c0 * 16777216) (c1 * 65536)) (c2 * 256)) c3 = v := by
        rw [hvv]; exact or4 c0 c1 c2 c3 b0 b1 b2 b3
      clear hvv
      have H := Lib.hid (And.intro hblk (And.intro hbe (And.intro hv (And.intro hc0 (And.intro hc1 (And.intro hc2 hc3))))))
      clear hblk hbe hv hc0 hc1 hc2 hc3 b0 b1 b2 b3 hlen
      have e0 : IntKind.i64.wrap (4 * (t : Int)) = 4 * (t : Int) := IntWalk.i64_in _ (by omega)
      have e1 : IntKind.i64.wrap (4 * (t : Int) + 1) = 4 * (t : Int) + 1 := IntWalk.i64_in _ (by omega)
      have e2 : IntKind.i64.wrap (4 * (t : Int) + 2) = 4 * (t : Int) + 2 := IntWalk.i64_in _ (by omega)
      have e3 : IntKind.i64.wrap (4 * (t : Int) + 3) = 4 * (t : Int) + 3 := IntWalk.i64_in _ (by omega)
      have n0 : (4 * (t : Int)).toNat = 4 * t := by omega
      have n1 : (4 * (t : Int) + 1).toNat = 4 * t + 1 := by omega
      have n2 : (4 * (t : Int) + 2).toNat = 4 * t + 2 := by omega
      have n3 : (4 * (t : Int) + 3).toNat = 4 * t + 3 := by omega
      have g0 : (0 : Int) ≤ 4 * (t : Int) := by omega
      have g1 : (0 : Int) ≤ 4 * (t : Int) + 1 := by omega
      have g2 : (0 : Int) ≤ 4 * (t : Int) + 2 := by omega
      have g3 : (0 : Int) ≤ 4 * (t : Int) + 3 := by omega
      have l0 : 4 * (t : Int) < 64 := by omega
      have l1 : 4 * (t : Int) + 1 < 64 := by omega
      have l2 : 4 * (t : Int) + 2 < 64 := by omega
      have l3 : 4 * (t : Int) + 3 < 64 := by omega
      go_wp2
      refine wp_region_heads (fun w' => ∃ x : LaterOf wr, w' = x.w) 35 (by kernel_rfl) (by kernel_rfl) ⟨LaterOf.start wr, rfl⟩ ?_
      simp only [List.take_succ_cons, List.take_zero, List.drop_succ_cons, List.drop_zero]
      repeat (go_big_quiet_step (fail))
      refine wpQuiet_nil ?_
      intro w3 hw3
      obtain ⟨x, rfl⟩ := hw3
      have hb3 := x.blk H.out.1
      have hx3 := x.h
      generalize x.w = w3 at hb3 hx3 ⊢
      have hcf : w3.frozen? ⟨W.heap.size, t, none⟩ = false := hb3.free _
      obtain ⟨u, hu⟩ : ∃ u, w3.cell? ⟨W.heap.size, t, none⟩ = some u := ⟨_, by rw [hb3.cell, nums_get _ _ _ (by rw [upto_length _ (by simp; omega)]; omega)]⟩
      have hput := hb3.put t (.int .u32 v)
      have hln : ((List.range t).map (word bs)).length = t := by simp
      rw [nums_set] at hput
      have hset : (upto ((List.range t).map (word bs))).set t v = upto ((List.range (t + 1)).map (word bs)) := by
        have := upto_set ((List.range t).map (word bs)) v (by omega)
        rw [hln] at this
        rw [this, List.range_succ, List.map_append, H.out.2.2.1]; rfl
      rw [hset] at hput
      have hbe4 : Below W.heap.size W (w3.setCell ⟨W.heap.size, t, none⟩ (.int .u32 v)) := (H.out.2.1.trans (hx3.mono H.out.2.1.size)).setCell (p := ⟨W.heap.size, t, none⟩) (Nat.le_refl _) _
      have H5 := Lib.hid (And.intro hput hbe4)
      clear hput hbe4 hset hln hb3 x0 x1 x2 x3 hx3 hor
      go_wp2
      go_roundw
      case rel => exact ⟨t + 1, by omega, by go_num, H5.out.1, H5.out.2⟩
      case measure => simp [intOf]; omega
    · have h1 : ¬ (t : Int) < 16 := by omega
      have hblk2 : BlkIs wr W.heap.size 150 (nums .u32 (upto (first16 bs))) := by
        have ht16 : t = 16 := by omega
        rw [ht16] at hblk; exact hblk
      have H3 := Lib.hid (And.intro hblk2 hbe)
      clear hblk hblk2 hbe
      go_wp2
      clear h1 hlt
      go_loopw [9, 10, 11] (fun i _ _ wr => ∃ k : Nat, 16 ≤ k ∧ k ≤ 64 ∧ i = .int .i64 k ∧ BlkIs wr W.heap.size 150 (nums .u32 (upto (sched (k - 16) (first16 bs)))) ∧ Below W.heap.size W wr) (fun i _ _ _ => 64 - (intOf i).toNat)
      case atStart => exact ⟨16, by omega, by omega, rfl, H3.out.1, H3.out.2⟩
      case round =>
        obtain ⟨k, hk0, hk, rfl, hblk, hbe⟩ := hrel
        obtain ⟨L, hL⟩ : ∃ L, L = sched (k - 16) (first16 bs) := ⟨_, rfl⟩
        rw [← hL] at hblk
        have hLl : L.length = k := by rw [hL, sched_length, first16_length]; omega
        have hLW : ∀ i, isW (L.getD i 0) := fun i => hL ▸ sched_isW bs Hbs.out _ i
        by_cases hlt : k < 64
        · have h1 : (k : Int) < 64 := by omega
          have cell : ∀ m, m < L.length → ∀ x : LaterOf wr, x.w.cell? ⟨W.heap.size, m, none⟩ = some (.int .u32 (L.getD m 0)) := fun m hm x => by
            rw [(x.blk hblk).cell, nums_get _ _ _ (by rw [upto_length _ (by omega)]; omega), upto_get _ _ hm]
          have cell0 : ∀ m, m < L.length → wr.cell? ⟨W.heap.size, m, none⟩ = some (.int .u32 (L.getD m 0)) := fun m hm => by
            rw [hblk.cell, nums_get _ _ _ (by rw [upto_length _ (by omega)]; omega), upto_get _ _ hm]
          have c1 := cell0 (k - 15) (by omega)
          have c2 := cell0 (k - 2) (by omega)
          have x3 := cell (k - 16) (by omega)
          have x4 := cell (k - 7) (by omega)
          clear cell cell0
          obtain ⟨x, hx⟩ : ∃ x, x = L.getD (k - 15) 0 := ⟨_, rfl⟩
          obtain ⟨y, hy⟩ : ∃ y, y = L.getD (k - 2) 0 := ⟨_, rfl⟩
          obtain ⟨p, hp⟩ : ∃ p, p = L.getD (k - 16) 0 := ⟨_, rfl⟩
          obtain ⟨q, hq⟩ : ∃ q, q = L.getD (k - 7) 0 := ⟨_, rfl⟩
          rw [← hx] at c1; rw [← hy] at c2; rw [← hp] at x3; rw [← hq] at x4
          have hxw : isW x := hx ▸ hLW _
          have hyw : isW y := hy ▸ hLW _
          obtain ⟨nx, hnx⟩ : ∃ nx, nx = (p + s0 x + q + Sha.s1 y) % 4294967296 := ⟨_, rfl⟩
          have H := Lib.hid (And.intro hblk (And.intro hL (And.intro hx (And.intro hy (And.intro hp (And.intro hq (And.intro hLl (And.intro hbe hnx))))))))
          clear hblk hL hx hy hp hq hLl hLW hbe hnx
          have hx0 := hxw.1
          have hy0 := hyw.1
          have e3 : IntKind.i64.wrap ((k : Int) - 16) = (k : Int) - 16 := IntWalk.i64_in _ (by omega)
          have e4 : IntKind.i64.wrap ((k : Int) - 7) = (k : Int) - 7 := IntWalk.i64_in _ (by omega)
          have n3 : ((k : Int) - 16).toNat = k - 16 := by omega
          have n4 : ((k : Int) - 7).toNat = k - 7 := by omega
          have g3 : (0 : Int) ≤ (k : Int) - 16 := by omega
          have g4 : (0 : Int) ≤ (k : Int) - 7 := by omega
          have l3 : (k : Int) - 16 < 64 := by omega
          have l4 : (k : Int) - 7 < 64 := by omega
          go_wp2
          refine wp_region_heads (fun w' => ∃ x : LaterOf wr, w' = x.w) 29 (by kernel_rfl) (by kernel_rfl) ⟨LaterOf.start wr, rfl⟩ ?_
          simp only [List.take_succ_cons, List.take_zero, List.drop_succ_cons, List.drop_zero]
          repeat (go_big_quiet_step (exact LaterOf.quiet _ (turn_any _ _ _ (by first | exact hxw | exact hyw) (by omega) (by omega))))
          refine wpQuiet_nil ?_
          intro w3 hw3
          obtain ⟨xx, rfl⟩ := hw3
          have hb3 := xx.blk H.out.1
          have hx3 := xx.h
          generalize xx.w = w3 at hb3 hx3 ⊢
          have hcf : w3.frozen? ⟨W.heap.size, k, none⟩ = false := hb3.free _
          obtain ⟨u, hu⟩ : ∃ u, w3.cell? ⟨W.heap.size, k, none⟩ = some u := ⟨_, by rw [hb3.cell, nums_get _ _ _ (by rw [upto_length _ (by have := H.out.2.2.2.2.2.2.1; omega)]; omega)]⟩
          have H4 := Lib.hid (And.intro hb3 hx3)
          clear hb3 x3 x4 hx3
          go_wp2
          go_roundw
          case rel =>
            obtain ⟨hblk, hL, hx, hy, hp, hq, hLl, hbe, hnx⟩ := H.out
            refine ⟨k + 1, by omega, by omega, by go_num, ?_, (hbe.trans (H4.out.2.mono hbe.size)).setCell (p := ⟨W.heap.size, k, none⟩) (Nat.le_refl _) _⟩
            have e := H4.out.1.put k (.int .u32 nx)
            rw [nums_set, ← hLl, upto_set L _ (by omega)] at e
            have e2 : sched (k + 1 - 16) (first16 bs) = L ++ [nx] := by
              rw [show k + 1 - 16 = (k - 16) + 1 by omega, sched, ← hL, hnx]
              unfold nextW
              rw [hLl, ← hx, ← hy, ← hp, ← hq]
            rw [e2]
            rw [hLl, hnx] at e
            rw [hnx]
            exact e
          case measure => simp [intOf]; omega
        · have h1 : ¬ (k : Int) < 64 := by omega
          have hblk2 : BlkIs wr W.heap.size 150 (nums .u32 (words bs)) := by
            have hk64 : k = 64 := by omega
            rw [hL, hk64] at hblk
            have e : upto (sched 48 (first16 bs)) = words bs := by
              unfold upto words; rw [sched_length, first16_length]; simp
            rw [← e]; exact hblk
          have H4 := Lib.hid (And.intro hblk2 hbe)
          clear hblk hblk2 hbe hL hLl hLW
          have hbox : BlkIs wr w.heap.size 149 #[.int .u32 s1, .int .u32 s2, .int .u32 s3, .int .u32 s4, .int .u32 s5, .int .u32 s6, .int .u32 s7, .int .u32 s8] := F.out.1.below H4.out.2 F.out.1.lt
          have d0 : wr.cell? ⟨w.heap.size, 0, none⟩ = some (.int .u32 s1) := hbox.cell 0
          have d1 : wr.cell? ⟨w.heap.size, 1, none⟩ = some (.int .u32 s2) := hbox.cell 1
          have d2 : wr.cell? ⟨w.heap.size, 2, none⟩ = some (.int .u32 s3) := hbox.cell 2
          have d3 : wr.cell? ⟨w.heap.size, 3, none⟩ = some (.int .u32 s4) := hbox.cell 3
          have d4 : wr.cell? ⟨w.heap.size, 4, none⟩ = some (.int .u32 s5) := hbox.cell 4
          have d5 : wr.cell? ⟨w.heap.size, 5, none⟩ = some (.int .u32 s6) := hbox.cell 5
          have d6 : wr.cell? ⟨w.heap.size, 6, none⟩ = some (.int .u32 s7) := hbox.cell 6
          have d7 : wr.cell? ⟨w.heap.size, 7, none⟩ = some (.int .u32 s8) := hbox.cell 7
          clear hbox
          go_upto_region 13 with (fail)
          refine gen_world (fun W3 => BlkIs W3 wr.heap.size 149 (nums .u32 (St.mk s1 s2 s3 s4 s5 s6 s7 s8).cells) ∧ Below wr.heap.size wr W3) ⟨BlkIs.new _ _ _, (Below.refl _ _).alloc (Nat.le_refl _) _⟩ ?_
          rintro W3 ⟨v0, vb⟩
          have FV := Lib.hid (And.intro v0 vb)
          clear v0 vb d0 d1 d2 d3 d4 d5 d6 d7 h1 hlt hk0 hk
          obtain ⟨ws, hws⟩ : ∃ ws, ws = words bs := ⟨_, rfl⟩
          have hwl : ws.length = 64 := by rw [hws, words_length]
          have HW := Lib.hid (And.intro hws hwl); clear hws hwl
          have hVw : W.heap.size < wr.heap.size := H4.out.1.lt
          have hVF : w.heap.size + 1 + 1 + 1 ≤ W.heap.size := by have := F.out.2.2.2.1; omega
          go_wp2
          obtain ⟨wv, rfl⟩ : ∃ wv : World, wv = wr := ⟨_, rfl⟩
          go_loopw [13, 14, 15, 16, 17] (fun i _ _ _ _ wr => ∃ (t : Nat) (z : St), t ≤ 64 ∧ i = .int .i64 t ∧ z = rounds ws t ⟨s1, s2, s3, s4, s5, s6, s7, s8⟩ ∧ z.isW ∧ BlkIs wr wv.heap.size 149 (nums .u32 z.cells) ∧ Below wv.heap.size wv wr) (fun i _ _ _ _ _ => 64 - (intOf i).toNat)
          case atStart => exact ⟨0, _, by omega, rfl, rfl, Hs.out, FV.out.1, FV.out.2⟩
          case round =>
            obtain ⟨t, z, ht, rfl, hz, hzw, hblk, hbe⟩ := hrel
            obtain ⟨z1, z2, z3, z4, z5, z6, z7, z8⟩ := z
            by_cases hlt : t < 64
            · have h1 : (t : Int) < 64 := by omega
              obtain ⟨wt, hwt⟩ : ∃ wt, wt = ws.getD t 0 := ⟨_, rfl⟩
              obtain ⟨kt, hkt⟩ : ∃ kt, kt = kTable.getD t 0 := ⟨_, rfl⟩
              have hKb : BlkIs wv (w.heap.size + 1) 150 K := F.out.2.1.below H4.out.2 F.out.2.1.lt
              have hKc : K[t]? = some (.int .u32 kt) := by rw [HK.out, hkt]; exact nums_get _ _ _ hlt
              have hWb : BlkIs wv W.heap.size 150 (nums .u32 ws) := by rw [HW.out.1]; exact H4.out.1
              have hWc : (nums .u32 ws)[t]? = some (.int .u32 wt) := by rw [hwt]; exact nums_get _ _ _ (by rw [HW.out.2]; exact hlt)
              have xk : ∀ x : LaterOf wr, x.w.cell? ⟨w.heap.size + 1, t, none⟩ = some (.int .u32 kt) := fun x => by rw [(x.blk (hKb.below hbe hKb.lt)).cell, hKc]
              have xw : ∀ x : LaterOf wr, x.w.cell? ⟨W.heap.size, t, none⟩ = some (.int .u32 wt) := fun x => by rw [(x.blk (hWb.below hbe hWb.lt)).cell, hWc]
              have x1 : ∀ x : LaterOf wr, x.w.cell? ⟨wv.heap.size, 1, none⟩ = some (.int .u32 z2) := fun x => (x.blk hblk).cell 1
              have x2 : ∀ x : LaterOf wr, x.w.cell? ⟨wv.heap.size, 2, none⟩ = some (.int .u32 z3) := fun x => (x.blk hblk).cell 2
              have x3 : ∀ x : LaterOf wr, x.w.cell? ⟨wv.heap.size, 3, none⟩ = some (.int .u32 z4) := fun x => (x.blk hblk).cell 3
              have x5 : ∀ x : LaterOf wr, x.w.cell? ⟨wv.heap.size, 5, none⟩ = some (.int .u32 z6) := fun x => (x.blk hblk).cell 5
              have x6 : ∀ x : LaterOf wr, x.w.cell? ⟨wv.heap.size, 6, none⟩ = some (.int .u32 z7) := fun x => (x.blk hblk).cell 6
              have x7 : ∀ x : LaterOf wr, x.w.cell? ⟨wv.heap.size, 7, none⟩ = some (.int .u32 z8) := fun x => (x.blk hblk).cell 7
              have c0 : wr.cell? ⟨wv.heap.size, 0, none⟩ = some (.int .u32 z1) := hblk.cell 0
              have c4 : wr.cell? ⟨wv.heap.size, 4, none⟩ = some (.int .u32 z5) := hblk.cell 4
              have He : isW z5 := hzw.2.2.2.2.1
              have Ha : isW z1 := hzw.1
              have He0 := He.1
              have He1 := He.2
              have hp : ∀ T c : Int, ((z8 + T + c + kt) % 4294967296 + wt) % 4294967296 = (z8 + T + c + kt + wt) % 4294967296 := fun T c => by omega
              obtain ⟨pv, hpv⟩ : ∃ pv, pv = rp ⟨z1, z2, z3, z4, z5, z6, z7, z8⟩ kt wt := ⟨_, rfl⟩
              obtain ⟨qv, hqv⟩ : ∃ qv, qv = rq ⟨z1, z2, z3, z4, z5, z6, z7, z8⟩ := ⟨_, rfl⟩
              have hpe : ((z8 + bits BinOp.xor IntKind.u32 (bits BinOp.xor IntKind.u32 (rotl z5 26) (rotl z5 21)) (rotl z5 7) + bits BinOp.xor IntKind.u32 (bits BinOp.and IntKind.u32 z5 z6) (bits BinOp.and IntKind.u32 (bits BinOp.xor IntKind.u32 (if IntKind.u32.signed = true then -1 else IntKind.u32.max) z5) z7) + kt) % 4294967296 + wt) % 4294967296 = pv := by
                rw [hpv, hp]; rfl
              have hqe : (bits BinOp.xor IntKind.u32 (bits BinOp.xor IntKind.u32 (rotl z1 30) (rotl z1 19)) (rotl z1 10) + bits BinOp.xor IntKind.u32 (bits BinOp.xor IntKind.u32 (bits BinOp.and IntKind.u32 z1 z2) (bits BinOp.and IntKind.u32 z1 z3)) (bits BinOp.and IntKind.u32 z2 z3)) % 4294967296 = qv := by
                rw [hqv]; rfl
              have Hpq := Lib.hid (And.intro hpe (And.intro hqe (And.intro hpv hqv)))
              clear hp hpe hqe hpv hqv
              have H5 := Lib.hid (And.intro hblk (And.intro hbe (And.intro hz (And.intro hzw (And.intro hwt hkt)))))
              clear hblk hbe hz hzw hwt hkt hKb hKc hWb hWc
              go_upto_region 18 with (fail)
              refine wp_region_all (fun w' => ∃ x : LaterOf wr, w' = x.w) (by kernel_rfl) (by kernel_rfl) ⟨LaterOf.start wr, rfl⟩ ?_
              repeat (go_big_quiet_step (exact LaterOf.quiet _ (turn_any _ _ _ He (by omega) (by omega))))
              refine wpQuiet_nil ?_
              intro w5 hw5
              obtain ⟨xx, rfl⟩ := hw5
              rw [Hpq.out.1]
              go_upto_region 19 with (fail)
              refine wp_region_all (fun w' => ∃ x : LaterOf wr, w' = x.w) (by kernel_rfl) (by kernel_rfl) ⟨LaterOf.next xx, rfl⟩ ?_
              repeat (go_big_quiet_step (exact LaterOf.quiet _ (turn_any _ _ _ Ha (by omega) (by omega))))
              refine wpQuiet_nil ?_
              intro w6 hw6
              obtain ⟨xy, rfl⟩ := hw6
              rw [Hpq.out.2.1]
              have hbv := xy.blk H5.out.1
              have hi57 : (Tryz.prog.info? 149).map (·.size) = some (nums .u32 (round ⟨z1, z2, z3, z4, z5, z6, z7, z8⟩ kt wt).cells).size := by kernel_rfl
              have Hbv := Lib.hid hbv; clear hbv
              go_wp2_with (refine wpList_store_row_to rfl 149 _ _ rfl wv.heap.size (nums .u32 (round ⟨z1, z2, z3, z4, z5, z6, z7, z8⟩ kt wt).cells) (by rfl) (by rw [nums_round _ _ _ Hpq.out.2.2.1 Hpq.out.2.2.2]; rfl) 149 _ Hbv.out hi57 rfl (nums_one _ _) ?_; intro w7 hb7 hg7)
              clear x1 x2 x3 x5 x6 x7 xk xw
              have hxy := xy.h
              go_roundw
              case rel =>
                refine ⟨t + 1, round ⟨z1, z2, z3, z4, z5, z6, z7, z8⟩ kt wt, by omega, by go_num, ?_, ?_, hb7, ?_⟩
                · rw [H5.out.2.2.2.2.1, H5.out.2.2.2.2.2, H5.out.2.2.1]; rfl
                · obtain ⟨q1, q2, q3, q4, q5, q6, q7, q8⟩ := H5.out.2.2.2.1
                  refine ⟨?_, q1, q2, q3, ?_, q5, q6, q7⟩ <;> (unfold Sha.isW; simp only [round]; omega)
                · exact (H5.out.2.1.trans (hxy.mono H5.out.2.1.size)).trans (grown_below hg7 (Nat.le_refl _) (Nat.le_trans H5.out.2.1.size hxy.size))
              case measure => simp [intOf]; omega
            · have h1 : ¬ (t : Int) < 64 := by omega
              have hz64 : (St.mk z1 z2 z3 z4 z5 z6 z7 z8) = rounds (words bs) 64 ⟨s1, s2, s3, s4, s5, s6, s7, s8⟩ := by
                have : t = 64 := by omega
                rw [hz, HW.out.1, this]
              have H5 := Lib.hid (And.intro hblk (And.intro hbe hz64))
              clear hblk hbe hz hz64 hzw
              go_wp2
              obtain ⟨wu, rfl⟩ : ∃ wu : World, wu = wr := ⟨_, rfl⟩
              obtain ⟨zc, hzc⟩ : ∃ zc, zc = (St.mk z1 z2 z3 z4 z5 z6 z7 z8).cells := ⟨_, rfl⟩
              obtain ⟨sc, hsc⟩ : ∃ sc, sc = (St.mk s1 s2 s3 s4 s5 s6 s7 s8).cells := ⟨_, rfl⟩
              have HC := Lib.hid (And.intro hzc hsc); clear hzc hsc h1 hlt
              go_loopw [18] (fun i wr => ∃ (t : Nat) (L : List Int), t ≤ 8 ∧ i = .int .i64 t ∧ L.length = 8 ∧ (∀ j, L.getD j 0 = if j < t then (zc.getD j 0 + sc.getD j 0) % 4294967296 else zc.getD j 0) ∧ BlkIs wr wv.heap.size 149 (nums .u32 L) ∧ Below wv.heap.size wv wr) (fun i _ => 8 - (intOf i).toNat)
              case atStart => exact ⟨0, zc, by omega, rfl, by rw [HC.out.1]; rfl, fun j => by rw [if_neg (by omega)], by rw [HC.out.1]; exact H5.out.1, H5.out.2.1⟩
              case round =>
                obtain ⟨t, L, ht, rfl, hL8, hLv, hblk, hbe⟩ := hrel
                have hsb : BlkIs wv w.heap.size 149 (nums .u32 sc) := by rw [HC.out.2]; exact F.out.1.below H4.out.2 F.out.1.lt
                have hsl : sc.length = 8 := by rw [HC.out.2]; rfl
                by_cases hlt : t < 8
                · have h1 : (t : Int) < 8 := by omega
                  obtain ⟨a, ha⟩ : ∃ a, a = zc.getD t 0 := ⟨_, rfl⟩
                  obtain ⟨d, hd⟩ : ∃ d, d = sc.getD t 0 := ⟨_, rfl⟩
                  have hLt : L.getD t 0 = a := by rw [hLv, if_neg (by omega), ha]
                  have xv : ∀ x : LaterOf wr, x.w.cell? ⟨wv.heap.size, t, none⟩ = some (.int .u32 a) := fun x => by rw [(x.blk hblk).cell, nums_get _ _ _ (by omega), hLt]
                  have xs : ∀ x : LaterOf wr, x.w.cell? ⟨w.heap.size, t, none⟩ = some (.int .u32 d) := fun x => by rw [(x.blk (hsb.below hbe hsb.lt)).cell, nums_get _ _ _ (by omega), hd]
                  have H6 := Lib.hid (And.intro hL8 (And.intro hLv (And.intro hblk (And.intro hbe (And.intro ha hd)))))
                  clear hL8 hLv hblk hbe ha hd hLt hsb hsl
                  go_upto_region 24 with (fail)
                  refine wp_region_heads (fun w' => ∃ x : LaterOf wr, w' = x.w) 9 (by kernel_rfl) (by kernel_rfl) ⟨LaterOf.start wr, rfl⟩ ?_
                  simp only [List.take_succ_cons, List.take_zero, List.drop_succ_cons, List.drop_zero]
                  repeat (go_big_quiet_step (fail))
                  refine wpQuiet_nil ?_
                  intro w8 hw8
                  obtain ⟨xx, rfl⟩ := hw8
                  have hb3 := xx.blk H6.out.2.2.1
                  have hx3 := xx.h
                  clear xv xs
                  generalize xx.w = w8 at hb3 hx3 ⊢
                  have hcf : w8.frozen? ⟨wv.heap.size, t, none⟩ = false := hb3.free _
                  obtain ⟨u, hu⟩ : ∃ u, w8.cell? ⟨wv.heap.size, t, none⟩ = some u := ⟨_, by rw [hb3.cell, nums_get _ _ _ (by have := H6.out.1; omega)]⟩
                  have H7 := Lib.hid (And.intro hb3 hx3)
                  clear hb3 hx3
                  go_wp2
                  go_roundw
                  case rel =>
                    refine ⟨t + 1, L.set t ((a + d) % 4294967296), by omega, by go_num, by rw [List.length_set]; exact H6.out.1, fun j => ?_, by rw [← nums_set]; exact H7.out.1.put _ _, ((H6.out.2.2.2.1).trans (H7.out.2.mono H6.out.2.2.2.1.size)).setCell (p := ⟨wv.heap.size, t, none⟩) (Nat.le_refl _) _⟩
                    by_cases hj : j = t
                    · subst hj
                      rw [if_pos (by omega), ← H6.out.2.2.2.2.1, ← H6.out.2.2.2.2.2, List.getD, List.getElem?_set_self (by have := H6.out.1; omega)]; rfl
                    · rw [List.getD, List.getElem?_set_ne (Ne.symm hj), ← List.getD, H6.out.2.1 j]
                      by_cases hjt : j < t
                      · rw [if_pos hjt, if_pos (by omega)]
                      · rw [if_neg hjt, if_neg (by omega)]
                  case measure => simp [intOf]; omega
                · have h1 : ¬ (t : Int) < 8 := by omega
                  have hres := (F.out.2.2.1.below H4.out.2 F.out.2.2.1.lt)
                  have hres2 := hres.below hbe hres.lt
                  have hLL : L = (mix ⟨s1, s2, s3, s4, s5, s6, s7, s8⟩ bs).cells := by
                    have ht8 : t = 8 := by omega
                    apply List.ext_getElem?
                    intro j
                    by_cases hj : j < 8
                    · have e := hLv j
                      rw [if_pos (by omega), HC.out.1, HC.out.2] at e
                      rw [List.getElem?_eq_getElem (by omega), List.getElem?_eq_getElem (show j < 8 from hj)]
                      rw [List.getD, List.getElem?_eq_getElem (by omega)] at e
                      simp only [Option.getD_some] at e
                      rw [e]
                      unfold mix
                      rw [← H5.out.2.2]
                      have : j = 0 ∨ j = 1 ∨ j = 2 ∨ j = 3 ∨ j = 4 ∨ j = 5 ∨ j = 6 ∨ j = 7 := by omega
                      rcases this with rfl | rfl | rfl | rfl | rfl | rfl | rfl | rfl <;> exact congrArg (fun x : Int => some (x % 4294967296)) (Int.add_comm _ _)
                    · rw [List.getElem?_eq_none (by omega), List.getElem?_eq_none (show 8 ≤ j by omega)]
                  have hi57 : (Tryz.prog.info? 149).map (·.size) = some (nums .u32 L).size := by rw [nums_size, hL8]; kernel_rfl
                  have hbe0 : Below w.heap.size w wr := (F.out.2.2.2.2.trans (H4.out.2.mono (by omega))).trans (hbe.mono (by omega))
                  have Hb := Lib.hid (And.intro hblk (And.intro hres2 (And.intro hLL (And.intro hbe0 hL8))))
                  clear hblk hres hres2 hLL hbe0 hL8 hLv hbe
                  go_wp2_with (first
                    | (refine wpList_load_row rfl 149 _ rfl wv.heap.size rfl 149 (nums .u32 L) (0, 0) _ Hb.out.1 Tryz.underlying149 rfl hi57 ?_)
                    | (refine wpList_store_row_to rfl 149 _ _ rfl (w.heap.size + 1 + 1) (nums .u32 L) (by rfl) (by rfl) 149 _ Hb.out.2.1 hi57 (by rw [nums_size, nums_size, Hb.out.2.2.2.2]; rfl) (nums_one _ _) ?_; intro w9 hb9 hg9))
                  refine bodyPost_ret (results_cell_row rfl _ _ (w.heap.size + 1 + 1) 149 (nums .u32 L) (0, 0) _ rfl hb9 Tryz.underlying149 rfl hi57) rfl ⟨by rw [Hb.out.2.2.1], Hb.out.2.2.2.1.trans (grown_below hg9 (by omega) Hb.out.2.2.2.1.size)⟩
end Go.Proofs.YtljenganlknhbaaGreat.Sha

