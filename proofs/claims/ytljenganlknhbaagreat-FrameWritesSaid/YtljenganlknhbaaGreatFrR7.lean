/- The reference's Encode, walked. Printed by gen_frr7.py. (Layer 19.) -/
import Derived.Test.YtljenganlknhbaaGreatFrR6
namespace Go.Proofs.YtljenganlknhbaaGreat.Fr
set_option linter.unusedVariables false
set_option linter.unusedSimpArgs false
open Go.RowKit Go.Lib Oct
open Mk (MkR aMk okN enNum_size)
set_option maxRecDepth 100000 in
theorem rencode_bad (m : MsgR) (w : World) (h : m.Reads w) (hs : m.Small) (hg : goodM m.msg = false) : Calls Tryz.prog 11 #[aMsg m] w fun e w' => e = .returned (.tuple #[.string ⟨#[]⟩, .int .i64 1]) ∧ Below w.heap.size w w' := by
  obtain ⟨W1, hW1⟩ : ∃ W1, W1 = w.alloc (.cells #[.int .i64 m.kind, .int .i64 m.src, .int .i64 m.dst, .int .i64 m.ses, .int .i64 m.step, m.pv, m.cv, m.iv, m.ov, m.mar.rv, m.mar.kv, m.mar.bv] 30) := ⟨_, rfl⟩
  have hb1 : Below w.heap.size w W1 := by rw [hW1]; exact (Below.refl _ _).alloc (Nat.le_refl _) _
  have hr := h.later hb1
  obtain ⟨o1, f1, o2, f2, o3, f3, o4, f4, o5, f5, o6, f6, o7, f7, e1, e2, e3, e4, e5, e6, e7⟩ := MsgR.form h
  have G := rgood_any m W1 hr hs
  rw [hg] at G
  unfold aMsg at G ⊢
  rw [e1, e2, e3, e4, e5, e6, e7] at G hW1 ⊢
  have G := Lib.hid G
  have HW := Lib.hid hW1
  have HB := Lib.hid hb1
  obtain ⟨n1, hn1⟩ : ∃ n, n = m.pre.length := ⟨_, rfl⟩
  obtain ⟨n2, hn2⟩ : ∃ n, n = m.cel.length := ⟨_, rfl⟩
  obtain ⟨n3, hn3⟩ : ∃ n, n = m.ids.length := ⟨_, rfl⟩
  obtain ⟨n4, hn4⟩ : ∃ n, n = m.obj.length := ⟨_, rfl⟩
  obtain ⟨n5, hn5⟩ : ∃ n, n = m.mar.refs.length := ⟨_, rfl⟩
  obtain ⟨n6, hn6⟩ : ∃ n, n = m.mar.toks.length := ⟨_, rfl⟩
  obtain ⟨n7, hn7⟩ : ∃ n, n = m.mar.tombs.length := ⟨_, rfl⟩
  rw [← hn1, ← hn2, ← hn3, ← hn4, ← hn5, ← hn6, ← hn7] at G HW ⊢
  generalize m.kind = kind at G HW ⊢
  generalize m.src = src at G HW ⊢
  generalize m.dst = dst at G HW ⊢
  generalize m.ses = ses at G HW ⊢
  generalize m.step = step at G HW ⊢
  clear hW1 hb1 hr h hs hg e1 e2 e3 e4 e5 e6 e7 hn1 hn2 hn3 hn4 hn5 hn6 hn7
  rw [HW.out] at G HB
  go_enter Tryz.func11, Tryz.ntmps11
  go_wp2_with fail
  refine G.out.mono ?_
  rintro e w2 ⟨rfl, hb⟩
  have H := Lib.hid (HB.out.trans (hb.mono HB.out.size))
  clear G hb
  go_wp2_with fail
  go_ret2
  exact ⟨rfl, H.out⟩
set_option maxRecDepth 100000 in
set_option maxHeartbeats 4000000 in
theorem rencode_good (m : MsgR) (w : World) (h : m.Reads w) (hs : m.Small) (hg : goodM m.msg = true) : Calls Tryz.prog 11 #[aMsg m] w fun e w' => e = .returned (.tuple #[.string (encM m.msg), .int .i64 0]) ∧ Below w.heap.size w w' := by
  obtain ⟨W1, hW1⟩ : ∃ W1, W1 = w.alloc (.cells #[.int .i64 m.kind, .int .i64 m.src, .int .i64 m.dst, .int .i64 m.ses, .int .i64 m.step, m.pv, m.cv, m.iv, m.ov, m.mar.rv, m.mar.kv, m.mar.bv] 30) := ⟨_, rfl⟩
  have hb1 : Below w.heap.size w W1 := by rw [hW1]; exact (Below.refl _ _).alloc (Nat.le_refl _) _
  have hr := h.later hb1
  obtain ⟨o1, f1, o2, f2, o3, f3, o4, f4, o5, f5, o6, f6, o7, f7, e1, e2, e3, e4, e5, e6, e7⟩ := MsgR.form h
  have k1 : BlkIs W1 w.heap.size 30 #[.int .i64 m.kind, .int .i64 m.src, .int .i64 m.dst, .int .i64 m.ses, .int .i64 m.step, m.pv, m.cv, m.iv, m.ov, m.mar.rv, m.mar.kv, m.mar.bv] := by rw [hW1]; exact BlkIs.new _ _ _
  have G := rgood_any m W1 hr hs
  rw [hg] at G
  have F := fun W (hW : Below W1.heap.size W1 W) => rbody_any m W (hr.later hW) hs hg
  obtain ⟨hz1, hz2⟩ := enBody_size hg
  have hen : encM m.msg = enNum (enBody m.msg).size ++ enNum (crcB (enBody m.msg)) ++ enBody m.msg := by
    unfold encM frameB
    rw [ByteArray.append_assoc]
  rw [hen]
  clear hen
  have L1 := rnum_any ((enBody m.msg).size : Int) ⟨by omega, by omega⟩
  have L2 := fun W => Pak.rcrcsum_any (enBody m.msg) W (by omega)
  have L2e : Pak.crc (enBody m.msg).data.toList = crcB (enBody m.msg) := rfl
  simp only [L2e] at L2
  have L3 := rnum_any (crcB (enBody m.msg) : Int) ⟨by omega, by have := crcB_lt (enBody m.msg); omega⟩
  have hcl := crcB_lt (enBody m.msg)
  clear L2e
  unfold aMsg at G F ⊢
  rw [e1, e2, e3, e4, e5, e6, e7] at G F k1 hW1 ⊢
  obtain ⟨B, hB⟩ : ∃ B, B = enBody m.msg := ⟨_, rfl⟩
  rw [← hB] at hz1 hz2 L1 L2 L3 F hcl ⊢
  obtain ⟨c, hc⟩ : ∃ c, c = crcB B := ⟨_, rfl⟩
  rw [← hc] at L2 L3 hcl ⊢
  obtain ⟨v1, hv1⟩ : ∃ v, v = enNum (B.size : Int) := ⟨_, rfl⟩
  obtain ⟨v2, hv2⟩ : ∃ v, v = enNum (c : Int) := ⟨_, rfl⟩
  have r1 : v1.size = 4 := by rw [hv1]; rfl
  have r2 : v2.size = 4 := by rw [hv2]; rfl
  rw [← hv1] at L1 ⊢
  rw [← hv2] at L3 ⊢
  have y6 : ¬ (9223372036854775807 < v1.size + v2.size) := by omega
  have y7 : ¬ (9223372036854775807 < v1.size + v2.size + B.size) := by omega
  have hwc : IntKind.i64.wrap (c : Int) = (c : Int) := IntWalk.i64_in _ (by omega)
  have L1 := Lib.hid L1
  have L2 := Lib.hid L2
  have L3 := Lib.hid L3
  have F := Lib.hid F
  have G := Lib.hid G
  have HW := Lib.hid hW1
  have HB := Lib.hid hb1
  obtain ⟨n1, hn1⟩ : ∃ n, n = m.pre.length := ⟨_, rfl⟩
  obtain ⟨n2, hn2⟩ : ∃ n, n = m.cel.length := ⟨_, rfl⟩
  obtain ⟨n3, hn3⟩ : ∃ n, n = m.ids.length := ⟨_, rfl⟩
  obtain ⟨n4, hn4⟩ : ∃ n, n = m.obj.length := ⟨_, rfl⟩
  obtain ⟨n5, hn5⟩ : ∃ n, n = m.mar.refs.length := ⟨_, rfl⟩
  obtain ⟨n6, hn6⟩ : ∃ n, n = m.mar.toks.length := ⟨_, rfl⟩
  obtain ⟨n7, hn7⟩ : ∃ n, n = m.mar.tombs.length := ⟨_, rfl⟩
  rw [← hn1, ← hn2, ← hn3, ← hn4, ← hn5, ← hn6, ← hn7] at F G HW k1 ⊢
  generalize m.kind = kind at F G HW k1 ⊢
  generalize m.src = src at F G HW k1 ⊢
  generalize m.dst = dst at F G HW k1 ⊢
  generalize m.ses = ses at F G HW k1 ⊢
  generalize m.step = step at F G HW k1 ⊢
  have HK := Lib.hid k1
  clear hW1 hb1 hr h hs hg e1 e2 e3 e4 e5 e6 e7 hn1 hn2 hn3 hn4 hn5 hn6 hn7 k1 hB hc hv1 hv2 r1 r2 hz1 hz2 hcl
  go_enter Tryz.func11, Tryz.ntmps11
  go_wp2_with fail
  rw [← HW.out]
  clear HW
  refine G.out.mono ?_
  rintro e w2 ⟨rfl, hb⟩
  have H2 := Lib.hid hb
  clear G hb
  have c0 : w2.cell? ⟨w.heap.size, 0, none⟩ = some (.int .i64 kind) := (BlkIs.below HK.out H2.out HK.out.lt).cell 0
  have c1 : w2.cell? ⟨w.heap.size, 1, none⟩ = some (.int .i64 src) := (BlkIs.below HK.out H2.out HK.out.lt).cell 1
  have c2 : w2.cell? ⟨w.heap.size, 2, none⟩ = some (.int .i64 dst) := (BlkIs.below HK.out H2.out HK.out.lt).cell 2
  have c3 : w2.cell? ⟨w.heap.size, 3, none⟩ = some (.int .i64 ses) := (BlkIs.below HK.out H2.out HK.out.lt).cell 3
  have c4 : w2.cell? ⟨w.heap.size, 4, none⟩ = some (.int .i64 step) := (BlkIs.below HK.out H2.out HK.out.lt).cell 4
  have c5 : w2.cell? ⟨w.heap.size, 5, none⟩ = some (.slice o1 n1 f1) := (BlkIs.below HK.out H2.out HK.out.lt).cell 5
  have c6 : w2.cell? ⟨w.heap.size, 6, none⟩ = some (.slice o2 n2 f2) := (BlkIs.below HK.out H2.out HK.out.lt).cell 6
  have c7 : w2.cell? ⟨w.heap.size, 7, none⟩ = some (.slice o3 n3 f3) := (BlkIs.below HK.out H2.out HK.out.lt).cell 7
  have c8 : w2.cell? ⟨w.heap.size, 8, none⟩ = some (.slice o4 n4 f4) := (BlkIs.below HK.out H2.out HK.out.lt).cell 8
  have c9 : w2.cell? ⟨w.heap.size, 9, none⟩ = some (.slice o5 n5 f5) := (BlkIs.below HK.out H2.out HK.out.lt).cell 9
  have c10 : w2.cell? ⟨w.heap.size, 10, none⟩ = some (.slice o6 n6 f6) := (BlkIs.below HK.out H2.out HK.out.lt).cell 10
  have c11 : w2.cell? ⟨w.heap.size, 11, none⟩ = some (.slice o7 n7 f7) := (BlkIs.below HK.out H2.out HK.out.lt).cell 11
  go_wp2_with fail
  refine (F.out _ H2.out).mono ?_
  rintro e w3 ⟨rfl, hb⟩
  have H3 := Lib.hid (H2.out.trans (hb.mono H2.out.size))
  clear hb H2 F c0 c1 c2 c3 c4 c5 c6 c7 c8 c9 c10 c11
  go_wp2_with fail
  refine (L1.out _).mono ?_
  rintro e w5 ⟨rfl, hb⟩
  have H5 := Lib.hid (H3.out.trans (hb.mono H3.out.size))
  clear hb H3 L1
  go_wp2_with fail
  refine (L2.out _).mono ?_
  rintro e w6 ⟨rfl, rfl⟩
  go_wp2_with fail
  refine (L3.out _).mono ?_
  rintro e w7 ⟨rfl, hb⟩
  have H7 := Lib.hid (H5.out.trans (hb.mono H5.out.size))
  clear hb H5 L3
  go_wp2_with fail
  go_ret2
  exact ⟨rfl, HB.out.trans (H7.out.mono HB.out.size)⟩
end Go.Proofs.YtljenganlknhbaaGreat.Fr
