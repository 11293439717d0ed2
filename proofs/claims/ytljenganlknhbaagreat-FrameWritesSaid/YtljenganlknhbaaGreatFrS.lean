/- The reference's Same, of cells and of messages, walked. Printed by gen_frs.py. (Layer 19.) -/
import Derived.Test.YtljenganlknhbaaGreatPkM
import Derived.Test.YtljenganlknhbaaGreatMk35
import Derived.Test.YtljenganlknhbaaGreatPkX
namespace Go.Proofs.YtljenganlknhbaaGreat.Fr
set_option linter.unusedVariables false
set_option linter.unusedSimpArgs false
open Go.RowKit Go.Lib
open Set (StrAt scells)
open Tr (Cp)
open Mk (MkR aMk eqB eqB_yes eqB_no eqB_iff texts10_any bytes_ne)
theorem _root_.Go.Proofs.YtljenganlknhbaaGreat.LaterOf.upTo {w0 : World} (y : LaterOf w0) (z : LaterOf y.w) : ∃ q : LaterOf w0, z.w = q.w := ⟨⟨z.w, y.h.trans (z.h.mono y.h.size)⟩, rfl⟩
theorem CellsAt.at2 {w : World} {ao : Option Addr} {n cap : Nat} {l : List CpR} (h : CellsAt w (.slice ao n cap) l) (hn : 0 < n) : ∃ b off, ao = some ⟨b, off, none⟩ ∧ b < w.heap.size ∧ ∀ i (hi : i < l.length), w.cell? ⟨b, off + i * 5, none⟩ = some (.string l[i].c.pre) ∧
    w.cell? ⟨b, off + i * 5 + 1, none⟩ = some (.int .i64 l[i].c.cnt) ∧ w.cell? ⟨b, off + i * 5 + 2, none⟩ = some (.string l[i].c.sum) ∧ w.cell? ⟨b, off + i * 5 + 3, none⟩ = some l[i].iv ∧ w.cell? ⟨b, off + i * 5 + 4, none⟩ = some l[i].kv := by
  obtain ⟨b, off, ha, hb, hc⟩ := h.1.at_ hn
  refine ⟨b, off, ha, hb, fun i hi => ⟨?_, hc i hi 1 _ rfl, hc i hi 2 _ rfl, hc i hi 3 _ rfl, hc i hi 4 _ rfl⟩⟩
  have := hc i hi 0 _ rfl
  simpa using this
set_option maxRecDepth 100000 in
set_option maxHeartbeats 4000000 in
theorem same10_any (x y : CpR) (w : World) (hx : x.Reads w) (hy : y.Reads w) (nx : x.c.ids.length ≤ 1000000 ∧ x.c.kids.length ≤ 1000000) (ny : y.c.ids.length ≤ 1000000 ∧ y.c.kids.length ≤ 1000000) :
    Calls Tryz.prog 64 #[aCp x, aCp y] w fun e w' => e = .returned (.bool (eqB x.c y.c)) ∧ Below w.heap.size w w' := by
  obtain ⟨W1, hW1⟩ : ∃ W1, W1 = (w.alloc (.cells #[.string x.c.pre, .int .i64 x.c.cnt, .string x.c.sum, x.iv, x.kv] 49)).alloc (.cells #[.string y.c.pre, .int .i64 y.c.cnt, .string y.c.sum, y.iv, y.kv] 49) := ⟨_, rfl⟩
  have hb1 : Below w.heap.size w W1 := by rw [hW1]; exact ((Below.refl _ _).alloc (Nat.le_refl _) _).alloc (by simp) _
  have k1 : BlkIs W1 w.heap.size 49 #[.string x.c.pre, .int .i64 x.c.cnt, .string x.c.sum, x.iv, x.kv] := by rw [hW1]; exact (BlkIs.new _ _ _).alloc _
  have k2 : BlkIs W1 (w.heap.size + 1) 49 #[.string y.c.pre, .int .i64 y.c.cnt, .string y.c.sum, y.iv, y.kv] := by rw [hW1]; exact BlkIs.new2 _ _ _ _
  have hrx := hx.later hb1
  have hry := hy.later hb1
  have TI := fun X : LaterOf W1 => texts10_any x.iv y.iv x.c.ids y.c.ids X.w (hrx.later X.h).1 (hry.later X.h).1 nx.1 ny.1
  have TK := fun X : LaterOf W1 => texts10_any x.kv y.kv x.c.kids y.c.kids X.w (hrx.later X.h).2 (hry.later X.h).2 nx.2 ny.2
  obtain ⟨⟨p, c, s, is, ks⟩, iv, kv⟩ := x
  obtain ⟨⟨p', c', s', is', ks'⟩, iv', kv'⟩ := y
  obtain ⟨h1, h2⟩ := hx
  obtain ⟨h3, h4⟩ := hy
  dsimp only at *
  obtain ⟨o1, f1, e1⟩ := StrAt.form h1
  obtain ⟨o2, f2, e2⟩ := StrAt.form h2
  obtain ⟨o3, f3, e3⟩ := StrAt.form h3
  obtain ⟨o4, f4, e4⟩ := StrAt.form h4
  subst e1 e2 e3 e4
  unfold aCp
  dsimp only
  obtain ⟨b1, hbb1⟩ : ∃ b, b = eqB is is' := ⟨_, rfl⟩
  obtain ⟨b2, hbb2⟩ : ∃ b, b = eqB ks ks' := ⟨_, rfl⟩
  rw [← hbb1] at TI
  rw [← hbb2] at TK
  obtain ⟨n1, hn1⟩ : ∃ n, n = is.length := ⟨_, rfl⟩
  obtain ⟨n2, hn2⟩ : ∃ n, n = ks.length := ⟨_, rfl⟩
  obtain ⟨n3, hn3⟩ : ∃ n, n = is'.length := ⟨_, rfl⟩
  obtain ⟨n4, hn4⟩ : ∃ n, n = ks'.length := ⟨_, rfl⟩
  rw [← hn1, ← hn3] at TI
  rw [← hn2, ← hn4] at TK
  rw [← hn1, ← hn2] at k1
  rw [← hn3, ← hn4] at k2
  rw [← hn1, ← hn2, ← hn3, ← hn4] at hW1 ⊢
  have HB1 := Lib.hid (And.intro hbb1 hbb2)
  have TI := Lib.hid TI
  have TK := Lib.hid TK
  have HW := Lib.hid hW1
  have HB := Lib.hid (fun X : LaterOf W1 => hb1.trans (X.h.mono hb1.size))
  have u0 : ∀ X : LaterOf W1, X.w.cell? ⟨w.heap.size, 0, none⟩ = some (.string p) := fun X => (X.blk k1).cell 0
  have u1 : ∀ X : LaterOf W1, X.w.cell? ⟨w.heap.size, 1, none⟩ = some (.int .i64 c) := fun X => (X.blk k1).cell 1
  have u2 : ∀ X : LaterOf W1, X.w.cell? ⟨w.heap.size, 2, none⟩ = some (.string s) := fun X => (X.blk k1).cell 2
  have u3 : ∀ X : LaterOf W1, X.w.cell? ⟨w.heap.size, 3, none⟩ = some (.slice o1 n1 f1) := fun X => (X.blk k1).cell 3
  have u4 : ∀ X : LaterOf W1, X.w.cell? ⟨w.heap.size, 4, none⟩ = some (.slice o2 n2 f2) := fun X => (X.blk k1).cell 4
  have v0 : ∀ X : LaterOf W1, X.w.cell? ⟨w.heap.size + 1, 0, none⟩ = some (.string p') := fun X => (X.blk k2).cell 0
  have v1 : ∀ X : LaterOf W1, X.w.cell? ⟨w.heap.size + 1, 1, none⟩ = some (.int .i64 c') := fun X => (X.blk k2).cell 1
  have v2 : ∀ X : LaterOf W1, X.w.cell? ⟨w.heap.size + 1, 2, none⟩ = some (.string s') := fun X => (X.blk k2).cell 2
  have v3 : ∀ X : LaterOf W1, X.w.cell? ⟨w.heap.size + 1, 3, none⟩ = some (.slice o3 n3 f3) := fun X => (X.blk k2).cell 3
  have v4 : ∀ X : LaterOf W1, X.w.cell? ⟨w.heap.size + 1, 4, none⟩ = some (.slice o4 n4 f4) := fun X => (X.blk k2).cell 4
  clear hb1 k1 k2 hrx hry nx ny h1 h2 h3 h4 hbb1 hbb2 hn1 hn2 hn3 hn4 hW1
  go_enter Tryz.func64, Tryz.ntmps64
  go_upto_region 1 with (fail)
  rw [← HW.out]
  obtain ⟨X, hX⟩ := later_at W1
  rw [hX]
  clear hX HW
  by_cases q0 : p = p'
  case neg =>
    have HF := Lib.hid (show eqB (⟨p, c, s, is, ks⟩ : Cp) ⟨p', c', s', is', ks'⟩ = false from eqB_no (fun h => q0 (congrArg Cp.pre h)))
    have z0 := bytes_ne q0
    clear q0
    go_wp2_with fail
    go_ret
    exact ⟨by rw [HF.out]; rfl, HB.out X⟩
  subst q0
  by_cases q1 : c = c'
  case neg =>
    have HF := Lib.hid (show eqB (⟨p, c, s, is, ks⟩ : Cp) ⟨p, c', s', is', ks'⟩ = false from eqB_no (fun h => q1 (congrArg Cp.cnt h)))
    have z1 : (c == c') = false := by simpa using q1
    go_wp2_with fail
    go_ret
    exact ⟨by rw [HF.out]; rfl, HB.out X⟩
  subst q1
  by_cases q2 : s = s'
  case neg =>
    have HF := Lib.hid (show eqB (⟨p, c, s, is, ks⟩ : Cp) ⟨p, c, s', is', ks'⟩ = false from eqB_no (fun h => q2 (congrArg Cp.sum h)))
    have z2 := bytes_ne q2
    clear q2
    go_wp2_with fail
    go_ret
    exact ⟨by rw [HF.out]; rfl, HB.out X⟩
  subst q2
  go_wp2_with fail
  refine (LaterOf.call X (TI.out X)).mono ?_
  rintro e _ ⟨rfl, X, rfl⟩
  cases b1
  · have HF := Lib.hid (show eqB (⟨p, c, s, is, ks⟩ : Cp) ⟨p, c, s, is', ks'⟩ = false from eqB_no (fun h => by have := HB1.out.1; rw [eqB_yes (congrArg Cp.ids h)] at this; cases this))
    go_wp2_with fail
    go_ret
    exact ⟨by rw [HF.out]; rfl, HB.out X⟩
  go_wp2_with fail
  refine (LaterOf.call X (TK.out X)).mono ?_
  rintro e _ ⟨rfl, X, rfl⟩
  cases b2
  · have HF := Lib.hid (show eqB (⟨p, c, s, is, ks⟩ : Cp) ⟨p, c, s, is', ks'⟩ = false from eqB_no (fun h => by have := HB1.out.2; rw [eqB_yes (congrArg Cp.kids h)] at this; cases this))
    go_wp2_with fail
    go_ret
    exact ⟨by rw [HF.out]; rfl, HB.out X⟩
  have HF := Lib.hid (show eqB (⟨p, c, s, is, ks⟩ : Cp) ⟨p, c, s, is', ks'⟩ = true from eqB_yes (by rw [eqB_iff.1 HB1.out.1.symm, eqB_iff.1 HB1.out.2.symm]))
  go_wp2_with fail
  go_ret
  exact ⟨by rw [HF.out]; rfl, HB.out X⟩
set_option maxRecDepth 100000 in
set_option maxHeartbeats 8000000 in
theorem same_any (a b : MsgR) (w : World) (ha : a.Reads w) (hb : b.Reads w) (sa : a.Small) (sb : b.Small) :
    Calls Tryz.prog 16 #[aMsg a, aMsg b] w fun e w' => e = .returned (.bool (eqB a.msg b.msg)) ∧ Below w.heap.size w w' := by
  obtain ⟨W1, hW1⟩ : ∃ W1, W1 = (w.alloc (.cells #[.int .i64 a.kind, .int .i64 a.src, .int .i64 a.dst, .int .i64 a.ses, .int .i64 a.step, a.pv, a.cv, a.iv, a.ov, a.mar.rv, a.mar.kv, a.mar.bv] 30)).alloc (.cells #[.int .i64 b.kind, .int .i64 b.src, .int .i64 b.dst, .int .i64 b.ses, .int .i64 b.step, b.pv, b.cv, b.iv, b.ov, b.mar.rv, b.mar.kv, b.mar.bv] 30) := ⟨_, rfl⟩
  have hb1 : Below w.heap.size w W1 := by rw [hW1]; exact ((Below.refl _ _).alloc (Nat.le_refl _) _).alloc (by simp) _
  have k1 : BlkIs W1 w.heap.size 30 #[.int .i64 a.kind, .int .i64 a.src, .int .i64 a.dst, .int .i64 a.ses, .int .i64 a.step, a.pv, a.cv, a.iv, a.ov, a.mar.rv, a.mar.kv, a.mar.bv] := by rw [hW1]; exact (BlkIs.new _ _ _).alloc _
  have k2 : BlkIs W1 (w.heap.size + 1) 30 #[.int .i64 b.kind, .int .i64 b.src, .int .i64 b.dst, .int .i64 b.ses, .int .i64 b.step, b.pv, b.cv, b.iv, b.ov, b.mar.rv, b.mar.kv, b.mar.bv] := by rw [hW1]; exact BlkIs.new2 _ _ _ _
  have hra := ha.later hb1
  have hrb := hb.later hb1
  have TP := Lib.hid (fun X : LaterOf W1 => texts10_any a.pv b.pv a.pre b.pre X.w (hra.later X.h).1 (hrb.later X.h).1 sa.1.1 sb.1.1)
  have TI := Lib.hid (fun X : LaterOf W1 => texts10_any a.iv b.iv a.ids b.ids X.w (hra.later X.h).2.2.1 (hrb.later X.h).2.2.1 sa.1.2.2.1 sb.1.2.2.1)
  have TO := Lib.hid (fun X : LaterOf W1 => texts10_any a.ov b.ov a.obj b.obj X.w (hra.later X.h).2.2.2.1 (hrb.later X.h).2.2.2.1 sa.1.2.2.2 sb.1.2.2.2)
  have TM := Lib.hid (fun X : LaterOf W1 => Mk.same_any' a.mar b.mar X.w (hra.later X.h).2.2.2.2 (hrb.later X.h).2.2.2.2 sa.2.1 sb.2.1)
  have HCA := Lib.hid (fun X : LaterOf W1 => (hra.later X.h).2.1)
  have HCB := Lib.hid (fun X : LaterOf W1 => (hrb.later X.h).2.1)
  have HSA := Lib.hid (fun c hc => (sa.2.2.2 c hc).2)
  have HSB := Lib.hid (fun c hc => (sb.2.2.2 c hc).2)
  have hlim := sa.1.2.1
  have hA : a.msg = ⟨a.kind, a.src, a.dst, a.ses, a.step, a.pre, a.cel.map (·.c), a.ids, a.obj, a.mar.mk_⟩ := rfl
  have hB : b.msg = ⟨b.kind, b.src, b.dst, b.ses, b.step, b.pre, b.cel.map (·.c), b.ids, b.obj, b.mar.mk_⟩ := rfl
  obtain ⟨o1, f1, o2, f2, o3, f3, o4, f4, o5, f5, o6, f6, o7, f7, e1, e2, e3, e4, e5, e6, e7⟩ := MsgR.form ha
  obtain ⟨r1, g1, r2, g2, r3, g3, r4, g4, r5, g5, r6, g6, r7, g7, d1, d2, d3, d4, d5, d6, d7⟩ := MsgR.form hb
  obtain ⟨bp, hbp⟩ : ∃ x, x = eqB a.pre b.pre := ⟨_, rfl⟩
  obtain ⟨bi, hbi⟩ : ∃ x, x = eqB a.ids b.ids := ⟨_, rfl⟩
  obtain ⟨bo, hbo⟩ : ∃ x, x = eqB a.obj b.obj := ⟨_, rfl⟩
  obtain ⟨bm, hbm⟩ : ∃ x, x = eqB a.mar.mk_ b.mar.mk_ := ⟨_, rfl⟩
  rw [← hbp] at TP
  rw [← hbi] at TI
  rw [← hbo] at TO
  rw [← hbm] at TM
  have HBS := Lib.hid (And.intro hbp (And.intro hbi (And.intro hbo hbm)))
  unfold aMsg
  unfold aMk at TM
  rw [e1, d1] at TP
  rw [e3, d3] at TI
  rw [e4, d4] at TO
  rw [e5, e6, e7, d5, d6, d7] at TM
  rw [e2] at HCA
  rw [d2] at HCB
  rw [e1, e2, e3, e4, e5, e6, e7] at k1
  rw [d1, d2, d3, d4, d5, d6, d7] at k2
  rw [e1, e2, e3, e4, e5, e6, e7, d1, d2, d3, d4, d5, d6, d7] at hW1 ⊢
  rw [hA, hB]
  obtain ⟨n1, hn1⟩ : ∃ n, n = a.pre.length := ⟨_, rfl⟩
  obtain ⟨m1, hm1⟩ : ∃ n, n = b.pre.length := ⟨_, rfl⟩
  obtain ⟨n2, hn2⟩ : ∃ n, n = a.cel.length := ⟨_, rfl⟩
  obtain ⟨m2, hm2⟩ : ∃ n, n = b.cel.length := ⟨_, rfl⟩
  obtain ⟨n3, hn3⟩ : ∃ n, n = a.ids.length := ⟨_, rfl⟩
  obtain ⟨m3, hm3⟩ : ∃ n, n = b.ids.length := ⟨_, rfl⟩
  obtain ⟨n4, hn4⟩ : ∃ n, n = a.obj.length := ⟨_, rfl⟩
  obtain ⟨m4, hm4⟩ : ∃ n, n = b.obj.length := ⟨_, rfl⟩
  obtain ⟨n5, hn5⟩ : ∃ n, n = a.mar.refs.length := ⟨_, rfl⟩
  obtain ⟨m5, hm5⟩ : ∃ n, n = b.mar.refs.length := ⟨_, rfl⟩
  obtain ⟨n6, hn6⟩ : ∃ n, n = a.mar.toks.length := ⟨_, rfl⟩
  obtain ⟨m6, hm6⟩ : ∃ n, n = b.mar.toks.length := ⟨_, rfl⟩
  obtain ⟨n7, hn7⟩ : ∃ n, n = a.mar.tombs.length := ⟨_, rfl⟩
  obtain ⟨m7, hm7⟩ : ∃ n, n = b.mar.tombs.length := ⟨_, rfl⟩
  rw [← hn1, ← hn2, ← hn3, ← hn4, ← hn5, ← hn6, ← hn7] at k1
  rw [← hm1, ← hm2, ← hm3, ← hm4, ← hm5, ← hm6, ← hm7] at k2
  rw [← hn1, ← hn2, ← hn3, ← hn4, ← hn5, ← hn6, ← hn7, ← hm1, ← hm2, ← hm3, ← hm4, ← hm5, ← hm6, ← hm7] at hW1 ⊢
  rw [← hn1, ← hm1] at TP
  rw [← hn3, ← hm3] at TI
  rw [← hn4, ← hm4] at TO
  rw [← hn5, ← hn6, ← hn7, ← hm5, ← hm6, ← hm7] at TM
  rw [← hn2] at HCA hlim
  rw [← hm2] at HCB
  have HLn := Lib.hid hn2
  have HLm := Lib.hid hm2
  generalize a.kind = k at k1 hW1 ⊢
  generalize b.kind = k' at k2 hW1 ⊢
  generalize a.src = s at k1 hW1 ⊢
  generalize b.src = s' at k2 hW1 ⊢
  generalize a.dst = d at k1 hW1 ⊢
  generalize b.dst = d' at k2 hW1 ⊢
  generalize a.ses = u at k1 hW1 ⊢
  generalize b.ses = u' at k2 hW1 ⊢
  generalize a.step = t at k1 hW1 ⊢
  generalize b.step = t' at k2 hW1 ⊢
  generalize a.pre = pa at HBS ⊢
  generalize b.pre = pb at HBS ⊢
  generalize a.ids = ia at HBS ⊢
  generalize b.ids = ib at HBS ⊢
  generalize a.obj = oa at HBS ⊢
  generalize b.obj = ob at HBS ⊢
  generalize a.mar.mk_ = ma at HBS ⊢
  generalize b.mar.mk_ = mb at HBS ⊢
  generalize a.cel = ca at HCA HSA HLn ⊢
  generalize b.cel = cb at HCB HSB HLm ⊢
  have HW := Lib.hid hW1
  have HB := Lib.hid (fun X : LaterOf W1 => hb1.trans (X.h.mono hb1.size))
  have u0 : ∀ X : LaterOf W1, X.w.cell? ⟨w.heap.size, 0, none⟩ = some (.int .i64 k) := fun X => (X.blk k1).cell 0
  have u1 : ∀ X : LaterOf W1, X.w.cell? ⟨w.heap.size, 1, none⟩ = some (.int .i64 s) := fun X => (X.blk k1).cell 1
  have u2 : ∀ X : LaterOf W1, X.w.cell? ⟨w.heap.size, 2, none⟩ = some (.int .i64 d) := fun X => (X.blk k1).cell 2
  have u3 : ∀ X : LaterOf W1, X.w.cell? ⟨w.heap.size, 3, none⟩ = some (.int .i64 u) := fun X => (X.blk k1).cell 3
  have u4 : ∀ X : LaterOf W1, X.w.cell? ⟨w.heap.size, 4, none⟩ = some (.int .i64 t) := fun X => (X.blk k1).cell 4
  have u5 : ∀ X : LaterOf W1, X.w.cell? ⟨w.heap.size, 5, none⟩ = some (.slice o1 n1 f1) := fun X => (X.blk k1).cell 5
  have u6 : ∀ X : LaterOf W1, X.w.cell? ⟨w.heap.size, 6, none⟩ = some (.slice o2 n2 f2) := fun X => (X.blk k1).cell 6
  have u7 : ∀ X : LaterOf W1, X.w.cell? ⟨w.heap.size, 7, none⟩ = some (.slice o3 n3 f3) := fun X => (X.blk k1).cell 7
  have u8 : ∀ X : LaterOf W1, X.w.cell? ⟨w.heap.size, 8, none⟩ = some (.slice o4 n4 f4) := fun X => (X.blk k1).cell 8
  have u9 : ∀ X : LaterOf W1, X.w.cell? ⟨w.heap.size, 9, none⟩ = some (.slice o5 n5 f5) := fun X => (X.blk k1).cell 9
  have u10 : ∀ X : LaterOf W1, X.w.cell? ⟨w.heap.size, 10, none⟩ = some (.slice o6 n6 f6) := fun X => (X.blk k1).cell 10
  have u11 : ∀ X : LaterOf W1, X.w.cell? ⟨w.heap.size, 11, none⟩ = some (.slice o7 n7 f7) := fun X => (X.blk k1).cell 11
  have v0 : ∀ X : LaterOf W1, X.w.cell? ⟨w.heap.size + 1, 0, none⟩ = some (.int .i64 k') := fun X => (X.blk k2).cell 0
  have v1 : ∀ X : LaterOf W1, X.w.cell? ⟨w.heap.size + 1, 1, none⟩ = some (.int .i64 s') := fun X => (X.blk k2).cell 1
  have v2 : ∀ X : LaterOf W1, X.w.cell? ⟨w.heap.size + 1, 2, none⟩ = some (.int .i64 d') := fun X => (X.blk k2).cell 2
  have v3 : ∀ X : LaterOf W1, X.w.cell? ⟨w.heap.size + 1, 3, none⟩ = some (.int .i64 u') := fun X => (X.blk k2).cell 3
  have v4 : ∀ X : LaterOf W1, X.w.cell? ⟨w.heap.size + 1, 4, none⟩ = some (.int .i64 t') := fun X => (X.blk k2).cell 4
  have v5 : ∀ X : LaterOf W1, X.w.cell? ⟨w.heap.size + 1, 5, none⟩ = some (.slice r1 m1 g1) := fun X => (X.blk k2).cell 5
  have v6 : ∀ X : LaterOf W1, X.w.cell? ⟨w.heap.size + 1, 6, none⟩ = some (.slice r2 m2 g2) := fun X => (X.blk k2).cell 6
  have v7 : ∀ X : LaterOf W1, X.w.cell? ⟨w.heap.size + 1, 7, none⟩ = some (.slice r3 m3 g3) := fun X => (X.blk k2).cell 7
  have v8 : ∀ X : LaterOf W1, X.w.cell? ⟨w.heap.size + 1, 8, none⟩ = some (.slice r4 m4 g4) := fun X => (X.blk k2).cell 8
  have v9 : ∀ X : LaterOf W1, X.w.cell? ⟨w.heap.size + 1, 9, none⟩ = some (.slice r5 m5 g5) := fun X => (X.blk k2).cell 9
  have v10 : ∀ X : LaterOf W1, X.w.cell? ⟨w.heap.size + 1, 10, none⟩ = some (.slice r6 m6 g6) := fun X => (X.blk k2).cell 10
  have v11 : ∀ X : LaterOf W1, X.w.cell? ⟨w.heap.size + 1, 11, none⟩ = some (.slice r7 m7 g7) := fun X => (X.blk k2).cell 11
  clear hb1 k1 k2 hra hrb ha hb sa sb hW1 hbp hbi hbo hbm e1 e2 e3 e4 e5 e6 e7 d1 d2 d3 d4 d5 d6 d7 hn1 hn2 hn3 hn4 hn5 hn6 hn7 hm1 hm2 hm3 hm4 hm5 hm6 hm7 hA hB
  go_enter Tryz.func16, Tryz.ntmps16
  go_upto_region 1 with (fail)
  rw [← HW.out]
  obtain ⟨X, hX⟩ := later_at W1
  rw [hX]
  clear hX HW
  by_cases q : k = k'
  case neg =>
    have HF := Lib.hid (show eqB (⟨k, s, d, u, t, pa, ca.map (·.c), ia, oa, ma⟩ : Msg) ⟨k', s', d', u', t', pb, cb.map (·.c), ib, ob, mb⟩ = false from eqB_no (fun h => q (congrArg Msg.kind h)))
    have z1 : (k == k') = false := by simpa using q
    have z2 : (k != k') = true := by simpa using q
    go_wp2_with fail
    go_ret
    exact ⟨by rw [HF.out]; rfl, HB.out X⟩
  subst q
  by_cases q : s = s'
  case neg =>
    have HF := Lib.hid (show eqB (⟨k, s, d, u, t, pa, ca.map (·.c), ia, oa, ma⟩ : Msg) ⟨k, s', d', u', t', pb, cb.map (·.c), ib, ob, mb⟩ = false from eqB_no (fun h => q (congrArg Msg.src h)))
    have z1 : (s == s') = false := by simpa using q
    have z2 : (s != s') = true := by simpa using q
    go_wp2_with fail
    go_ret
    exact ⟨by rw [HF.out]; rfl, HB.out X⟩
  subst q
  by_cases q : d = d'
  case neg =>
    have HF := Lib.hid (show eqB (⟨k, s, d, u, t, pa, ca.map (·.c), ia, oa, ma⟩ : Msg) ⟨k, s, d', u', t', pb, cb.map (·.c), ib, ob, mb⟩ = false from eqB_no (fun h => q (congrArg Msg.dst h)))
    have z1 : (d == d') = false := by simpa using q
    have z2 : (d != d') = true := by simpa using q
    go_wp2_with fail
    go_ret
    exact ⟨by rw [HF.out]; rfl, HB.out X⟩
  subst q
  by_cases q : u = u'
  case neg =>
    have HF := Lib.hid (show eqB (⟨k, s, d, u, t, pa, ca.map (·.c), ia, oa, ma⟩ : Msg) ⟨k, s, d, u', t', pb, cb.map (·.c), ib, ob, mb⟩ = false from eqB_no (fun h => q (congrArg Msg.ses h)))
    have z1 : (u == u') = false := by simpa using q
    have z2 : (u != u') = true := by simpa using q
    go_wp2_with fail
    go_ret
    exact ⟨by rw [HF.out]; rfl, HB.out X⟩
  subst q
  by_cases q : t = t'
  case neg =>
    have HF := Lib.hid (show eqB (⟨k, s, d, u, t, pa, ca.map (·.c), ia, oa, ma⟩ : Msg) ⟨k, s, d, u, t', pb, cb.map (·.c), ib, ob, mb⟩ = false from eqB_no (fun h => q (congrArg Msg.step h)))
    have z1 : (t == t') = false := by simpa using q
    have z2 : (t != t') = true := by simpa using q
    go_wp2_with fail
    go_ret
    exact ⟨by rw [HF.out]; rfl, HB.out X⟩
  subst q
  by_cases q : n2 = m2
  case neg =>
    have HF := Lib.hid (show eqB (⟨k, s, d, u, t, pa, ca.map (·.c), ia, oa, ma⟩ : Msg) ⟨k, s, d, u, t, pb, cb.map (·.c), ib, ob, mb⟩ = false from eqB_no (fun h => q (by have := congrArg List.length (congrArg Msg.cel h); simp only [List.length_map] at this; rw [HLn.out, HLm.out]; exact this)))
    have z3 : ¬ (n2 : Int) = (m2 : Int) := by omega
    have z1 : ((n2 : Int) == (m2 : Int)) = false := beq_eq_false_iff_ne.2 z3
    have z2 : ((n2 : Int) != (m2 : Int)) = true := bne_iff_ne.2 z3
    go_wp2_with fail
    go_ret
    exact ⟨by rw [HF.out]; rfl, HB.out X⟩
  subst q
  go_wp2_with fail
  go_loopw [5] (fun i wr => ∃ (k : Nat) (Y : LaterOf W1), i = .int .i64 (k : Int) ∧ k ≤ n2 ∧ wr = Y.w ∧ Hid (∀ j, j < k → (ca.map (·.c))[j]? = (cb.map (·.c))[j]?)) (fun i _ => n2 - (RowKit.intOf i).toNat)
  case atStart => exact ⟨0, X, rfl, Nat.zero_le _, rfl, Lib.hid fun j hj => by omega⟩
  case round =>
    obtain ⟨j, Y, rfl, hj, rfl, HJ⟩ := hrel
    rcases Nat.lt_or_ge j n2 with hlt | hge
    · have ki : (j : Int) < n2 := by omega
      have hja : j < ca.length := by rw [← HLn.out]; exact hlt
      have hjb : j < cb.length := by rw [← HLm.out]; exact hlt
      obtain ⟨ba, oa1, hoa, hbla, hca⟩ := CellsAt.at2 (HCA.out Y) (by omega)
      obtain ⟨bb, ob1, hob, hblb, hcb⟩ := CellsAt.at2 (HCB.out Y) (by omega)
      subst hoa hob
      obtain ⟨x, hx⟩ : ∃ x, x = ca[j] := ⟨_, rfl⟩
      obtain ⟨y, hy⟩ : ∃ x, x = cb[j] := ⟨_, rfl⟩
      have hcx := hca j hja
      have hcy := hcb j hjb
      have hrx := (HCA.out Y).2 ca[j] (List.getElem_mem hja)
      have hry := (HCB.out Y).2 cb[j] (List.getElem_mem hjb)
      have hsx := HSA.out ca[j] (List.getElem_mem hja)
      have hsy := HSB.out cb[j] (List.getElem_mem hjb)
      have hmx : (ca.map (·.c))[j]? = some ca[j].c := by rw [List.getElem?_map, List.getElem?_eq_getElem hja]; rfl
      have hmy : (cb.map (·.c))[j]? = some cb[j].c := by rw [List.getElem?_map, List.getElem?_eq_getElem hjb]; rfl
      rw [← hx] at hcx hrx hsx hmx
      rw [← hy] at hcy hry hsy hmy
      have SM := fun Z : LaterOf Y.w => same10_any x y Z.w (hrx.later Z.h) (hry.later Z.h) hsx hsy
      obtain ⟨q, hq⟩ : ∃ q, q = eqB x.c y.c := ⟨_, rfl⟩
      rw [← hq] at SM
      have HQ := Lib.hid (And.intro hq (And.intro hmx hmy))
      obtain ⟨⟨p0, p1, p2, p3, p4⟩, piv, pkv⟩ := x
      obtain ⟨⟨y0, y1, y2, y3, y4⟩, yiv, ykv⟩ := y
      obtain ⟨t1, t2, t3, t4, t5⟩ := hcx
      obtain ⟨w1, w2, w3, w4, w5⟩ := hcy
      unfold aCp at SM
      dsimp only at *
      have SM := Lib.hid SM
      have c0 : ∀ Z : LaterOf Y.w, Z.w.cell? ⟨ba, oa1 + j * 5, none⟩ = some (.string p0) := fun Z => (Z.h.cell hbla).trans t1
      have c1 : ∀ Z : LaterOf Y.w, Z.w.cell? ⟨ba, oa1 + j * 5 + 1, none⟩ = some (.int .i64 p1) := fun Z => (Z.h.cell hbla).trans t2
      have c2 : ∀ Z : LaterOf Y.w, Z.w.cell? ⟨ba, oa1 + j * 5 + 2, none⟩ = some (.string p2) := fun Z => (Z.h.cell hbla).trans t3
      have c3 : ∀ Z : LaterOf Y.w, Z.w.cell? ⟨ba, oa1 + j * 5 + 3, none⟩ = some piv := fun Z => (Z.h.cell hbla).trans t4
      have c4 : ∀ Z : LaterOf Y.w, Z.w.cell? ⟨ba, oa1 + j * 5 + 4, none⟩ = some pkv := fun Z => (Z.h.cell hbla).trans t5
      have d0 : ∀ Z : LaterOf Y.w, Z.w.cell? ⟨bb, ob1 + j * 5, none⟩ = some (.string y0) := fun Z => (Z.h.cell hblb).trans w1
      have d1 : ∀ Z : LaterOf Y.w, Z.w.cell? ⟨bb, ob1 + j * 5 + 1, none⟩ = some (.int .i64 y1) := fun Z => (Z.h.cell hblb).trans w2
      have d2 : ∀ Z : LaterOf Y.w, Z.w.cell? ⟨bb, ob1 + j * 5 + 2, none⟩ = some (.string y2) := fun Z => (Z.h.cell hblb).trans w3
      have d3 : ∀ Z : LaterOf Y.w, Z.w.cell? ⟨bb, ob1 + j * 5 + 3, none⟩ = some yiv := fun Z => (Z.h.cell hblb).trans w4
      have d4 : ∀ Z : LaterOf Y.w, Z.w.cell? ⟨bb, ob1 + j * 5 + 4, none⟩ = some ykv := fun Z => (Z.h.cell hblb).trans w5
      have a6 : ∀ Z : LaterOf Y.w, Z.w.cell? ⟨w.heap.size, 6, none⟩ = some (.slice (some ⟨ba, oa1, none⟩) n2 f2) := fun Z => by obtain ⟨Q, hQ⟩ := Y.upTo Z; rw [hQ]; exact u6 Q
      have b6 : ∀ Z : LaterOf Y.w, Z.w.cell? ⟨w.heap.size + 1, 6, none⟩ = some (.slice (some ⟨bb, ob1, none⟩) n2 g2) := fun Z => by obtain ⟨Q, hQ⟩ := Y.upTo Z; rw [hQ]; exact v6 Q
      have HU := Lib.hid (And.intro u6 v6)
      clear hca hcb hx hy hrx hry hsx hsy hmx hmy hq t1 t2 t3 t4 t5 w1 w2 w3 w4 w5
      go_wp2_with fail
      clear u6 v6
      refine wp_region_all (fun w' => ∃ Z : LaterOf Y.w, w' = Z.w) (by kernel_rfl) (by kernel_rfl) ⟨LaterOf.start Y.w, rfl⟩ ?_
      repeat (go_big_quiet_step (first | with_reducible exact LaterOf.call _ (SM.out _)))
      refine wpQuiet_nil ?_
      intro w4 hw4
      obtain ⟨Z, rfl⟩ := hw4
      obtain ⟨Q, hQ⟩ := Y.upTo Z
      rw [hQ]
      clear c0 c1 c2 c3 c4 d0 d1 d2 d3 d4 a6 b6 SM
      have u6 := HU.out.1
      have v6 := HU.out.2
      cases q
      · have HF := Lib.hid (show eqB (⟨k, s, d, u, t, pa, ca.map (·.c), ia, oa, ma⟩ : Msg) ⟨k, s, d, u, t, pb, cb.map (·.c), ib, ob, mb⟩ = false from eqB_no (fun h => by
          have h2 : (ca.map (·.c))[j]? = (cb.map (·.c))[j]? := congrArg (fun l : List Cp => l[j]?) (congrArg Msg.cel h)
          have h1 := HQ.out
          rw [h1.2.1, h1.2.2] at h2
          rw [eqB_yes (Option.some.inj h2)] at h1
          exact Bool.noConfusion h1.1))
        go_wp2_with fail
        go_ret
        exact ⟨by rw [HF.out]; rfl, HB.out Q⟩
      · go_wp2_with fail
        refine ⟨⟨j + 1, Q, by simp, by omega, rfl, Lib.hid fun i hi => ?_⟩, by simp [RowKit.intOf]; omega⟩
        rcases Nat.lt_or_ge i j with h | h
        · exact HJ.out i h
        · obtain rfl : i = j := by omega
          rw [HQ.out.2.1, HQ.out.2.2, eqB_iff.1 HQ.out.1.symm]
    · have ki : decide (j < n2) = false := decide_eq_false (by omega)
      obtain rfl : n2 = j := by omega
      have HCE := Lib.hid (show ca.map (·.c) = cb.map (·.c) from List.ext_getElem? fun i => by
        rcases Nat.lt_or_ge i n2 with h | h
        · exact HJ.out i h
        · rw [List.getElem?_eq_none (by rw [List.length_map, ← HLn.out]; exact h), List.getElem?_eq_none (by rw [List.length_map, ← HLm.out]; exact h)])
      clear HJ
      go_wp2_with fail
      refine (LaterOf.call Y (TP.out Y)).mono ?_
      rintro e _ ⟨rfl, X, rfl⟩
      cases bp
      · have HF := Lib.hid (show eqB (⟨k, s, d, u, t, pa, ca.map (·.c), ia, oa, ma⟩ : Msg) ⟨k, s, d, u, t, pb, cb.map (·.c), ib, ob, mb⟩ = false from eqB_no (fun h => by have := HBS.out.1; rw [eqB_yes (congrArg Msg.pre h)] at this; cases this))
        go_wp2_with fail
        go_ret
        exact ⟨by rw [HF.out]; rfl, HB.out X⟩
      go_wp2_with fail
      refine (LaterOf.call X (TI.out X)).mono ?_
      rintro e _ ⟨rfl, X, rfl⟩
      cases bi
      · have HF := Lib.hid (show eqB (⟨k, s, d, u, t, pa, ca.map (·.c), ia, oa, ma⟩ : Msg) ⟨k, s, d, u, t, pb, cb.map (·.c), ib, ob, mb⟩ = false from eqB_no (fun h => by have := HBS.out.2.1; rw [eqB_yes (congrArg Msg.ids h)] at this; cases this))
        go_wp2_with fail
        go_ret
        exact ⟨by rw [HF.out]; rfl, HB.out X⟩
      go_wp2_with fail
      refine (LaterOf.call X (TO.out X)).mono ?_
      rintro e _ ⟨rfl, X, rfl⟩
      cases bo
      · have HF := Lib.hid (show eqB (⟨k, s, d, u, t, pa, ca.map (·.c), ia, oa, ma⟩ : Msg) ⟨k, s, d, u, t, pb, cb.map (·.c), ib, ob, mb⟩ = false from eqB_no (fun h => by have := HBS.out.2.2.1; rw [eqB_yes (congrArg Msg.obj h)] at this; cases this))
        go_wp2_with fail
        go_ret
        exact ⟨by rw [HF.out]; rfl, HB.out X⟩
      go_wp2_with fail
      refine (LaterOf.call X (TM.out X)).mono ?_
      rintro e _ ⟨rfl, X, rfl⟩
      have HF := Lib.hid (show eqB (⟨k, s, d, u, t, pa, ca.map (·.c), ia, oa, ma⟩ : Msg) ⟨k, s, d, u, t, pb, cb.map (·.c), ib, ob, mb⟩ = bm from by
        have h1 := HBS.out.1
        have h2 := HBS.out.2.1
        have h3 := HBS.out.2.2.1
        rw [HCE.out, eqB_iff.1 h1.symm, eqB_iff.1 h2.symm, eqB_iff.1 h3.symm, HBS.out.2.2.2]
        by_cases hmm : ma = mb
        · rw [hmm, eqB_yes rfl, eqB_yes rfl]
        · rw [eqB_no hmm, eqB_no (fun h => hmm (congrArg Msg.mar h))])
      go_wp2_with fail
      go_ret
      exact ⟨by rw [HF.out]; rfl, HB.out X⟩
end Go.Proofs.YtljenganlknhbaaGreat.Fr
