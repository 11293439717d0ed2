/- frame.Encode, walked. Printed by gen_frg.py. (Layer 19.) -/
import Derived.Test.YtljenganlknhbaaGreatPkN
import Derived.Test.YtljenganlknhbaaGreatPkI
import Derived.Deep.RegionHeld
namespace Go.Proofs.YtljenganlknhbaaGreat.Fr
set_option linter.unusedVariables false
set_option linter.unusedSimpArgs false
open Go.RowKit Go.Lib Oct
open Set (StrAt scells)
open Tr (Cp pfxB IsSet)
open Mk (MkR aMk okN enNum_size enText_size enMk goodB)
/-- string([]byte{b}). -/
theorem conv_one (b : UInt8) (w : World) (g : Nat) (h : w.cell? ⟨g, 0, none⟩ = some (.int .u8 (b.toNat : Int))) : (convert 43 9 (.slice (some ⟨g, 0, none⟩) 1 1)).run Tryz.prog w = .ok (.string ⟨#[b]⟩) w := by
  refine run_convert_bytes_back w 43 9 5 ⟨g, 0, none⟩ 1 [b] Tryz.underlying43 Tryz.underlying5 Tryz.underlying9 fun j hj => ?_
  obtain rfl : j = 0 := by simpa using hj
  exact h
theorem conv_kind (k : Int) (h : 0 ≤ k ∧ k < 256) (w : World) (g : Nat) (hc : w.cell? ⟨g, 0, none⟩ = some (.int .u8 k)) : (convert 43 9 (.slice (some ⟨g, 0, none⟩) 1 1)).run Tryz.prog w = .ok (.string (enKind k)) w := by
  have e : ((UInt8.ofNat k.toNat).toNat : Int) = k := by
    rw [UInt8.toNat_ofNat']
    omega
  exact conv_one (UInt8.ofNat k.toNat) w g (by rw [e]; exact hc)
theorem bl_alloc {B : Nat} {a W : World} (h : Below B a W) (hB : B ≤ a.heap.size) (o : Obj) : Below B a (W.alloc o) := h.alloc (Nat.le_trans hB h.size) o
theorem bl_drew {B : Nat} {a W : World} (h : Below B a W) : Below B a W.drew := h.drew
theorem carry {W w4 : World} {g : Nat} {v : Value} (hb : Below W.heap.size W w4) (h : W.cell? ⟨g, 0, none⟩ = some v) : w4.cell? ⟨g, 0, none⟩ = some v := by
  have hl : g < W.heap.size := World.block_lt_of_cell? W ⟨g, 0, none⟩ h
  rw [hb.cell (p := ⟨g, 0, none⟩) hl]
  exact h
theorem carry_new {W w4 : World} {v : Value} {t : TypeId} (hb : Below (W.alloc (.cells #[v] t)).heap.size (W.alloc (.cells #[v] t)) w4) : w4.cell? ⟨W.heap.size, 0, none⟩ = some v :=
  carry hb ((BlkIs.new W t #[v]).cell 0)
theorem carry_newd {W w4 : World} {v : Value} {t : TypeId} (hb : Below (W.alloc (.cells #[v] t)).drew.heap.size (W.alloc (.cells #[v] t)).drew w4) : w4.cell? ⟨W.heap.size, 0, none⟩ = some v :=
  carry hb ((BlkIs.new W t #[v]).cell 0)
/-- Where Encode stands behind the body's making. -/
def EncMid (w : World) (T : ByteArray) : Exit → Act → World → Prop
  | .normal, a, W => (∃ x0 x1 x2 x3 x5 x6 x7 x8 x9 x10 x11 x12 x13 x14 x15 x16 x17 x18 x19 x20 x21 x22 x23 x24 x25 x26 x27 x28 x29 x30 x31 x32 x33 x34 x35 x36 x37 x38 x39 x40, a = ⟨#[x0, x1, x2, x3, .string T, x5, x6, x7, x8, x9, x10, x11, x12, x13, x14, x15, x16, x17, x18, x19, x20, x21, x22, x23, x24, x25, x26, x27, x28, x29, x30, x31, x32, x33, x34, x35, x36, x37, x38, x39, x40], []⟩) ∧ Below w.heap.size w W
  | _, _, _ => False
set_option maxRecDepth 100000 in
theorem encode_bad (m : MsgR) (w : World) (h : m.Reads w) (hs : m.Small) (hg : goodM m.msg = false) : Calls Tryz.prog 10 #[aMsg m] w fun e w' => e = .returned (.tuple #[.string ⟨#[]⟩, .int .i64 1]) ∧ Below w.heap.size w w' := by
  obtain ⟨W1, hW1⟩ : ∃ W1, W1 = w.alloc (.cells #[.int .i64 m.kind, .int .i64 m.src, .int .i64 m.dst, .int .i64 m.ses, .int .i64 m.step, m.pv, m.cv, m.iv, m.ov, m.mar.rv, m.mar.kv, m.mar.bv] 30) := ⟨_, rfl⟩
  have hb1 : Below w.heap.size w W1 := by rw [hW1]; exact (Below.refl _ _).alloc (Nat.le_refl _) _
  have hr := h.later hb1
  obtain ⟨o1, f1, o2, f2, o3, f3, o4, f4, o5, f5, o6, f6, o7, f7, e1, e2, e3, e4, e5, e6, e7⟩ := MsgR.form h
  have G := good_any m W1 hr hs
  rw [hg] at G
  unfold aMsg at G ⊢
  rw [e1, e2, e3, e4, e5, e6, e7] at G hW1 ⊢
  have G := Lib.hid G
  have HW := Lib.hid hW1
  have HB := Lib.hid hb1
  obtain ⟨n1, hn1⟩ : ∃ n, n = m.pre.length := ⟨_, rfl⟩
  obtain ⟨n2, hn2⟩ : ∃ n, n = m.cel.length := ⟨_, rfl⟩
  obtain ⟨n3, hn3⟩ : ∃ n, n = m.ids.length := ⟨_, rfl⟩
  obtain ⟨n4, hn4⟩ : ∃ n, n = m.obj.length := ⟨_, rfl⟩
  obtain ⟨n5, hn5⟩ : ∃ n, n = m.mar.refs.length := ⟨_, rfl⟩
  obtain ⟨n6, hn6⟩ : ∃ n, n = m.mar.toks.length := ⟨_, rfl⟩
  obtain ⟨n7, hn7⟩ : ∃ n, n = m.mar.tombs.length := ⟨_, rfl⟩
  rw [← hn1, ← hn2, ← hn3, ← hn4, ← hn5, ← hn6, ← hn7] at G HW ⊢
  generalize m.kind = kind at G HW ⊢
  generalize m.src = src at G HW ⊢
  generalize m.dst = dst at G HW ⊢
  generalize m.ses = ses at G HW ⊢
  generalize m.step = step at G HW ⊢
  clear hW1 hb1 hr h hs hg e1 e2 e3 e4 e5 e6 e7 hn1 hn2 hn3 hn4 hn5 hn6 hn7
  rw [HW.out] at G HB
  go_enter Tryz.func10, Tryz.ntmps10
  go_wp2_with fail
  refine G.out.mono ?_
  rintro e w2 ⟨rfl, hb⟩
  have H := Lib.hid (HB.out.trans (hb.mono HB.out.size))
  clear G hb
  go_wp2_with fail
  go_ret2
  exact ⟨rfl, H.out⟩
set_option maxRecDepth 100000 in
set_option maxHeartbeats 16000000 in
theorem encode_good (m : MsgR) (w : World) (h : m.Reads w) (hs : m.Small) (hg : goodM m.msg = true) : Calls Tryz.prog 10 #[aMsg m] w fun e w' => e = .returned (.tuple #[.string (encM m.msg), .int .i64 0]) ∧ Below w.heap.size w w' := by
  obtain ⟨W1, hW1⟩ : ∃ W1, W1 = w.alloc (.cells #[.int .i64 m.kind, .int .i64 m.src, .int .i64 m.dst, .int .i64 m.ses, .int .i64 m.step, m.pv, m.cv, m.iv, m.ov, m.mar.rv, m.mar.kv, m.mar.bv] 30) := ⟨_, rfl⟩
  have hb1 : Below w.heap.size w W1 := by rw [hW1]; exact (Below.refl _ _).alloc (Nat.le_refl _) _
  have hr := h.later hb1
  obtain ⟨o1, f1, o2, f2, o3, f3, o4, f4, o5, f5, o6, f6, o7, f7, e1, e2, e3, e4, e5, e6, e7⟩ := MsgR.form h
  have k1 : BlkIs W1 w.heap.size 30 #[.int .i64 m.kind, .int .i64 m.src, .int .i64 m.dst, .int .i64 m.ses, .int .i64 m.step, m.pv, m.cv, m.iv, m.ov, m.mar.rv, m.mar.kv, m.mar.bv] := by rw [hW1]; exact BlkIs.new _ _ _
  have G := good_any m W1 hr hs
  rw [hg] at G
  have F := fun W (hW : Below W1.heap.size W1 W) => field_any m W (hr.later hW) hs hg
  obtain ⟨⟨q0, q1, q2, q3, q4⟩, -⟩ := ok_msg hg
  have q0 : 0 ≤ m.kind ∧ m.kind < 256 := q0
  have N1 := num_any m.src q1
  have N2 := num_any m.dst q2
  have N3 := num_any m.ses q3
  have N4 := num_any m.step q4
  have CV := conv_kind m.kind q0
  have hws : IntKind.u8.wrap m.kind = m.kind := by rw [IntKind.wrap_u8]; omega
  obtain ⟨hz1, hz2⟩ := enBody_size hg
  have hbd : enBody m.msg = enKind m.kind ++ enNum m.src ++ enNum m.dst ++ enNum m.ses ++ enNum m.step ++ enField m.msg := by
    show (enKind m.kind ++ (enNum m.src ++ (enNum m.dst ++ (enNum m.ses ++ enNum m.step)))) ++ enField m.msg = _
    simp only [ByteArray.append_assoc]
  have hen : encM m.msg = enNum (enBody m.msg).size ++ enNum (crcB (enBody m.msg)) ++ enBody m.msg := by
    unfold encM frameB
    rw [ByteArray.append_assoc]
  rw [hen]
  clear hen
  have L1 := num_any ((enBody m.msg).size : Int) ⟨by omega, by omega⟩
  have L2 := fun W => Pak.crcsum_any (enBody m.msg) W (by omega)
  have L3 := Oct.num (crcB (enBody m.msg))
  have L3e : (⟨(le32 (crcB (enBody m.msg))).toArray⟩ : ByteArray) = enNum (crcB (enBody m.msg) : Int) := rfl
  rw [L3e] at L3
  have L2e : Pak.crc (enBody m.msg).data.toList = crcB (enBody m.msg) := rfl
  simp only [L2e] at L2
  clear L3e L2e
  unfold aMsg at G F ⊢
  rw [e1, e2, e3, e4, e5, e6, e7] at G F k1 hW1 ⊢
  obtain ⟨B, hB⟩ : ∃ B, B = enBody m.msg := ⟨_, rfl⟩
  rw [← hB] at hbd hz1 hz2 L1 L2 L3 ⊢
  obtain ⟨c, hc⟩ : ∃ c, c = crcB B := ⟨_, rfl⟩
  rw [← hc] at L2 L3 ⊢
  obtain ⟨tf, htf⟩ : ∃ t, t = enField m.msg := ⟨_, rfl⟩
  obtain ⟨t0, ht0⟩ : ∃ t, t = enKind m.kind := ⟨_, rfl⟩
  obtain ⟨t1, ht1⟩ : ∃ t, t = enNum m.src := ⟨_, rfl⟩
  obtain ⟨t2, ht2⟩ : ∃ t, t = enNum m.dst := ⟨_, rfl⟩
  obtain ⟨t3, ht3⟩ : ∃ t, t = enNum m.ses := ⟨_, rfl⟩
  obtain ⟨t4, ht4⟩ : ∃ t, t = enNum m.step := ⟨_, rfl⟩
  have s0 : t0.size = 1 := by rw [ht0]; rfl
  have s1 : t1.size = 4 := by rw [ht1]; rfl
  have s2 : t2.size = 4 := by rw [ht2]; rfl
  have s3 : t3.size = 4 := by rw [ht3]; rfl
  have s4 : t4.size = 4 := by rw [ht4]; rfl
  rw [← htf] at F
  rw [← htf, ← ht0, ← ht1, ← ht2, ← ht3, ← ht4] at hbd
  rw [← ht0] at CV
  rw [← ht1] at N1
  rw [← ht2] at N2
  rw [← ht3] at N3
  rw [← ht4] at N4
  have sB : B.size = t0.size + t1.size + t2.size + t3.size + t4.size + tf.size := by rw [hbd]; simp only [ByteArray.size_append]
  have y1 : ¬ (9223372036854775807 < t0.size + t1.size) := by omega
  have y2 : ¬ (9223372036854775807 < t0.size + t1.size + t2.size) := by omega
  have y3 : ¬ (9223372036854775807 < t0.size + t1.size + t2.size + t3.size) := by omega
  have y4 : ¬ (9223372036854775807 < t0.size + t1.size + t2.size + t3.size + t4.size) := by omega
  have y5 : ¬ (9223372036854775807 < t0.size + t1.size + t2.size + t3.size + t4.size + tf.size) := by omega
  obtain ⟨v1, hv1⟩ : ∃ v, v = enNum (B.size : Int) := ⟨_, rfl⟩
  obtain ⟨v2, hv2⟩ : ∃ v, v = enNum (c : Int) := ⟨_, rfl⟩
  have r1 : v1.size = 4 := by rw [hv1]; rfl
  have r2 : v2.size = 4 := by rw [hv2]; rfl
  rw [← hv1] at L1 ⊢
  rw [← hv2] at L3 ⊢
  have y6 : ¬ (9223372036854775807 < v1.size + v2.size) := by omega
  have y7 : ¬ (9223372036854775807 < v1.size + v2.size + B.size) := by omega
  have L1 := Lib.hid L1
  have L2 := Lib.hid L2
  have L3 := Lib.hid L3
  have N1 := Lib.hid N1
  have N2 := Lib.hid N2
  have N3 := Lib.hid N3
  have N4 := Lib.hid N4
  have F := Lib.hid F
  have G := Lib.hid G
  have HW := Lib.hid hW1
  have HB := Lib.hid hb1
  have HBD := Lib.hid hbd
  obtain ⟨n1, hn1⟩ : ∃ n, n = m.pre.length := ⟨_, rfl⟩
  obtain ⟨n2, hn2⟩ : ∃ n, n = m.cel.length := ⟨_, rfl⟩
  obtain ⟨n3, hn3⟩ : ∃ n, n = m.ids.length := ⟨_, rfl⟩
  obtain ⟨n4, hn4⟩ : ∃ n, n = m.obj.length := ⟨_, rfl⟩
  obtain ⟨n5, hn5⟩ : ∃ n, n = m.mar.refs.length := ⟨_, rfl⟩
  obtain ⟨n6, hn6⟩ : ∃ n, n = m.mar.toks.length := ⟨_, rfl⟩
  obtain ⟨n7, hn7⟩ : ∃ n, n = m.mar.tombs.length := ⟨_, rfl⟩
  rw [← hn1, ← hn2, ← hn3, ← hn4, ← hn5, ← hn6, ← hn7] at F G HW k1 ⊢
  generalize m.kind = kind at F G HW k1 CV hws ⊢
  generalize m.src = src at F G HW k1 N1 ⊢
  generalize m.dst = dst at F G HW k1 N2 ⊢
  generalize m.ses = ses at F G HW k1 N3 ⊢
  generalize m.step = step at F G HW k1 N4 ⊢
  have HK := Lib.hid k1
  clear hW1 hb1 hr h hs hg e1 e2 e3 e4 e5 e6 e7 hn1 hn2 hn3 hn4 hn5 hn6 hn7 k1 q0 q1 q2 q3 q4 hbd hB hc htf ht0 ht1 ht2 ht3 ht4 hv1 hv2 s0 s1 s2 s3 s4 r1 r2 sB hz1
  rw [HW.out] at G
  go_enter Tryz.func10, Tryz.ntmps10
  go_wp2_with fail
  refine G.out.mono ?_
  rintro e w2 ⟨rfl, hb⟩
  rw [← HW.out] at hb
  clear G HW
  have h2 := hb
  have z0 : w2.cell? ⟨w.heap.size, 0, none⟩ = some (.int .i64 kind) := (BlkIs.below HK.out hb HK.out.lt).cell 0
  go_upto_region 3 with (fail)
  refine Code.wp_mono (Q := EncMid w B) ?_ ?_
  · intro e a W hM
    cases e
    case normal =>
      obtain ⟨⟨x0, x1, x2, x3, x5, x6, x7, x8, x9, x10, x11, x12, x13, x14, x15, x16, x17, x18, x19, x20, x21, x22, x23, x24, x25, x26, x27, x28, x29, x30, x31, x32, x33, x34, x35, x36, x37, x38, x39, x40, rfl⟩, hbW⟩ := hM
      have HBW := Lib.hid hbW
      clear hbW
      go_wp2_with fail
      refine (L1.out _).mono ?_
      rintro e w5 ⟨rfl, hb5⟩
      have H5 := Lib.hid (HBW.out.trans (hb5.mono HBW.out.size))
      clear hb5
      go_wp2_with fail
      refine (L2.out _).mono ?_
      rintro e w6 ⟨rfl, hb6⟩
      have H6 := Lib.hid (H5.out.trans (hb6.mono H5.out.size))
      clear hb6
      go_wp2_with fail
      refine (L3.out _).mono ?_
      rintro e w7 ⟨rfl, hb7⟩
      have H7 := Lib.hid (H6.out.trans (hb7.mono H6.out.size))
      clear hb7
      go_wp2_with fail
      go_ret2
      exact ⟨rfl, H7.out⟩
    all_goals exact hM.elim
  · have hbd0 : Below W1.heap.size W1 w2.drew := bl_drew hb
    clear z0
    have hbb0 := hb
    clear hb
    have KS : ∀ W', Below W1.heap.size W1 W' → (W'.cell? ⟨w.heap.size, 0, none⟩ = some (.int .i64 kind) ∧ W'.cell? ⟨w.heap.size, 1, none⟩ = some (.int .i64 src) ∧ W'.cell? ⟨w.heap.size, 2, none⟩ = some (.int .i64 dst) ∧ W'.cell? ⟨w.heap.size, 3, none⟩ = some (.int .i64 ses) ∧ W'.cell? ⟨w.heap.size, 4, none⟩ = some (.int .i64 step) ∧ W'.cell? ⟨w.heap.size, 5, none⟩ = some (.slice o1 n1 f1) ∧ W'.cell? ⟨w.heap.size, 6, none⟩ = some (.slice o2 n2 f2) ∧ W'.cell? ⟨w.heap.size, 7, none⟩ = some (.slice o3 n3 f3) ∧ W'.cell? ⟨w.heap.size, 8, none⟩ = some (.slice o4 n4 f4) ∧ W'.cell? ⟨w.heap.size, 9, none⟩ = some (.slice o5 n5 f5) ∧ W'.cell? ⟨w.heap.size, 10, none⟩ = some (.slice o6 n6 f6) ∧ W'.cell? ⟨w.heap.size, 11, none⟩ = some (.slice o7 n7 f7)) := fun W' h => ⟨(BlkIs.below HK.out h HK.out.lt).cell 0, (BlkIs.below HK.out h HK.out.lt).cell 1, (BlkIs.below HK.out h HK.out.lt).cell 2, (BlkIs.below HK.out h HK.out.lt).cell 3, (BlkIs.below HK.out h HK.out.lt).cell 4, (BlkIs.below HK.out h HK.out.lt).cell 5, (BlkIs.below HK.out h HK.out.lt).cell 6, (BlkIs.below HK.out h HK.out.lt).cell 7, (BlkIs.below HK.out h HK.out.lt).cell 8, (BlkIs.below HK.out h HK.out.lt).cell 9, (BlkIs.below HK.out h HK.out.lt).cell 10, (BlkIs.below HK.out h HK.out.lt).cell 11⟩
    have KH := Lib.hid KS
    have HF := Lib.hid (fun W' (h : Below W1.heap.size W1 W') => HB.out.trans (h.mono HB.out.size))
    clear KS L1 L2 L3 y6 y7 hz2 h2
    go_region_held (fun W' => W'.cell? ⟨w.heap.size, 0, none⟩ = some (.int .i64 kind) ∧ W'.cell? ⟨w.heap.size, 1, none⟩ = some (.int .i64 src) ∧ W'.cell? ⟨w.heap.size, 2, none⟩ = some (.int .i64 dst) ∧ W'.cell? ⟨w.heap.size, 3, none⟩ = some (.int .i64 ses) ∧ W'.cell? ⟨w.heap.size, 4, none⟩ = some (.int .i64 step) ∧ W'.cell? ⟨w.heap.size, 5, none⟩ = some (.slice o1 n1 f1) ∧ W'.cell? ⟨w.heap.size, 6, none⟩ = some (.slice o2 n2 f2) ∧ W'.cell? ⟨w.heap.size, 7, none⟩ = some (.slice o3 n3 f3) ∧ W'.cell? ⟨w.heap.size, 8, none⟩ = some (.slice o4 n4 f4) ∧ W'.cell? ⟨w.heap.size, 9, none⟩ = some (.slice o5 n5 f5) ∧ W'.cell? ⟨w.heap.size, 10, none⟩ = some (.slice o6 n6 f6) ∧ W'.cell? ⟨w.heap.size, 11, none⟩ = some (.slice o7 n7 f7)) ((refine KH.out _ ?_; (repeat (first | assumption | refine bl_drew ?_ | refine bl_alloc ?_ (Nat.le_refl _) _))))
      (first
        | (go_at_call 19
           first
             | with_reducible refine (N1.out _).mono ?_
             | with_reducible refine (N2.out _).mono ?_
             | with_reducible refine (N3.out _).mono ?_
             | with_reducible refine (N4.out _).mono ?_
           rintro e w4 ⟨rfl, hb⟩
           first
             | have hcn := carry_new hb
             | have hcn := carry_newd hb
             | have hcn := carry hb (‹_› : World.cell? _ ⟨_, 0, none⟩ = some (.int .u8 _))
             | skip
           have hb4 := Below.trans (show Below W1.heap.size W1 _ by (repeat (first | assumption | refine bl_drew ?_ | refine bl_alloc ?_ (Nat.le_refl _) _))) (hb.mono (Below.size (show Below W1.heap.size W1 _ by (repeat (first | assumption | refine bl_drew ?_ | refine bl_alloc ?_ (Nat.le_refl _) _)))))
           clear hb)
        | (go_at_call 20
           refine (F.out _ (by (repeat (first | assumption | refine bl_drew ?_ | refine bl_alloc ?_ (Nat.le_refl _) _)))).mono ?_
           rintro e w4 ⟨rfl, hb⟩
           first
             | have hcn := carry_new hb
             | have hcn := carry_newd hb
             | have hcn := carry hb (‹_› : World.cell? _ ⟨_, 0, none⟩ = some (.int .u8 _))
             | skip
           have hb4 := Below.trans (show Below W1.heap.size W1 _ by (repeat (first | assumption | refine bl_drew ?_ | refine bl_alloc ?_ (Nat.le_refl _) _))) (hb.mono (Below.size (show Below W1.heap.size W1 _ by (repeat (first | assumption | refine bl_drew ?_ | refine bl_alloc ?_ (Nat.le_refl _) _)))))
           clear hb))
    all_goals (refine ⟨⟨_, _, _, _, _, _, _, _, _, _, _, _, _, _, _, _, _, _, _, _, _, _, _, _, _, _, _, _, _, _, _, _, _, _, _, _, _, _, _, _, by rw [HBD.out]⟩, HF.out _ ?_⟩; (repeat (first | assumption | refine bl_drew ?_ | refine bl_alloc ?_ (Nat.le_refl _) _)))
end Go.Proofs.YtljenganlknhbaaGreat.Fr
