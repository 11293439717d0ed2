/- The law FrameForms, walked: whatever body is framed is read as a right message, or refused by its form. Printed by gen_frforms.py. (Layer 19.) -/
import Derived.Test.YtljenganlknhbaaGreatFrW
import Derived.Test.YtljenganlknhbaaGreatFrS
namespace Go.Proofs.YtljenganlknhbaaGreat.Fr
set_option linter.unusedVariables false
set_option linter.unusedSimpArgs false
open Go.RowKit Go.Lib Oct
open Tr (Cp IsSet holds)
open Mk (MkR aMk eqB eqB_yes)
set_option maxRecDepth 100000 in
set_option maxHeartbeats 8000000 in
theorem forms_any (s : ByteArray) (w : World) : Calls Tryz.prog 7 #[.string s] w fun e w' => e = .returned (.bool true) ∧ Below w.heap.size w w' := by
  have AW := Lib.hid (awake_any w)
  by_cases hs : 131072 < s.size
  · have k1 : (131072 : Int) < (s.size : Int) := by omega
    go_enter Tryz.func7, Tryz.ntmps7
    go_wp2_with fail
    refine AW.out.mono ?_
    rintro e w1 ⟨rfl, hb1⟩
    have HB := Lib.hid hb1
    clear hb1 AW
    go_wp2_with fail
    go_ret
    exact ⟨rfl, HB.out⟩
  have k1 : decide (131072 < s.size) = false := decide_eq_false hs
  have k2 : decide ((131072 : Int) < (s.size : Int)) = false := decide_eq_false (by omega)
  have hle : s.size ≤ 131072 := by omega
  have N1 := Oct.num s.size
  have N1e : (⟨(le32 s.size).toArray⟩ : ByteArray) = enNum (s.size : Int) := rfl
  rw [N1e] at N1
  have CR := fun W => Pak.crcsum_any s W (by omega)
  have CRe : Pak.crc s.data.toList = crcB s := rfl
  simp only [CRe] at CR
  have N2 := Oct.num (crcB s)
  have N2e : (⟨(le32 (crcB s)).toArray⟩ : ByteArray) = enNum (crcB s : Int) := rfl
  rw [N2e] at N2
  have hfr : frameB s = enNum (s.size : Int) ++ enNum (crcB s : Int) ++ s := by unfold frameB; rw [ByteArray.append_assoc]
  have hdec := decM_frame s (by omega)
  rw [hfr] at hdec
  have hcases := readM_cases s
  have hsz : (enNum (s.size : Int) ++ enNum (crcB s : Int) ++ s).size = 8 + s.size := by simp only [ByteArray.size_append, Mk.enNum_size]
  have DC := fun W => decode_any (enNum (s.size : Int) ++ enNum (crcB s : Int) ++ s) W (by rw [hsz]; omega)
  have hw1 : IntKind.u32.wrap (s.size : Int) = (s.size : Int) := by rw [IntKind.wrap_u32]; omega
  clear N1e CRe N2e hfr hsz
  obtain ⟨c, hc⟩ : ∃ c, c = crcB s := ⟨_, rfl⟩
  rw [← hc] at CR N2 hdec DC
  obtain ⟨t1, ht1⟩ : ∃ t, t = enNum (s.size : Int) := ⟨_, rfl⟩
  obtain ⟨t2, ht2⟩ : ∃ t, t = enNum (c : Int) := ⟨_, rfl⟩
  rw [← ht1] at N1 hdec DC
  rw [← ht2] at N2 hdec DC
  have z1 : t1.size = 4 := by rw [ht1]; rfl
  have z2 : t2.size = 4 := by rw [ht2]; rfl
  have y1 : ¬ (9223372036854775807 < t1.size + t2.size) := by omega
  have y2 : ¬ (9223372036854775807 < t1.size + t2.size + s.size) := by omega
  have N1 := Lib.hid N1
  have N2 := Lib.hid N2
  have CR := Lib.hid CR
  have DC := Lib.hid DC
  have HD := Lib.hid (And.intro hdec hcases)
  clear hdec hcases hc ht1 ht2 z1 z2 hs
  go_enter Tryz.func7, Tryz.ntmps7
  go_wp2_with fail
  refine AW.out.mono ?_
  rintro e w1 ⟨rfl, hb1⟩
  have H1 := Lib.hid hb1
  clear hb1 AW
  go_wp2_with fail
  refine (N1.out w1).mono ?_
  rintro e w2 ⟨rfl, hb⟩
  have H2 := Lib.hid (H1.out.trans (hb.mono H1.out.size))
  clear hb H1 N1
  go_wp2_with fail
  refine (CR.out w2).mono ?_
  rintro e w3 ⟨rfl, hb⟩
  have H3 := Lib.hid (H2.out.trans (hb.mono H2.out.size))
  clear hb H2 CR
  go_wp2_with fail
  refine (N2.out w3).mono ?_
  rintro e w4 ⟨rfl, hb⟩
  have H4 := Lib.hid (H3.out.trans (hb.mono H3.out.size))
  clear hb H3 N2
  go_wp2_with fail
  refine (DC.out w4).mono ?_
  rintro e w5 ⟨m, rfl, hm, hr, hsm, hb⟩
  have H5 := Lib.hid (H4.out.trans (hb.mono H4.out.size))
  clear hb H4 DC
  rw [HD.out.1] at hm ⊢
  obtain ⟨q, hq⟩ : ∃ q, q = (readM s).1 := ⟨_, rfl⟩
  rw [← hq]
  have hag : aMsg m = .agg #[.int .i64 m.kind, .int .i64 m.src, .int .i64 m.dst, .int .i64 m.ses, .int .i64 m.step, m.pv, m.cv, m.iv, m.ov, m.mar.rv, m.mar.kv, m.mar.bv] := rfl
  obtain ⟨o1, f1, o2, f2, o3, f3, o4, f4, o5, f5, o6, f6, o7, f7, e1, e2, e3, e4, e5, e6, e7⟩ := MsgR.form hr
  rw [e1, e2, e3, e4, e5, e6, e7] at hag
  have HM := Lib.hid (And.intro hm (And.intro hr hsm))
  clear e1 e2 e3 e4 e5 e6 e7 hm hr hsm
  obtain ⟨n1, hn1⟩ : ∃ n, n = m.pre.length := ⟨_, rfl⟩
  obtain ⟨n2, hn2⟩ : ∃ n, n = m.cel.length := ⟨_, rfl⟩
  obtain ⟨n3, hn3⟩ : ∃ n, n = m.ids.length := ⟨_, rfl⟩
  obtain ⟨n4, hn4⟩ : ∃ n, n = m.obj.length := ⟨_, rfl⟩
  obtain ⟨n5, hn5⟩ : ∃ n, n = m.mar.refs.length := ⟨_, rfl⟩
  obtain ⟨n6, hn6⟩ : ∃ n, n = m.mar.toks.length := ⟨_, rfl⟩
  obtain ⟨n7, hn7⟩ : ∃ n, n = m.mar.tombs.length := ⟨_, rfl⟩
  obtain ⟨k0, hk0⟩ : ∃ n, n = m.kind := ⟨_, rfl⟩
  obtain ⟨src, hsrc⟩ : ∃ n, n = m.src := ⟨_, rfl⟩
  obtain ⟨dst, hdst⟩ : ∃ n, n = m.dst := ⟨_, rfl⟩
  obtain ⟨ses, hses⟩ : ∃ n, n = m.ses := ⟨_, rfl⟩
  obtain ⟨stp, hstp⟩ : ∃ n, n = m.step := ⟨_, rfl⟩
  rw [← hn1, ← hn2, ← hn3, ← hn4, ← hn5, ← hn6, ← hn7, ← hk0, ← hsrc, ← hdst, ← hses, ← hstp] at hag
  rw [hag]
  have HAG := Lib.hid hag
  have HQ := Lib.hid hq
  clear hn1 hn2 hn3 hn4 hn5 hn6 hn7 hk0 hsrc hdst hses hstp hag hq
  go_upto_region 6 with (fail)
  obtain ⟨W6, hW6⟩ : ∃ W, W = w5.alloc (.cells #[.int .i64 k0, .int .i64 src, .int .i64 dst, .int .i64 ses, .int .i64 stp, .slice o1 n1 f1, .slice o2 n2 f2, .slice o3 n3 f3, .slice o4 n4 f4, .slice o5 n5 f5, .slice o6 n6 f6, .slice o7 n7 f7] 30) := ⟨_, rfl⟩
  have hb6 : Below w5.heap.size w5 W6 := by rw [hW6]; exact (Below.refl _ _).alloc (Nat.le_refl _) _
  have k6 : BlkIs W6 w5.heap.size 30 #[.int .i64 k0, .int .i64 src, .int .i64 dst, .int .i64 ses, .int .i64 stp, .slice o1 n1 f1, .slice o2 n2 f2, .slice o3 n3 f3, .slice o4 n4 f4, .slice o5 n5 f5, .slice o6 n6 f6, .slice o7 n7 f7] := by rw [hW6]; exact BlkIs.new _ _ _
  have H6 := Lib.hid (H5.out.trans (hb6.mono H5.out.size))
  have HR6 := Lib.hid (HM.out.2.1.later hb6)
  have v0 : W6.cell? ⟨w5.heap.size, 0, none⟩ = some (.int .i64 k0) := k6.cell 0
  have v1 : W6.cell? ⟨w5.heap.size, 1, none⟩ = some (.int .i64 src) := k6.cell 1
  have v2 : W6.cell? ⟨w5.heap.size, 2, none⟩ = some (.int .i64 dst) := k6.cell 2
  have v3 : W6.cell? ⟨w5.heap.size, 3, none⟩ = some (.int .i64 ses) := k6.cell 3
  have v4 : W6.cell? ⟨w5.heap.size, 4, none⟩ = some (.int .i64 stp) := k6.cell 4
  have v5 : W6.cell? ⟨w5.heap.size, 5, none⟩ = some (.slice o1 n1 f1) := k6.cell 5
  have v6 : W6.cell? ⟨w5.heap.size, 6, none⟩ = some (.slice o2 n2 f2) := k6.cell 6
  have v7 : W6.cell? ⟨w5.heap.size, 7, none⟩ = some (.slice o3 n3 f3) := k6.cell 7
  have v8 : W6.cell? ⟨w5.heap.size, 8, none⟩ = some (.slice o4 n4 f4) := k6.cell 8
  have v9 : W6.cell? ⟨w5.heap.size, 9, none⟩ = some (.slice o5 n5 f5) := k6.cell 9
  have v10 : W6.cell? ⟨w5.heap.size, 10, none⟩ = some (.slice o6 n6 f6) := k6.cell 10
  have v11 : W6.cell? ⟨w5.heap.size, 11, none⟩ = some (.slice o7 n7 f7) := k6.cell 11
  rw [← hW6]
  clear hW6 hb6 k6 H5
  rcases HD.out.2 with hd | ⟨hd, hg, -⟩
  · have hq4 : q = 4 := by rw [HQ.out, hd]
    have hmn : m.msg = noMsg := by rw [HM.out.1, hd]
    have SM := same_any m MsgR.none_ W6 HR6.out (MsgR.none_reads W6) HM.out.2.2 MsgR.none_small
    rw [hmn, MsgR.none_msg, eqB_yes rfl, HAG.out, MsgR.none_agg] at SM
    have SM := Lib.hid SM
    clear hd hmn
    subst hq4
    go_wp2_with fail
    refine SM.out.mono ?_
    rintro e w7 ⟨rfl, hb⟩
    have H7 := Lib.hid (H6.out.trans (hb.mono H6.out.size))
    clear hb SM
    go_wp2_with fail
    go_ret
    exact ⟨rfl, H7.out⟩
  · have hq0 : q = 0 := by rw [HQ.out, hd]
    have GD := good_any m W6 HR6.out HM.out.2.2
    rw [show goodM m.msg = true by rw [HM.out.1]; exact hg, HAG.out] at GD
    have GD := Lib.hid GD
    clear hd hg
    subst hq0
    go_wp2_with fail
    refine GD.out.mono ?_
    rintro e w7 ⟨rfl, hb⟩
    have H7 := Lib.hid (H6.out.trans (hb.mono H6.out.size))
    clear hb GD
    go_wp2_with fail
    go_ret
    exact ⟨rfl, H7.out⟩
end Go.Proofs.YtljenganlknhbaaGreat.Fr
