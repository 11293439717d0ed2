/- The law FrameReads, walked: both Decodes give the same message and the same number. Printed by gen_frreads.py. (Layer 19.) -/
import Derived.Test.YtljenganlknhbaaGreatFrW
import Derived.Test.YtljenganlknhbaaGreatFrS
import Derived.Test.YtljenganlknhbaaGreatFrR5
namespace Go.Proofs.YtljenganlknhbaaGreat.Fr
set_option linter.unusedVariables false
set_option linter.unusedSimpArgs false
open Go.RowKit Go.Lib Oct
open Tr (Cp IsSet holds)
open Mk (MkR aMk eqB eqB_yes)
set_option maxRecDepth 100000 in
set_option maxHeartbeats 8000000 in
theorem reads_any (s : ByteArray) (w : World) : Calls Tryz.prog 4 #[.string s] w fun e w' => e = .returned (.bool true) ∧ Below w.heap.size w w' := by
  have AW := Lib.hid (awake_any w)
  by_cases hs : 131072 < s.size
  · have k1 : (131072 : Int) < (s.size : Int) := by omega
    go_enter Tryz.func4, Tryz.ntmps4
    go_wp2_with fail
    refine AW.out.mono ?_
    rintro e w1 ⟨rfl, hb1⟩
    have HB := Lib.hid hb1
    clear hb1 AW
    go_wp2_with fail
    go_ret
    exact ⟨rfl, HB.out⟩
  have k1 : decide (131072 < s.size) = false := decide_eq_false hs
  have k2 : decide ((131072 : Int) < (s.size : Int)) = false := decide_eq_false (by omega)
  have DC := Lib.hid (fun W => decode_any s W (by omega))
  have DR := Lib.hid (fun W => rdecode_any s W (by omega))
  clear hs
  go_enter Tryz.func4, Tryz.ntmps4
  go_wp2_with fail
  refine AW.out.mono ?_
  rintro e w1 ⟨rfl, hb1⟩
  have H1 := Lib.hid hb1
  clear hb1 AW
  go_wp2_with fail
  refine (DC.out w1).mono ?_
  rintro e w2 ⟨m, rfl, hm, hr, hsm, hb⟩
  have H2 := Lib.hid (H1.out.trans (hb.mono H1.out.size))
  clear hb H1 DC
  obtain ⟨q, hq⟩ : ∃ q, q = (decM s).1 := ⟨_, rfl⟩
  rw [← hq]
  have HQ := Lib.hid hq
  clear hq
  have Aag : aMsg m = .agg #[.int .i64 m.kind, .int .i64 m.src, .int .i64 m.dst, .int .i64 m.ses, .int .i64 m.step, m.pv, m.cv, m.iv, m.ov, m.mar.rv, m.mar.kv, m.mar.bv] := rfl
  obtain ⟨ao1, af1, ao2, af2, ao3, af3, ao4, af4, ao5, af5, ao6, af6, ao7, af7, e1, e2, e3, e4, e5, e6, e7⟩ := MsgR.form hr
  rw [e1, e2, e3, e4, e5, e6, e7] at Aag
  have AM := Lib.hid (And.intro hm (And.intro hr hsm))
  clear e1 e2 e3 e4 e5 e6 e7 hm hr hsm
  obtain ⟨an1, hn1⟩ : ∃ n, n = m.pre.length := ⟨_, rfl⟩
  obtain ⟨an2, hn2⟩ : ∃ n, n = m.cel.length := ⟨_, rfl⟩
  obtain ⟨an3, hn3⟩ : ∃ n, n = m.ids.length := ⟨_, rfl⟩
  obtain ⟨an4, hn4⟩ : ∃ n, n = m.obj.length := ⟨_, rfl⟩
  obtain ⟨an5, hn5⟩ : ∃ n, n = m.mar.refs.length := ⟨_, rfl⟩
  obtain ⟨an6, hn6⟩ : ∃ n, n = m.mar.toks.length := ⟨_, rfl⟩
  obtain ⟨an7, hn7⟩ : ∃ n, n = m.mar.tombs.length := ⟨_, rfl⟩
  obtain ⟨ak0, hk0⟩ : ∃ n, n = m.kind := ⟨_, rfl⟩
  obtain ⟨asrc, hsrc⟩ : ∃ n, n = m.src := ⟨_, rfl⟩
  obtain ⟨adst, hdst⟩ : ∃ n, n = m.dst := ⟨_, rfl⟩
  obtain ⟨ases, hses⟩ : ∃ n, n = m.ses := ⟨_, rfl⟩
  obtain ⟨astp, hstp⟩ : ∃ n, n = m.step := ⟨_, rfl⟩
  rw [← hn1, ← hn2, ← hn3, ← hn4, ← hn5, ← hn6, ← hn7, ← hk0, ← hsrc, ← hdst, ← hses, ← hstp] at Aag
  rw [Aag]
  have AA := Lib.hid Aag
  clear hn1 hn2 hn3 hn4 hn5 hn6 hn7 hk0 hsrc hdst hses hstp Aag
  go_wp2_with fail
  obtain ⟨W3, hW3⟩ : ∃ W, W = w2.alloc (.cells #[.int .i64 ak0, .int .i64 asrc, .int .i64 adst, .int .i64 ases, .int .i64 astp, .slice ao1 an1 af1, .slice ao2 an2 af2, .slice ao3 an3 af3, .slice ao4 an4 af4, .slice ao5 an5 af5, .slice ao6 an6 af6, .slice ao7 an7 af7] 30) := ⟨_, rfl⟩
  have hb3 : Below w2.heap.size w2 W3 := by rw [hW3]; exact (Below.refl _ _).alloc (Nat.le_refl _) _
  obtain ⟨B1, hB1⟩ : ∃ B, B = w2.heap.size := ⟨_, rfl⟩
  have K3 := Lib.hid (show BlkIs W3 B1 30 #[.int .i64 ak0, .int .i64 asrc, .int .i64 adst, .int .i64 ases, .int .i64 astp, .slice ao1 an1 af1, .slice ao2 an2 af2, .slice ao3 an3 af3, .slice ao4 an4 af4, .slice ao5 an5 af5, .slice ao6 an6 af6, .slice ao7 an7 af7] from by rw [hW3, hB1]; exact BlkIs.new _ _ _)
  have H3 := Lib.hid (H2.out.trans (hb3.mono H2.out.size))
  have R3 := Lib.hid (AM.out.2.1.later hb3)
  rw [← hW3, ← hB1]
  clear hW3 hb3 hB1 H2
  refine (DR.out W3).mono ?_
  rintro e w4 ⟨m', rfl, hm, hr, hsm, hb⟩
  have H4 := Lib.hid (H3.out.trans (hb.mono H3.out.size))
  have K4 := Lib.hid (BlkIs.below K3.out hb K3.out.lt)
  have R4 := Lib.hid (R3.out.later hb)
  clear hb H3 DR K3 R3
  rw [← HQ.out]
  have Bag : aMsg m' = .agg #[.int .i64 m'.kind, .int .i64 m'.src, .int .i64 m'.dst, .int .i64 m'.ses, .int .i64 m'.step, m'.pv, m'.cv, m'.iv, m'.ov, m'.mar.rv, m'.mar.kv, m'.mar.bv] := rfl
  obtain ⟨bo1, bf1, bo2, bf2, bo3, bf3, bo4, bf4, bo5, bf5, bo6, bf6, bo7, bf7, e1, e2, e3, e4, e5, e6, e7⟩ := MsgR.form hr
  rw [e1, e2, e3, e4, e5, e6, e7] at Bag
  have BM := Lib.hid (And.intro hm (And.intro hr hsm))
  clear e1 e2 e3 e4 e5 e6 e7 hm hr hsm
  obtain ⟨bn1, hn1⟩ : ∃ n, n = m'.pre.length := ⟨_, rfl⟩
  obtain ⟨bn2, hn2⟩ : ∃ n, n = m'.cel.length := ⟨_, rfl⟩
  obtain ⟨bn3, hn3⟩ : ∃ n, n = m'.ids.length := ⟨_, rfl⟩
  obtain ⟨bn4, hn4⟩ : ∃ n, n = m'.obj.length := ⟨_, rfl⟩
  obtain ⟨bn5, hn5⟩ : ∃ n, n = m'.mar.refs.length := ⟨_, rfl⟩
  obtain ⟨bn6, hn6⟩ : ∃ n, n = m'.mar.toks.length := ⟨_, rfl⟩
  obtain ⟨bn7, hn7⟩ : ∃ n, n = m'.mar.tombs.length := ⟨_, rfl⟩
  obtain ⟨bk0, hk0⟩ : ∃ n, n = m'.kind := ⟨_, rfl⟩
  obtain ⟨bsrc, hsrc⟩ : ∃ n, n = m'.src := ⟨_, rfl⟩
  obtain ⟨bdst, hdst⟩ : ∃ n, n = m'.dst := ⟨_, rfl⟩
  obtain ⟨bses, hses⟩ : ∃ n, n = m'.ses := ⟨_, rfl⟩
  obtain ⟨bstp, hstp⟩ : ∃ n, n = m'.step := ⟨_, rfl⟩
  rw [← hn1, ← hn2, ← hn3, ← hn4, ← hn5, ← hn6, ← hn7, ← hk0, ← hsrc, ← hdst, ← hses, ← hstp] at Bag
  rw [Bag]
  have BA := Lib.hid Bag
  clear hn1 hn2 hn3 hn4 hn5 hn6 hn7 hk0 hsrc hdst hses hstp Bag
  go_upto_region 7 with (fail)
  obtain ⟨W5, hW5⟩ : ∃ W, W = w4.alloc (.cells #[.int .i64 bk0, .int .i64 bsrc, .int .i64 bdst, .int .i64 bses, .int .i64 bstp, .slice bo1 bn1 bf1, .slice bo2 bn2 bf2, .slice bo3 bn3 bf3, .slice bo4 bn4 bf4, .slice bo5 bn5 bf5, .slice bo6 bn6 bf6, .slice bo7 bn7 bf7] 30) := ⟨_, rfl⟩
  have hb5 : Below w4.heap.size w4 W5 := by rw [hW5]; exact (Below.refl _ _).alloc (Nat.le_refl _) _
  obtain ⟨B2, hB2⟩ : ∃ B, B = w4.heap.size := ⟨_, rfl⟩
  have k5 : BlkIs W5 B2 30 #[.int .i64 bk0, .int .i64 bsrc, .int .i64 bdst, .int .i64 bses, .int .i64 bstp, .slice bo1 bn1 bf1, .slice bo2 bn2 bf2, .slice bo3 bn3 bf3, .slice bo4 bn4 bf4, .slice bo5 bn5 bf5, .slice bo6 bn6 bf6, .slice bo7 bn7 bf7] := by rw [hW5, hB2]; exact BlkIs.new _ _ _
  have j5 := BlkIs.below K4.out hb5 K4.out.lt
  have H5 := Lib.hid (H4.out.trans (hb5.mono H4.out.size))
  have SM := same_any m m' W5 (R4.out.later hb5) (BM.out.2.1.later hb5) AM.out.2.2 BM.out.2.2
  rw [eqB_yes (AM.out.1.trans BM.out.1.symm), AA.out, BA.out] at SM
  have SM := Lib.hid SM
  obtain ⟨u0, u1, u2, u3, u4, u5, u6, u7, u8, u9, u10, u11⟩ := blk12 (j5)
  obtain ⟨v0, v1, v2, v3, v4, v5, v6, v7, v8, v9, v10, v11⟩ := blk12 (k5)
  rw [← hW5, ← hB2]
  clear hW5 hb5 hB2 k5 j5 H4 K4 R4
  go_wp2_with fail
  refine SM.out.mono ?_
  rintro e w6 ⟨rfl, hb⟩
  have H6 := Lib.hid (H5.out.trans (hb.mono H5.out.size))
  clear hb SM H5
  go_wp2_with fail
  go_ret
  exact ⟨rfl, H6.out⟩
end Go.Proofs.YtljenganlknhbaaGreat.Fr
