/- The laws' own great, walked: where it answers no, the message is small enough. Printed by gen_frgr.py. (Layer 19.) -/
import Derived.Test.YtljenganlknhbaaGreatPkM
import Derived.BigQuiet
namespace Go.Proofs.YtljenganlknhbaaGreat.Fr
set_option linter.unusedVariables false
set_option linter.unusedSimpArgs false
open Go.RowKit
open Set (StrAt scells)
open Tr (Cp strAt_at)
open Mk (MkR aMk vRf vTok vTb TombsAt TbR)
/-- No text is longer than a text can be. -/
def MsgR.Sized (m : MsgR) : Prop := (∀ x ∈ m.pre, x.size ≤ reachBytes) ∧ (∀ z ∈ m.cel, z.c.pre.size ≤ reachBytes ∧ z.c.sum.size ≤ reachBytes ∧ (∀ x ∈ z.c.ids, x.size ≤ reachBytes) ∧ ∀ x ∈ z.c.kids, x.size ≤ reachBytes) ∧
  (∀ x ∈ m.ids, x.size ≤ reachBytes) ∧ (∀ x ∈ m.obj, x.size ≤ reachBytes) ∧ (∀ r ∈ m.mar.refs, r.name.size ≤ reachBytes ∧ r.id.size ≤ reachBytes) ∧ ∀ z ∈ m.mar.tombs, z.t.acks.length ≤ reachBytes
def GreatOut (m : MsgR) (e : Ending) : Prop := ∃ v, e = .returned (.bool v) ∧ (v = false → m.Small)
theorem greatOut_true (m : MsgR) : GreatOut m (.returned (.bool true)) := ⟨true, rfl, fun h => by cases h⟩
/-- Where great stands. -/
def GrSt (w : World) (cs : Array Value) (wr : World) : Prop := Below w.heap.size w wr ∧ BlkIs wr w.heap.size 30 cs
theorem GrSt.later {w : World} {cs : Array Value} {wr w' : World} (h : GrSt w cs wr) (hb : Below wr.heap.size wr w') : GrSt w cs w' := ⟨h.1.trans (hb.mono h.1.size), BlkIs.below h.2 hb h.2.lt⟩
theorem gr_drewN (w : World) (n : Nat) : Below w.heap.size w (w.drewN n) := ⟨rfl, rfl, rfl, Nat.le_refl _, fun _ _ => rfl⟩
theorem GrSt.drewN {w : World} {cs : Array Value} {wr : World} (h : GrSt w cs wr) (n : Nat) : GrSt w cs (wr.drewN n) := h.later (gr_drewN wr n)
set_option maxRecDepth 100000 in
set_option maxHeartbeats 8000000 in
theorem great_any (m : MsgR) (w : World) (h : m.Reads w) (hz : m.Sized) : Calls Tryz.prog 9 #[aMsg m] w fun e w' => GreatOut m e ∧ Below w.heap.size w w' := by
  have hT := Lib.hid (greatOut_true m)
  have hA := Lib.hid (fun (hl : m.Small) => (show GreatOut m (.returned (.bool false)) from ⟨false, rfl, fun _ => hl⟩))
  generalize hO : GreatOut m = GO at *
  clear hO
  obtain ⟨k0, src, dst, ses, stp, pre, cel, ids, obj, ⟨refs, toks, zs, rv, kv, bv⟩, pv, cv, iv, ov⟩ := m
  obtain ⟨h1, ⟨h2, h2r⟩, h3, h4, h5, h6, h7, h7r⟩ := h
  obtain ⟨s1, s2, s3, s4, s5, s6⟩ := hz
  dsimp only at h1 h2 h2r h3 h4 h5 h6 h7 h7r s1 s2 s3 s4 s5 s6
  have S := Lib.hid (And.intro s1 (And.intro s2 (And.intro s3 (And.intro s4 (And.intro s5 s6)))))
  clear s1 s2 s3 s4 s5 s6
  show Calls Tryz.prog 9 #[.agg #[.int .i64 k0, .int .i64 src, .int .i64 dst, .int .i64 ses, .int .i64 stp, pv, cv, iv, ov, rv, kv, bv]] w fun e w' => GO e ∧ Below w.heap.size w w'
  obtain ⟨o1, f1, r1⟩ := StrAt.form h1
  obtain ⟨o2, f2, r2, -, -⟩ := h2.form
  obtain ⟨o3, f3, r3⟩ := StrAt.form h3
  obtain ⟨o4, f4, r4⟩ := StrAt.form h4
  obtain ⟨o5, f5, r5, -, -⟩ := h5.form
  obtain ⟨o6, f6, r6, -, -⟩ := h6.form
  obtain ⟨o7, f7, r7, -, -⟩ := h7.form
  obtain ⟨n1, hn1⟩ : ∃ k, k = pre.length := ⟨_, rfl⟩
  obtain ⟨n2, hn2⟩ : ∃ k, k = cel.length := ⟨_, rfl⟩
  obtain ⟨n3, hn3⟩ : ∃ k, k = ids.length := ⟨_, rfl⟩
  obtain ⟨n4, hn4⟩ : ∃ k, k = obj.length := ⟨_, rfl⟩
  obtain ⟨n5, hn5⟩ : ∃ k, k = refs.length := ⟨_, rfl⟩
  obtain ⟨n6, hn6⟩ : ∃ k, k = toks.length := ⟨_, rfl⟩
  obtain ⟨n7, hn7⟩ : ∃ k, k = zs.length := ⟨_, rfl⟩
  rw [← hn1] at r1
  rw [← hn2] at r2
  rw [← hn3] at r3
  rw [← hn4] at r4
  rw [← hn5] at r5
  rw [← hn6] at r6
  rw [← hn7] at r7
  subst r1 r2 r3 r4 r5 r6 r7
  obtain ⟨W1, hW1⟩ : ∃ W1, W1 = w.alloc (.cells #[.int .i64 k0, .int .i64 src, .int .i64 dst, .int .i64 ses, .int .i64 stp, .slice o1 n1 f1, .slice o2 n2 f2, .slice o3 n3 f3, .slice o4 n4 f4, .slice o5 n5 f5, .slice o6 n6 f6, .slice o7 n7 f7] 30) := ⟨_, rfl⟩
  have HST := Lib.hid (show GrSt w #[.int .i64 k0, .int .i64 src, .int .i64 dst, .int .i64 ses, .int .i64 stp, .slice o1 n1 f1, .slice o2 n2 f2, .slice o3 n3 f3, .slice o4 n4 f4, .slice o5 n5 f5, .slice o6 n6 f6, .slice o7 n7 f7] W1 from ⟨by rw [hW1]; exact (Below.refl _ _).alloc (Nat.le_refl _) _, by rw [hW1]; exact BlkIs.new _ _ _⟩)
  have HW := Lib.hid hW1
  have H := Lib.hid (And.intro h1 (And.intro h2 (And.intro h2r (And.intro h3 (And.intro h4 (And.intro h5 (And.intro h7 h7r)))))))
  have HN := Lib.hid (And.intro hn1 (And.intro hn2 (And.intro hn3 (And.intro hn4 (And.intro hn5 (And.intro hn6 hn7))))))
  clear h1 h2 h2r h3 h4 h5 h6 h7 h7r hn1 hn2 hn3 hn4 hn5 hn6 hn7 hW1
  by_cases q1 : 100 < (n1 : Int)
  · go_enter Tryz.func9, Tryz.ntmps9
    go_wp2_with fail
    rw [← HW.out]
    go_ret
    exact ⟨hT.out, HST.out.1⟩
  by_cases q2 : 100 < (n2 : Int)
  · go_enter Tryz.func9, Tryz.ntmps9
    go_wp2_with fail
    rw [← HW.out]
    go_ret
    exact ⟨hT.out, HST.out.1⟩
  by_cases q3 : 1100 < (n3 : Int)
  · go_enter Tryz.func9, Tryz.ntmps9
    go_wp2_with fail
    rw [← HW.out]
    go_ret
    exact ⟨hT.out, HST.out.1⟩
  by_cases q4 : 40 < (n4 : Int)
  · go_enter Tryz.func9, Tryz.ntmps9
    go_wp2_with fail
    rw [← HW.out]
    go_ret
    exact ⟨hT.out, HST.out.1⟩
  by_cases q5 : 100 < (n5 : Int)
  · go_enter Tryz.func9, Tryz.ntmps9
    go_wp2_with fail
    rw [← HW.out]
    go_ret
    exact ⟨hT.out, HST.out.1⟩
  by_cases q6 : 300 < (n6 : Int)
  · go_enter Tryz.func9, Tryz.ntmps9
    go_wp2_with fail
    rw [← HW.out]
    go_ret
    exact ⟨hT.out, HST.out.1⟩
  by_cases q7 : 100 < (n7 : Int)
  · go_enter Tryz.func9, Tryz.ntmps9
    go_wp2_with fail
    rw [← HW.out]
    go_ret
    exact ⟨hT.out, HST.out.1⟩
  have HQ := Lib.hid (show n1 ≤ 100 ∧ n2 ≤ 100 ∧ n3 ≤ 1100 ∧ n4 ≤ 40 ∧ n5 ≤ 100 ∧ n6 ≤ 300 ∧ n7 ≤ 100 from ⟨by omega, by omega, by omega, by omega, by omega, by omega, by omega⟩)
  go_enter Tryz.func9, Tryz.ntmps9
  go_wp2_with fail
  rw [← HW.out]
  clear q1 q2 q3 q4 q5 q6 q7 HW
  have q := HQ.out.1
  go_loopw [3, 4] (fun m i wr => ∃ (z : Int) (j : Nat), m = .int .i64 z ∧ i = .int .i64 (j : Int) ∧ j ≤ n1 ∧ (0 ≤ z ∧ z ≤ 1048576) ∧ Hid (GrSt w #[.int .i64 k0, .int .i64 src, .int .i64 dst, .int .i64 ses, .int .i64 stp, .slice o1 n1 f1, .slice o2 n2 f2, .slice o3 n3 f3, .slice o4 n4 f4, .slice o5 n5 f5, .slice o6 n6 f6, .slice o7 n7 f7] wr)) (fun _ i _ => n1 - (intOf i).toNat)
  case atStart => exact ⟨_, 0, rfl, rfl, Nat.zero_le _, ⟨by omega, by omega⟩, HST⟩
  case round =>
    skip
    obtain ⟨z, j, rfl, rfl, hj, hzz, HG⟩ := hrel
    have c1 : wr.cell? ⟨w.heap.size, 5, none⟩ = some (.slice o1 n1 f1) := HG.out.2.cell 5
    have jw : IntKind.i64.wrap ((j : Int) + 1) = ((j + 1 : Nat) : Int) := IntWalk.i64_in _ (by omega)
    rcases Nat.lt_or_ge j n1 with hlt | hge
    · have ji : (j : Int) < n1 := by omega
      have hjl : j < pre.length := by have := HN.out.1; omega
      obtain ⟨b, off, ha, hblt, hc⟩ := strAt_at H.out.1 (by omega)
      obtain ⟨x, hx⟩ : ∃ x, x = pre[j] := ⟨_, rfl⟩
      have hsx := S.out.1 x (by rw [hx]; exact List.getElem_mem hjl)
      have e0 : wr.cell? ⟨b, off + j, none⟩ = some (.string x) := by
        have := hc j hlt
        rw [getElem!_pos pre j hjl] at this
        rw [HG.out.1.cell hblt, this, hx]
      subst ha
      have hrb : reachBytes = 140737488351232 := rfl
      have w2 : IntKind.i64.wrap (z + (x.size : Int)) = z + x.size := IntWalk.i64_in _ (by omega)
      obtain ⟨z', hz'⟩ : ∃ z', z' = z + (x.size : Int) := ⟨_, rfl⟩
      rw [← hz'] at w2
      have hz0 : 0 ≤ z' := by omega
      have HZZ := Lib.hid hz0
      have hz'' := hz'.symm
      clear hblt hc hx hjl hsx hrb hz'
      by_cases hbig : 1048576 < z'
      · go_wp2_with fail
        go_ret
        exact ⟨hT.out, HG.out.1⟩
      have hb2 : decide (1048576 < z') = false := decide_eq_false hbig
      have HBG := Lib.hid hbig
      clear hbig
      go_wp2_with fail
      exact ⟨⟨_, j + 1, rfl, by simp, hlt, ⟨HZZ.out, by have := HBG.out; omega⟩, HG⟩, by simp [intOf]; omega⟩
    · have ji : decide (j < n1) = false := decide_eq_false (by omega)
      obtain rfl : n1 = j := by omega
      have HG1 := HG
      have HZ1 := Lib.hid hzz
      go_wp2_with fail
      clear HG c1 q
      have q := HQ.out.2.1
      go_loopw [3, 5] (fun m i wr => ∃ (z : Int) (j : Nat), m = .int .i64 z ∧ i = .int .i64 (j : Int) ∧ j ≤ n2 ∧ (0 ≤ z ∧ z ≤ 1048576) ∧ Hid (GrSt w #[.int .i64 k0, .int .i64 src, .int .i64 dst, .int .i64 ses, .int .i64 stp, .slice o1 n1 f1, .slice o2 n2 f2, .slice o3 n3 f3, .slice o4 n4 f4, .slice o5 n5 f5, .slice o6 n6 f6, .slice o7 n7 f7] wr ∧ ∀ t (h : t < cel.length), t < j → cel[t].c.ids.length ≤ 40 ∧ cel[t].c.kids.length ≤ 40)) (fun _ i _ => n2 - (intOf i).toNat)
      case atStart => exact ⟨_, 0, rfl, rfl, Nat.zero_le _, HZ1.out, Lib.hid ⟨HG1.out, fun _ _ h => absurd h (Nat.not_lt_zero _)⟩⟩
      case round =>
        clear HG1
        obtain ⟨z, j, rfl, rfl, hj, hzz, HG⟩ := hrel
        have c1 : wr.cell? ⟨w.heap.size, 6, none⟩ = some (.slice o2 n2 f2) := HG.out.1.2.cell 6
        have jw : IntKind.i64.wrap ((j : Int) + 1) = ((j + 1 : Nat) : Int) := IntWalk.i64_in _ (by omega)
        rcases Nat.lt_or_ge j n2 with hlt | hge
        · have ji : (j : Int) < n2 := by omega
          have hjl : j < cel.length := by have := HN.out.2.1; omega
          obtain ⟨b, off, ha, hblt, hc⟩ := H.out.2.1.at_ (by omega)
          obtain ⟨x, hx⟩ : ∃ x, x = cel[j] := ⟨_, rfl⟩
          have HR := Lib.hid (H.out.2.2.1 x (by rw [hx]; exact List.getElem_mem hjl))
          have HX := Lib.hid (show cel[j] = x from hx.symm)
          have hsx := S.out.2.1 x (by rw [hx]; exact List.getElem_mem hjl)
          have E0 := hc j hjl 0 _ (by rw [← hx]; rfl)
          have E2 := hc j hjl 2 _ (by rw [← hx]; rfl)
          have E3 := hc j hjl 3 _ (by rw [← hx]; rfl)
          have E4 := hc j hjl 4 _ (by rw [← hx]; rfl)
          obtain ⟨⟨a0, a1, a2, li, lk⟩, vi, vk⟩ := x
          obtain ⟨oi, fi, hvi⟩ := StrAt.form HR.out.1
          obtain ⟨ok, fk, hvk⟩ := StrAt.form HR.out.2
          dsimp only at hvi hvk E0 E2 E3 E4 hsx
          obtain ⟨ni, hni⟩ : ∃ q, q = li.length := ⟨_, rfl⟩
          obtain ⟨nk, hnk⟩ : ∃ q, q = lk.length := ⟨_, rfl⟩
          rw [← hni] at hvi
          rw [← hnk] at hvk
          subst hvi hvk
          rw [show off + j * 5 + 0 = off + j * 5 from rfl] at E0
          subst ha
          have HNni := Lib.hid hni
          have HNnk := Lib.hid hnk
          have HSX := Lib.hid hsx.2.2
          have hp := hsx.1
          have hu := hsx.2.1
          have HE := Lib.hid (fun (W : World) (hb : Below w.heap.size w W) => (show W.cell? ⟨b, off + j * 5, none⟩ = some (.string a0) ∧ W.cell? ⟨b, off + j * 5 + 2, none⟩ = some (.string a2) ∧ W.cell? ⟨b, off + j * 5 + 3, none⟩ = some (.slice oi ni fi) ∧ W.cell? ⟨b, off + j * 5 + 4, none⟩ = some (.slice ok nk fk) from
            ⟨(hb.cell hblt).trans E0, (hb.cell hblt).trans E2, (hb.cell hblt).trans E3, (hb.cell hblt).trans E4⟩))
          have e0 := (HE.out wr HG.out.1.1).1
          have e2 := (HE.out wr HG.out.1.1).2.1
          have e3 := (HE.out wr HG.out.1.1).2.2.1
          have e4 := (HE.out wr HG.out.1.1).2.2.2
          have hrb : reachBytes = 140737488351232 := rfl
          have w1 : IntKind.i64.wrap ((a0.size : Int) + a2.size) = (a0.size : Int) + a2.size := IntWalk.i64_in _ (by omega)
          obtain ⟨s, hs⟩ : ∃ s, s = (a0.size : Int) + a2.size := ⟨_, rfl⟩
          rw [← hs] at w1
          have w2 : IntKind.i64.wrap (z + s) = z + s := IntWalk.i64_in _ (by omega)
          obtain ⟨z', hz'⟩ : ∃ z', z' = z + s := ⟨_, rfl⟩
          rw [← hz'] at w2
          have hz0 : 0 ≤ z' := by omega
          have HZZ := Lib.hid hz0
          have hs' := hs.symm
          have hz'' := hz'.symm
          clear hblt hc hx hsx hrb hs hz' hp hu E0 E2 E3 E4 hni hnk
          by_cases hbig : 1048576 < z'
          · go_wp2_with fail
            go_quiet (fail)
            go_wp2_with fail
            go_ret
            exact ⟨hT.out, (HG.out.1.drewN _).1⟩
          have hb2 : decide (1048576 < z') = false := decide_eq_false hbig
          have HBG := Lib.hid hbig
          clear hbig
          by_cases i40 : 40 < (ni : Int)
          · go_wp2_with fail
            go_quiet (fail)
            go_wp2_with fail
            go_ret
            exact ⟨hT.out, (HG.out.1.drewN _).1⟩
          by_cases k40 : 40 < (nk : Int)
          · go_wp2_with fail
            go_quiet (fail)
            go_wp2_with fail
            go_ret
            exact ⟨hT.out, (HG.out.1.drewN _).1⟩
          have H40 := Lib.hid (show ni ≤ 40 ∧ nk ≤ 40 from ⟨by omega, by omega⟩)
          go_wp2_with fail
          go_quiet (fail)
          go_wp2_with fail
          clear e0 e2 e3 e4 c1 w1 w2 hb2 hz'' hs'
          have HGo := Lib.hid HG.out.1
          have HK := Lib.hid (show ∀ t (h : t < cel.length), t < j + 1 → cel[t].c.ids.length ≤ 40 ∧ cel[t].c.kids.length ≤ 40 from fun t ht htk => by
            by_cases e : t = j
            · subst e
              rw [HX.out]
              exact ⟨by have := HNni.out; have := H40.out.1; show li.length ≤ 40; omega, by have := HNnk.out; have := H40.out.2; show lk.length ≤ 40; omega⟩
            · exact HG.out.2 t ht (by omega))
          clear HG i40 k40
          go_loopw [3, 6] (fun m i wr => ∃ (z : Int) (k : Nat), m = .int .i64 z ∧ i = .int .i64 (k : Int) ∧ k ≤ ni ∧ (0 ≤ z ∧ z ≤ 1048576) ∧ Hid (GrSt w #[.int .i64 k0, .int .i64 src, .int .i64 dst, .int .i64 ses, .int .i64 stp, .slice o1 n1 f1, .slice (some ⟨b, off, none⟩) n2 f2, .slice o3 n3 f3, .slice o4 n4 f4, .slice o5 n5 f5, .slice o6 n6 f6, .slice o7 n7 f7] wr)) (fun _ i _ => ni - (intOf i).toNat)
          case atStart => exact ⟨_, 0, rfl, rfl, Nat.zero_le _, ⟨HZZ.out, by have := HBG.out; omega⟩, Lib.hid (HGo.out.drewN _)⟩
          case round =>
            obtain ⟨z, k, rfl, rfl, hk, hzz, HG⟩ := hrel
            have c1 : wr.cell? ⟨w.heap.size, 6, none⟩ = some (.slice (some ⟨b, off, none⟩) n2 f2) := HG.out.2.cell 6
            have c2 := (HE.out wr HG.out.1).2.2.1
            have kw : IntKind.i64.wrap ((k : Int) + 1) = ((k + 1 : Nat) : Int) := IntWalk.i64_in _ (by have := H40.out; omega)
            rcases Nat.lt_or_ge k ni with hlt2 | hge2
            · have ki : (k : Int) < ni := by omega
              have hkl : k < li.length := by have := HNni.out; omega
              obtain ⟨b3, off3, ha, hblt, hc⟩ := strAt_at HR.out.1 (by omega)
              obtain ⟨x, hx⟩ : ∃ x, x = li[k] := ⟨_, rfl⟩
              have hsx := HSX.out.1 x (by rw [hx]; exact List.getElem_mem hkl)
              have e0 : wr.cell? ⟨b3, off3 + k, none⟩ = some (.string x) := by
                have := hc k hlt2
                rw [getElem!_pos li k hkl] at this
                rw [HG.out.1.cell hblt, this, hx]
              subst ha
              have hrb : reachBytes = 140737488351232 := rfl
              have w2 : IntKind.i64.wrap (z + (x.size : Int)) = z + x.size := IntWalk.i64_in _ (by omega)
              obtain ⟨z', hz'⟩ : ∃ z', z' = z + (x.size : Int) := ⟨_, rfl⟩
              rw [← hz'] at w2
              have hz0 : 0 ≤ z' := by omega
              have HZZ := Lib.hid hz0
              have hz'' := hz'.symm
              clear hblt hc hx hkl hsx hrb hz'
              by_cases hbig : 1048576 < z'
              · go_wp2_with fail
                go_ret
                exact ⟨hT.out, HG.out.1⟩
              have hb2 : decide (1048576 < z') = false := decide_eq_false hbig
              have HBG := Lib.hid hbig
              clear hbig
              go_wp2_with fail
              exact ⟨⟨_, k + 1, rfl, by simp, hlt2, ⟨HZZ.out, by have := HBG.out; omega⟩, HG⟩, by simp [intOf]; omega⟩
            · have ki : decide (k < ni) = false := decide_eq_false (by omega)
              obtain rfl : ni = k := by omega
              have HGii := HG
              have HZii := Lib.hid hzz
              go_wp2_with fail
              clear HG c1 c2
              go_loopw [3, 7] (fun m i wr => ∃ (z : Int) (k : Nat), m = .int .i64 z ∧ i = .int .i64 (k : Int) ∧ k ≤ nk ∧ (0 ≤ z ∧ z ≤ 1048576) ∧ Hid (GrSt w #[.int .i64 k0, .int .i64 src, .int .i64 dst, .int .i64 ses, .int .i64 stp, .slice o1 n1 f1, .slice (some ⟨b, off, none⟩) n2 f2, .slice o3 n3 f3, .slice o4 n4 f4, .slice o5 n5 f5, .slice o6 n6 f6, .slice o7 n7 f7] wr)) (fun _ i _ => nk - (intOf i).toNat)
              case atStart => exact ⟨_, 0, rfl, rfl, Nat.zero_le _, HZii.out, HGii⟩
              case round =>
                obtain ⟨z, k, rfl, rfl, hk, hzz, HG⟩ := hrel
                have c1 : wr.cell? ⟨w.heap.size, 6, none⟩ = some (.slice (some ⟨b, off, none⟩) n2 f2) := HG.out.2.cell 6
                have c2 := (HE.out wr HG.out.1).2.2.2
                have kw : IntKind.i64.wrap ((k : Int) + 1) = ((k + 1 : Nat) : Int) := IntWalk.i64_in _ (by have := H40.out; omega)
                rcases Nat.lt_or_ge k nk with hlt2 | hge2
                · have ki : (k : Int) < nk := by omega
                  have hkl : k < lk.length := by have := HNnk.out; omega
                  obtain ⟨b3, off3, ha, hblt, hc⟩ := strAt_at HR.out.2 (by omega)
                  obtain ⟨x, hx⟩ : ∃ x, x = lk[k] := ⟨_, rfl⟩
                  have hsx := HSX.out.2 x (by rw [hx]; exact List.getElem_mem hkl)
                  have e0 : wr.cell? ⟨b3, off3 + k, none⟩ = some (.string x) := by
                    have := hc k hlt2
                    rw [getElem!_pos lk k hkl] at this
                    rw [HG.out.1.cell hblt, this, hx]
                  subst ha
                  have hrb : reachBytes = 140737488351232 := rfl
                  have w2 : IntKind.i64.wrap (z + (x.size : Int)) = z + x.size := IntWalk.i64_in _ (by omega)
                  obtain ⟨z', hz'⟩ : ∃ z', z' = z + (x.size : Int) := ⟨_, rfl⟩
                  rw [← hz'] at w2
                  have hz0 : 0 ≤ z' := by omega
                  have HZZ := Lib.hid hz0
                  have hz'' := hz'.symm
                  clear hblt hc hx hkl hsx hrb hz'
                  by_cases hbig : 1048576 < z'
                  · go_wp2_with fail
                    go_ret
                    exact ⟨hT.out, HG.out.1⟩
                  have hb2 : decide (1048576 < z') = false := decide_eq_false hbig
                  have HBG := Lib.hid hbig
                  clear hbig
                  go_wp2_with fail
                  exact ⟨⟨_, k + 1, rfl, by simp, hlt2, ⟨HZZ.out, by have := HBG.out; omega⟩, HG⟩, by simp [intOf]; omega⟩
                · have ki : decide (k < nk) = false := decide_eq_false (by omega)
                  obtain rfl : nk = k := by omega
                  have HGkk := HG
                  have HZkk := Lib.hid hzz
                  go_wp2_with fail
                  clear HG c1 c2
                  exact ⟨⟨_, j + 1, rfl, by simp, hlt, HZkk.out, Lib.hid ⟨HGkk.out, HK.out⟩⟩, by simp [intOf]; omega⟩
        · have ji : decide (j < n2) = false := decide_eq_false (by omega)
          obtain rfl : n2 = j := by omega
          have HG2 := Lib.hid HG.out.1
          have HK2 := Lib.hid HG.out.2
          have HZ2 := Lib.hid hzz
          go_wp2_with fail
          clear HG c1 q
          have q := HQ.out.2.2.1
          go_loopw [3, 8] (fun m i wr => ∃ (z : Int) (j : Nat), m = .int .i64 z ∧ i = .int .i64 (j : Int) ∧ j ≤ n3 ∧ (0 ≤ z ∧ z ≤ 1048576) ∧ Hid (GrSt w #[.int .i64 k0, .int .i64 src, .int .i64 dst, .int .i64 ses, .int .i64 stp, .slice o1 n1 f1, .slice o2 n2 f2, .slice o3 n3 f3, .slice o4 n4 f4, .slice o5 n5 f5, .slice o6 n6 f6, .slice o7 n7 f7] wr)) (fun _ i _ => n3 - (intOf i).toNat)
          case atStart => exact ⟨_, 0, rfl, rfl, Nat.zero_le _, HZ2.out, HG2⟩
          case round =>
            clear HG2
            obtain ⟨z, j, rfl, rfl, hj, hzz, HG⟩ := hrel
            have c1 : wr.cell? ⟨w.heap.size, 7, none⟩ = some (.slice o3 n3 f3) := HG.out.2.cell 7
            have jw : IntKind.i64.wrap ((j : Int) + 1) = ((j + 1 : Nat) : Int) := IntWalk.i64_in _ (by omega)
            rcases Nat.lt_or_ge j n3 with hlt | hge
            · have ji : (j : Int) < n3 := by omega
              have hjl : j < ids.length := by have := HN.out.2.2.1; omega
              obtain ⟨b, off, ha, hblt, hc⟩ := strAt_at H.out.2.2.2.1 (by omega)
              obtain ⟨x, hx⟩ : ∃ x, x = ids[j] := ⟨_, rfl⟩
              have hsx := S.out.2.2.1 x (by rw [hx]; exact List.getElem_mem hjl)
              have e0 : wr.cell? ⟨b, off + j, none⟩ = some (.string x) := by
                have := hc j hlt
                rw [getElem!_pos ids j hjl] at this
                rw [HG.out.1.cell hblt, this, hx]
              subst ha
              have hrb : reachBytes = 140737488351232 := rfl
              have w2 : IntKind.i64.wrap (z + (x.size : Int)) = z + x.size := IntWalk.i64_in _ (by omega)
              obtain ⟨z', hz'⟩ : ∃ z', z' = z + (x.size : Int) := ⟨_, rfl⟩
              rw [← hz'] at w2
              have hz0 : 0 ≤ z' := by omega
              have HZZ := Lib.hid hz0
              have hz'' := hz'.symm
              clear hblt hc hx hjl hsx hrb hz'
              by_cases hbig : 1048576 < z'
              · go_wp2_with fail
                go_ret
                exact ⟨hT.out, HG.out.1⟩
              have hb2 : decide (1048576 < z') = false := decide_eq_false hbig
              have HBG := Lib.hid hbig
              clear hbig
              go_wp2_with fail
              exact ⟨⟨_, j + 1, rfl, by simp, hlt, ⟨HZZ.out, by have := HBG.out; omega⟩, HG⟩, by simp [intOf]; omega⟩
            · have ji : decide (j < n3) = false := decide_eq_false (by omega)
              obtain rfl : n3 = j := by omega
              have HG3 := HG
              have HZ3 := Lib.hid hzz
              go_wp2_with fail
              clear HG c1 q
              have q := HQ.out.2.2.2.1
              go_loopw [3, 9] (fun m i wr => ∃ (z : Int) (j : Nat), m = .int .i64 z ∧ i = .int .i64 (j : Int) ∧ j ≤ n4 ∧ (0 ≤ z ∧ z ≤ 1048576) ∧ Hid (GrSt w #[.int .i64 k0, .int .i64 src, .int .i64 dst, .int .i64 ses, .int .i64 stp, .slice o1 n1 f1, .slice o2 n2 f2, .slice o3 n3 f3, .slice o4 n4 f4, .slice o5 n5 f5, .slice o6 n6 f6, .slice o7 n7 f7] wr)) (fun _ i _ => n4 - (intOf i).toNat)
              case atStart => exact ⟨_, 0, rfl, rfl, Nat.zero_le _, HZ3.out, HG3⟩
              case round =>
                clear HG3
                obtain ⟨z, j, rfl, rfl, hj, hzz, HG⟩ := hrel
                have c1 : wr.cell? ⟨w.heap.size, 8, none⟩ = some (.slice o4 n4 f4) := HG.out.2.cell 8
                have jw : IntKind.i64.wrap ((j : Int) + 1) = ((j + 1 : Nat) : Int) := IntWalk.i64_in _ (by omega)
                rcases Nat.lt_or_ge j n4 with hlt | hge
                · have ji : (j : Int) < n4 := by omega
                  have hjl : j < obj.length := by have := HN.out.2.2.2.1; omega
                  obtain ⟨b, off, ha, hblt, hc⟩ := strAt_at H.out.2.2.2.2.1 (by omega)
                  obtain ⟨x, hx⟩ : ∃ x, x = obj[j] := ⟨_, rfl⟩
                  have hsx := S.out.2.2.2.1 x (by rw [hx]; exact List.getElem_mem hjl)
                  have e0 : wr.cell? ⟨b, off + j, none⟩ = some (.string x) := by
                    have := hc j hlt
                    rw [getElem!_pos obj j hjl] at this
                    rw [HG.out.1.cell hblt, this, hx]
                  subst ha
                  have hrb : reachBytes = 140737488351232 := rfl
                  have w2 : IntKind.i64.wrap (z + (x.size : Int)) = z + x.size := IntWalk.i64_in _ (by omega)
                  obtain ⟨z', hz'⟩ : ∃ z', z' = z + (x.size : Int) := ⟨_, rfl⟩
                  rw [← hz'] at w2
                  have hz0 : 0 ≤ z' := by omega
                  have HZZ := Lib.hid hz0
                  have hz'' := hz'.symm
                  clear hblt hc hx hjl hsx hrb hz'
                  by_cases hbig : 1048576 < z'
                  · go_wp2_with fail
                    go_ret
                    exact ⟨hT.out, HG.out.1⟩
                  have hb2 : decide (1048576 < z') = false := decide_eq_false hbig
                  have HBG := Lib.hid hbig
                  clear hbig
                  go_wp2_with fail
                  exact ⟨⟨_, j + 1, rfl, by simp, hlt, ⟨HZZ.out, by have := HBG.out; omega⟩, HG⟩, by simp [intOf]; omega⟩
                · have ji : decide (j < n4) = false := decide_eq_false (by omega)
                  obtain rfl : n4 = j := by omega
                  have HG4 := HG
                  have HZ4 := Lib.hid hzz
                  go_wp2_with fail
                  clear HG c1 q
                  have q := HQ.out.2.2.2.2.1
                  go_loopw [3, 10] (fun m i wr => ∃ (z : Int) (j : Nat), m = .int .i64 z ∧ i = .int .i64 (j : Int) ∧ j ≤ n5 ∧ (0 ≤ z ∧ z ≤ 1048576) ∧ Hid (GrSt w #[.int .i64 k0, .int .i64 src, .int .i64 dst, .int .i64 ses, .int .i64 stp, .slice o1 n1 f1, .slice o2 n2 f2, .slice o3 n3 f3, .slice o4 n4 f4, .slice o5 n5 f5, .slice o6 n6 f6, .slice o7 n7 f7] wr)) (fun _ i _ => n5 - (intOf i).toNat)
                  case atStart => exact ⟨_, 0, rfl, rfl, Nat.zero_le _, HZ4.out, HG4⟩
                  case round =>
                    clear HG4
                    obtain ⟨z, j, rfl, rfl, hj, hzz, HG⟩ := hrel
                    have c1 : wr.cell? ⟨w.heap.size, 9, none⟩ = some (.slice o5 n5 f5) := HG.out.2.cell 9
                    have jw : IntKind.i64.wrap ((j : Int) + 1) = ((j + 1 : Nat) : Int) := IntWalk.i64_in _ (by omega)
                    rcases Nat.lt_or_ge j n5 with hlt | hge
                    · have ji : (j : Int) < n5 := by omega
                      have hjl : j < refs.length := by have := HN.out.2.2.2.2.1; omega
                      obtain ⟨b, off, ha, hblt, hc⟩ := (H.out.2.2.2.2.2.1.later HG.out.1).at_ (by omega)
                      obtain ⟨x, hx⟩ : ∃ x, x = refs[j] := ⟨_, rfl⟩
                      have hsx := S.out.2.2.2.2.1 x (by rw [hx]; exact List.getElem_mem hjl)
                      have e0 := hc j hjl 0 _ (by rw [← hx]; rfl)
                      have e1 := hc j hjl 1 _ (by rw [← hx]; rfl)
                      obtain ⟨a0, a1, a2⟩ := x
                      dsimp only at e0 e1
                      rw [show off + j * 3 + 0 = off + j * 3 from rfl] at e0
                      subst ha
                      dsimp only at hsx
                      have hrb : reachBytes = 140737488351232 := rfl
                      have w1 : IntKind.i64.wrap ((a0.size : Int) + a1.size) = (a0.size : Int) + a1.size := IntWalk.i64_in _ (by omega)
                      obtain ⟨s, hs⟩ : ∃ s, s = (a0.size : Int) + a1.size := ⟨_, rfl⟩
                      rw [← hs] at w1
                      have w2 : IntKind.i64.wrap (z + s) = z + s := IntWalk.i64_in _ (by omega)
                      have hs' := hs.symm
                      obtain ⟨z', hz'⟩ : ∃ z', z' = z + s := ⟨_, rfl⟩
                      rw [← hz'] at w2
                      have hz0 : 0 ≤ z' := by omega
                      have HZZ := Lib.hid hz0
                      have hz'' := hz'.symm
                      clear hblt hc hx hjl hsx hrb hs hz'
                      by_cases hbig : 1048576 < z'
                      · go_wp2_with fail
                        go_quiet (fail)
                        go_wp2_with fail
                        go_ret
                        exact ⟨hT.out, (HG.out.drewN _).1⟩
                      have hb2 : decide (1048576 < z') = false := decide_eq_false hbig
                      have HBG := Lib.hid hbig
                      clear hbig
                      go_wp2_with fail
                      go_quiet (fail)
                      go_wp2_with fail
                      exact ⟨⟨_, j + 1, rfl, by simp, hlt, ⟨HZZ.out, by have := HBG.out; omega⟩, Lib.hid (HG.out.drewN _)⟩, by simp [intOf]; omega⟩
                    · have ji : decide (j < n5) = false := decide_eq_false (by omega)
                      obtain rfl : n5 = j := by omega
                      have HG5 := HG
                      have HZ5 := Lib.hid hzz
                      go_wp2_with fail
                      clear HG c1 q
                      have q := HQ.out.2.2.2.2.2.2
                      go_loopw [3, 11] (fun m i wr => ∃ (z : Int) (j : Nat), m = .int .i64 z ∧ i = .int .i64 (j : Int) ∧ j ≤ n7 ∧ (0 ≤ z ∧ z ≤ 1048576) ∧ Hid (GrSt w #[.int .i64 k0, .int .i64 src, .int .i64 dst, .int .i64 ses, .int .i64 stp, .slice o1 n1 f1, .slice o2 n2 f2, .slice o3 n3 f3, .slice o4 n4 f4, .slice o5 n5 f5, .slice o6 n6 f6, .slice o7 n7 f7] wr ∧ ∀ t (h : t < zs.length), t < j → zs[t].t.cov.length ≤ 1000000 ∧ (zs[t].t.acks.length : Int) ≤ z)) (fun _ i _ => n7 - (intOf i).toNat)
                      case atStart => exact ⟨_, 0, rfl, rfl, Nat.zero_le _, HZ5.out, Lib.hid ⟨HG5.out, fun _ _ h => absurd h (Nat.not_lt_zero _)⟩⟩
                      case round =>
                        clear HG5
                        obtain ⟨z, j, rfl, rfl, hj, hzz, HG⟩ := hrel
                        have c1 : wr.cell? ⟨w.heap.size, 11, none⟩ = some (.slice o7 n7 f7) := HG.out.1.2.cell 11
                        have jw : IntKind.i64.wrap ((j : Int) + 1) = ((j + 1 : Nat) : Int) := IntWalk.i64_in _ (by omega)
                        rcases Nat.lt_or_ge j n7 with hlt | hge
                        · have ji : (j : Int) < n7 := by omega
                          have hjl : j < zs.length := by have := HN.out.2.2.2.2.2.2; omega
                          obtain ⟨b, off, ha, hblt, hc⟩ := (H.out.2.2.2.2.2.2.1.later HG.out.1.1).at_ (by omega)
                          obtain ⟨x, hx⟩ : ∃ x, x = zs[j] := ⟨_, rfl⟩
                          have HR := Lib.hid (H.out.2.2.2.2.2.2.2 x (by rw [hx]; exact List.getElem_mem hjl))
                          have HX := Lib.hid (show zs[j] = x from hx.symm)
                          have hna2 := S.out.2.2.2.2.2 x (by rw [hx]; exact List.getElem_mem hjl)
                          have e3 := hc j hjl 3 _ (by rw [← hx]; rfl)
                          have e4 := hc j hjl 4 _ (by rw [← hx]; rfl)
                          obtain ⟨⟨a0, a1, a2, lc, la⟩, vc, va⟩ := x
                          obtain ⟨oc, fc, hvc, -, -⟩ := HR.out.1.form
                          obtain ⟨oa, fa, hva, -, -⟩ := HR.out.2.form
                          dsimp only at hvc hva e3 e4 hna2
                          obtain ⟨nc, hnc⟩ : ∃ q, q = lc.length := ⟨_, rfl⟩
                          obtain ⟨na, hna⟩ : ∃ q, q = la.length := ⟨_, rfl⟩
                          rw [← hnc] at hvc
                          rw [← hna] at hva hna2
                          subst hvc hva
                          subst ha
                          have HNC := Lib.hid (And.intro hnc hna)
                          have hrb : reachBytes = 140737488351232 := rfl
                          obtain ⟨mc, hmc⟩ : ∃ m, m = min (nc : Int) 1048576 := ⟨_, rfl⟩
                          have hmc0 : 0 ≤ mc ∧ mc ≤ 1048576 := by rw [hmc]; omega
                          have w1 : IntKind.i64.wrap (40 * mc) = 40 * mc := IntWalk.i64_in _ (by omega)
                          have w3 : IntKind.i64.wrap (40 * mc + (na : Int)) = 40 * mc + (na : Int) := IntWalk.i64_in _ (by omega)
                          have w2 : IntKind.i64.wrap (z + (40 * mc + (na : Int))) = z + (40 * mc + (na : Int)) := IntWalk.i64_in _ (by omega)
                          obtain ⟨z', hz'⟩ : ∃ z', z' = z + (40 * mc + (na : Int)) := ⟨_, rfl⟩
                          rw [← hz'] at w2
                          have hz0 : 0 ≤ z' ∧ z ≤ z' ∧ (na : Int) ≤ z' := by omega
                          have hno : ¬ 1048576 < z' → nc ≤ 1000000 := by
                            intro h
                            rw [hmc] at hz'
                            omega
                          have HZZ := Lib.hid hz0
                          have HNO := Lib.hid hno
                          have hz'' := hz'.symm
                          have hmc' := hmc.symm
                          clear hblt hc hx hz' hmc hmc0 hz0 hno hnc hna hrb hna2
                          by_cases hbig : 1048576 < z'
                          · go_wp2_with fail
                            go_quiet (fail)
                            go_wp2_with fail
                            go_ret
                            exact ⟨hT.out, (HG.out.1.drewN _).1⟩
                          have hb2 : decide (1048576 < z') = false := decide_eq_false hbig
                          have HB := Lib.hid (And.intro hbig (HNO.out hbig))
                          clear hbig HNO
                          go_wp2_with fail
                          go_quiet (fail)
                          go_wp2_with fail
                          refine ⟨⟨_, j + 1, rfl, by simp, hlt, ⟨HZZ.out.1, by have := HB.out.1; omega⟩, Lib.hid ⟨HG.out.1.drewN _, fun t ht htk => ?_⟩⟩, by simp [intOf]; omega⟩
                          by_cases e : t = j
                          · subst e
                            rw [HX.out]
                            exact ⟨by have := HNC.out.1; have := HB.out.2; show lc.length ≤ 1000000; omega, by have := HNC.out.2; have := HZZ.out.2.2; show (la.length : Int) ≤ z'; omega⟩
                          · exact ⟨(HG.out.2 t ht (by omega)).1, by have := (HG.out.2 t ht (by omega)).2; have := HZZ.out.2.1; omega⟩
                        · have ji : decide (j < n7) = false := decide_eq_false (by omega)
                          obtain rfl : n7 = j := by omega
                          have HG7 := HG
                          by_cases hfin : 131072 < z
                          · go_wp2_with fail
                            go_ret
                            exact ⟨hT.out, HG7.out.1.1⟩
                          · have hf2 : decide (131072 < z) = false := decide_eq_false hfin
                            have HF := Lib.hid hfin
                            clear hfin
                            go_wp2_with fail
                            go_ret
                            refine ⟨hA.out ⟨⟨?_, ?_, ?_, ?_⟩, ⟨?_, ?_, ?_, ?_⟩, ?_, ?_⟩, HG7.out.1.1⟩
                            · have := HN.out.1; have := HQ.out.1; show pre.length ≤ 1000000; omega
                            · have := HN.out.2.1; have := HQ.out.2.1; show cel.length ≤ 1000000; omega
                            · have := HN.out.2.2.1; have := HQ.out.2.2.1; show ids.length ≤ 1000000; omega
                            · have := HN.out.2.2.2.1; have := HQ.out.2.2.2.1; show obj.length ≤ 1000000; omega
                            · have := HN.out.2.2.2.2.1; have := HQ.out.2.2.2.2.1; show refs.length ≤ 1000000; omega
                            · have := HN.out.2.2.2.2.2.1; have := HQ.out.2.2.2.2.2.1; show toks.length ≤ 1000000; omega
                            · have := HN.out.2.2.2.2.2.2; have := HQ.out.2.2.2.2.2.2; show zs.length ≤ 1000000; omega
                            · intro y hy
                              obtain ⟨t, ht, rfl⟩ := List.mem_iff_getElem.1 (show y ∈ zs from hy)
                              have h1 := HG7.out.2 t ht (by have := HN.out.2.2.2.2.2.2; omega)
                              have := HF.out
                              exact ⟨by omega, h1.1⟩
                            · intro x hx
                              have := S.out.1 x hx
                              have hrb : reachBytes = 140737488351232 := rfl
                              omega
                            · intro y hy
                              have hp := (S.out.2.1 y hy).1
                              have hrb : reachBytes = 140737488351232 := rfl
                              obtain ⟨t, ht, rfl⟩ := List.mem_iff_getElem.1 (show y ∈ cel from hy)
                              have := HK2.out t ht (by have := HN.out.2.1; omega)
                              exact ⟨by omega, by omega, by omega⟩
end Go.Proofs.YtljenganlknhbaaGreat.Fr
