/- Several texts in one. (Layer 12.) -/
import Derived.Test.YtbmknmjcoeinkaaGreatMk11
import Derived.Test.YtbmknmjcoeinkaaGreatOctet1
import Derived.BigQuiet
/- Marks whose texts are no longer than a text can be. Plain. (Layer 13.) -/
namespace Go.Proofs.YtbmknmjcoeinkaaGreat.Mk
set_option linter.unusedVariables false
open Go.RowKit
/-- No text is longer than a text can be. -/
def MkR.Sized (m : MkR) : Prop := (∀ r ∈ m.refs, r.name.size ≤ reachBytes ∧ r.id.size ≤ reachBytes) ∧ (∀ x ∈ m.toks, x.id.size ≤ reachBytes) ∧ ∀ z ∈ m.tombs, z.t.id.size ≤ reachBytes ∧ ∀ c ∈ z.t.cov, c.id.size ≤ reachBytes
end Go.Proofs.YtbmknmjcoeinkaaGreat.Mk

/- The law's own great, walked: where it answers no, the lists are short enough. (Layer 13; after Mk28.) -/
namespace Go.Proofs.YtbmknmjcoeinkaaGreat.Mk
set_option linter.unusedVariables false
open Go.RowKit
/-- None of the lists is long. -/
def MkR.Low (m : MkR) : Prop := m.refs.length ≤ 100 ∧ m.toks.length ≤ 300 ∧ m.tombs.length ≤ 300 ∧ ∀ z ∈ m.tombs, z.t.cov.length ≤ 1000000 ∧ z.t.acks.length ≤ 1000000
theorem MkR.Low.small {m : MkR} (h : m.Low) : m.Small := by
  obtain ⟨h1, h2, h3, h4⟩ := h
  exact ⟨by omega, by omega, by omega, fun z hz => by have := h4 z hz; omega⟩
def GreatOut (m : MkR) (e : Ending) : Prop := ∃ v, e = .returned (.bool v) ∧ (v = false → m.Low)
theorem greatOut_true (m : MkR) : GreatOut m (.returned (.bool true)) := ⟨true, rfl, fun h => by cases h⟩
/-- Where great stands. -/
def GrSt (w : World) (cs : Array Value) (wr : World) : Prop := Below w.heap.size w wr ∧ BlkIs wr w.heap.size 26 cs
theorem GrSt.later {w : World} {cs : Array Value} {wr w' : World} (h : GrSt w cs wr) (hb : Below wr.heap.size wr w') : GrSt w cs w' := ⟨h.1.trans (hb.mono h.1.size), BlkIs.below h.2 hb h.2.lt⟩
theorem below_drewN (w : World) (n : Nat) : Below w.heap.size w (w.drewN n) := ⟨rfl, rfl, rfl, Nat.le_refl _, fun _ _ => rfl⟩
theorem GrSt.drewN {w : World} {cs : Array Value} {wr : World} (h : GrSt w cs wr) (n : Nat) : GrSt w cs (wr.drewN n) := h.later (below_drewN wr n)
set_option maxRecDepth 100000 in
set_option maxHeartbeats 8000000 in
theorem great_any (m : MkR) (w : World) (h : m.Reads w) (hz : m.Sized) : Calls Tryz.prog 10 #[aMk m] w fun e w' => GreatOut m e ∧ Below w.heap.size w w' := by
  have hT := Lib.hid (greatOut_true m)
  have hA := Lib.hid (fun (hl : m.Low) (v : Bool) => (show GreatOut m (.returned (.bool v)) from ⟨v, rfl, fun _ => hl⟩))
  generalize hO : GreatOut m = GO at *
  clear hO
  obtain ⟨refs, toks, zs, rv, kv, bv⟩ := m
  obtain ⟨h1, h2, h3, h4⟩ := h
  obtain ⟨sz1, sz2, sz3⟩ := hz
  dsimp only at h1 h2 h3 h4 sz1 sz2 sz3
  have HSZ := Lib.hid (And.intro sz1 (And.intro sz2 sz3))
  clear sz1 sz2 sz3
  show Calls Tryz.prog 10 #[.agg #[rv, kv, bv]] w fun e w' => GO e ∧ Below w.heap.size w w'
  obtain ⟨o1, f1, hr1, -, hx1⟩ := h1.form
  obtain ⟨o2, f2, hr2, -, hx2⟩ := h2.form
  obtain ⟨o3, f3, hr3, -, hx3⟩ := h3.form
  obtain ⟨n1, hn1⟩ : ∃ k, k = refs.length := ⟨_, rfl⟩
  obtain ⟨n2, hn2⟩ : ∃ k, k = toks.length := ⟨_, rfl⟩
  obtain ⟨n3, hn3⟩ : ∃ k, k = zs.length := ⟨_, rfl⟩
  rw [← hn1] at hr1
  rw [← hn2] at hr2
  rw [← hn3] at hr3
  subst hr1 hr2 hr3
  obtain ⟨W1, hW1⟩ : ∃ W1, W1 = w.alloc (.cells #[.slice o1 n1 f1, .slice o2 n2 f2, .slice o3 n3 f3] 26) := ⟨_, rfl⟩
  have hS : GrSt w #[.slice o1 n1 f1, .slice o2 n2 f2, .slice o3 n3 f3] W1 := ⟨by rw [hW1]; exact (Below.refl _ _).alloc (Nat.le_refl _) _, by rw [hW1]; exact BlkIs.new _ _ _⟩
  have HST := Lib.hid hS
  have HW := Lib.hid hW1
  have H := Lib.hid (And.intro h1 (And.intro h2 (And.intro h3 h4)))
  have HN := Lib.hid (And.intro hn1 (And.intro hn2 hn3))
  clear h1 h2 h3 h4 hn1 hn2 hn3 hx1 hx2 hx3 hW1 hS
  by_cases q1 : 100 < (n1 : Int)
  · go_enter Tryz.func10, Tryz.ntmps10
    go_wp2_with fail
    rw [← HW.out]
    go_ret
    exact ⟨hT.out, HST.out.1⟩
  by_cases q2 : 300 < (n2 : Int)
  · go_enter Tryz.func10, Tryz.ntmps10
    go_wp2_with fail
    rw [← HW.out]
    go_ret
    exact ⟨hT.out, HST.out.1⟩
  by_cases q3 : 300 < (n3 : Int)
  · go_enter Tryz.func10, Tryz.ntmps10
    go_wp2_with fail
    rw [← HW.out]
    go_ret
    exact ⟨hT.out, HST.out.1⟩
  go_enter Tryz.func10, Tryz.ntmps10
  go_wp2_with fail
  rw [← HW.out]
  have HQ := Lib.hid (show n1 ≤ 100 ∧ n2 ≤ 300 ∧ n3 ≤ 300 from ⟨by omega, by omega, by omega⟩)
  clear q1 q2 q3 HW
  have q1 := HQ.out.1
  go_loopw [3, 4] (fun m i wr => ∃ (z : Int) (j : Nat), m = .int .i64 z ∧ i = .int .i64 (j : Int) ∧ j ≤ n1 ∧ (0 ≤ z ∧ z ≤ 1048576) ∧ Hid (GrSt w #[.slice o1 n1 f1, .slice o2 n2 f2, .slice o3 n3 f3] wr)) (fun _ i _ => n1 - (intOf i).toNat)
  case atStart => exact ⟨_, 0, rfl, rfl, Nat.zero_le _, ⟨by omega, by omega⟩, HST⟩
  case round =>
    obtain ⟨z, j, rfl, rfl, hj, hzz, HG⟩ := hrel
    have c0 : wr.cell? ⟨w.heap.size, 0, none⟩ = some (.slice o1 n1 f1) := HG.out.2.cell 0
    have jw : IntKind.i64.wrap ((j : Int) + 1) = ((j + 1 : Nat) : Int) := IntWalk.i64_in _ (by omega)
    rcases Nat.lt_or_ge j n1 with hlt | hge
    · have ji : (j : Int) < n1 := by omega
      have hjl : j < refs.length := by have := HN.out.1; omega
      obtain ⟨b, off, ha, hblt, hc⟩ := (H.out.1.later HG.out.1).at_ (by omega)
      obtain ⟨x, hx⟩ : ∃ x, x = refs[j] := ⟨_, rfl⟩
      have hsx := HSZ.out.1 x (by rw [hx]; exact List.getElem_mem hjl)
      have e0 := hc j hjl 0 _ (by rw [← hx]; rfl)
      have e1 := hc j hjl 1 _ (by rw [← hx]; rfl)
      have e2 := hc j hjl 2 _ (by rw [← hx]; rfl)
      obtain ⟨a0, a1, a2⟩ := x
      dsimp only at e0 e1 e2
      rw [show off + j * 3 + 0 = off + j * 3 from rfl] at e0
      subst ha
      dsimp only at hsx
      have hrb : reachBytes = 140737488351232 := rfl
      have w1 : IntKind.i64.wrap ((a0.size : Int) + a1.size) = (a0.size : Int) + a1.size := IntWalk.i64_in _ (by omega)
      obtain ⟨s, hs⟩ : ∃ s, s = (a0.size : Int) + a1.size := ⟨_, rfl⟩
      rw [← hs] at w1
      have w2 : IntKind.i64.wrap (z + s) = z + s := IntWalk.i64_in _ (by omega)
      obtain ⟨z', hz'⟩ : ∃ z', z' = z + s := ⟨_, rfl⟩
      rw [← hz'] at w2
      have hz0 : 0 ≤ z' := by omega
      have HZZ := Lib.hid hz0
      have hs' := hs.symm
      have hz'' := hz'.symm
      clear hblt hc hx hjl hsx hrb hs hz'
      by_cases hbig : 1048576 < z'
      · go_wp2_with fail
        go_quiet (fail)
        go_wp2_with fail
        go_ret
        exact ⟨hT.out, (HG.out.drewN _).1⟩
      · have hb2 : decide (1048576 < z') = false := decide_eq_false hbig
        have HBG := Lib.hid hbig
        clear hbig
        go_wp2_with fail
        go_quiet (fail)
        go_wp2_with fail
        exact ⟨⟨_, j + 1, rfl, by simp, hlt, ⟨HZZ.out, by have := HBG.out; omega⟩, Lib.hid (HG.out.drewN _)⟩, by simp [intOf]; omega⟩
    · have ji : decide (j < n1) = false := decide_eq_false (by omega)
      obtain rfl : n1 = j := by omega
      have HG1 := HG
      have HZ1 := Lib.hid hzz
      go_wp2_with fail
      clear HG c0
      have q2 := HQ.out.2.1
      go_loopw [3, 5] (fun m i wr => ∃ (z : Int) (j : Nat), m = .int .i64 z ∧ i = .int .i64 (j : Int) ∧ j ≤ n2 ∧ (0 ≤ z ∧ z ≤ 1048576) ∧ Hid (GrSt w #[.slice o1 n1 f1, .slice o2 n2 f2, .slice o3 n3 f3] wr)) (fun _ i _ => n2 - (intOf i).toNat)
      case atStart => exact ⟨_, 0, rfl, rfl, Nat.zero_le _, HZ1.out, HG1⟩
      case round =>
        clear HG1
        obtain ⟨z, j, rfl, rfl, hj, hzz, HG⟩ := hrel
        have c1 : wr.cell? ⟨w.heap.size, 1, none⟩ = some (.slice o2 n2 f2) := HG.out.2.cell 1
        have jw : IntKind.i64.wrap ((j : Int) + 1) = ((j + 1 : Nat) : Int) := IntWalk.i64_in _ (by omega)
        rcases Nat.lt_or_ge j n2 with hlt | hge
        · have ji : (j : Int) < n2 := by omega
          have hjl : j < toks.length := by have := HN.out.2.1; omega
          obtain ⟨b, off, ha, hblt, hc⟩ := (H.out.2.1.later HG.out.1).at_ (by omega)
          obtain ⟨x, hx⟩ : ∃ x, x = toks[j] := ⟨_, rfl⟩
          have hsx := HSZ.out.2.1 x (by rw [hx]; exact List.getElem_mem hjl)
          have e2 := hc j hjl 2 _ (by rw [← hx]; rfl)
          obtain ⟨a0, a1, a2⟩ := x
          dsimp only at e2
          subst ha
          dsimp only at hsx
          have hrb : reachBytes = 140737488351232 := rfl
          have w2 : IntKind.i64.wrap (z + (a2.size : Int)) = z + a2.size := IntWalk.i64_in _ (by omega)
          obtain ⟨z', hz'⟩ : ∃ z', z' = z + (a2.size : Int) := ⟨_, rfl⟩
          rw [← hz'] at w2
          have hz0 : 0 ≤ z' := by omega
          have HZZ := Lib.hid hz0
          have hz'' := hz'.symm
          clear hblt hc hx hjl hsx hrb hz'
          by_cases hbig : 1048576 < z'
          · go_wp2_with fail
            go_ret
            exact ⟨hT.out, HG.out.1⟩
          · have hb2 : decide (1048576 < z') = false := decide_eq_false hbig
            have HBG := Lib.hid hbig
            clear hbig
            go_wp2_with fail
            exact ⟨⟨_, j + 1, rfl, by simp, hlt, ⟨HZZ.out, by have := HBG.out; omega⟩, HG⟩, by simp [intOf]; omega⟩
        · have ji : decide (j < n2) = false := decide_eq_false (by omega)
          obtain rfl : n2 = j := by omega
          have HG2 := HG
          have HZ2 := Lib.hid hzz
          go_wp2_with fail
          clear HG c1
          have q3 := HQ.out.2.2
          go_loopw [3, 6] (fun m i wr => ∃ (z : Int) (j : Nat), m = .int .i64 z ∧ i = .int .i64 (j : Int) ∧ j ≤ n3 ∧ (0 ≤ z ∧ z ≤ 1048576) ∧ Hid (GrSt w #[.slice o1 n1 f1, .slice o2 n2 f2, .slice o3 n3 f3] wr ∧ ∀ t (h : t < zs.length), t < j → zs[t].t.cov.length ≤ 1000000 ∧ zs[t].t.acks.length ≤ 1000000)) (fun _ i _ => n3 - (intOf i).toNat)
          case atStart => exact ⟨_, 0, rfl, rfl, Nat.zero_le _, HZ2.out, Lib.hid ⟨HG2.out, fun _ _ h => absurd h (Nat.not_lt_zero _)⟩⟩
          case round =>
            clear HG2
            obtain ⟨z, k, rfl, rfl, hk, hzz, HG⟩ := hrel
            have c2 : wr.cell? ⟨w.heap.size, 2, none⟩ = some (.slice o3 n3 f3) := HG.out.1.2.cell 2
            have kw : IntKind.i64.wrap ((k : Int) + 1) = ((k + 1 : Nat) : Int) := IntWalk.i64_in _ (by omega)
            rcases Nat.lt_or_ge k n3 with hlt | hge
            · have ki : (k : Int) < n3 := by omega
              have hkl : k < zs.length := by have := HN.out.2.2; omega
              obtain ⟨b, off, ha, hblt, hc⟩ := (H.out.2.2.1.later HG.out.1.1).at_ (by omega)
              obtain ⟨x, hx⟩ : ∃ x, x = zs[k] := ⟨_, rfl⟩
              have e0 := hc k hkl 0 _ (by rw [← hx]; rfl)
              have e1 := hc k hkl 1 _ (by rw [← hx]; rfl)
              have e2 := hc k hkl 2 _ (by rw [← hx]; rfl)
              have e3 := hc k hkl 3 _ (by rw [← hx]; rfl)
              have e4 := hc k hkl 4 _ (by rw [← hx]; rfl)
              have HZ := Lib.hid (H.out.2.2.2 x (by rw [hx]; exact List.getElem_mem hkl))
              have HX := Lib.hid (show zs[k] = x from hx.symm)
              have hsx := HSZ.out.2.2 x (by rw [hx]; exact List.getElem_mem hkl)
              obtain ⟨⟨a0, a1, a2, lc, la⟩, a3, a4⟩ := x
              obtain ⟨oc, fc, hcv, -, hcx⟩ := HZ.out.1.form
              obtain ⟨oa, fa, hav, -, -⟩ := HZ.out.2.form
              dsimp only at hcv hav e0 e1 e2 e3 e4 hsx
              have HSC := Lib.hid hsx.2
              have hsx := hsx.1
              obtain ⟨nc, hnc⟩ : ∃ q, q = lc.length := ⟨_, rfl⟩
              obtain ⟨na, hna⟩ : ∃ q, q = la.length := ⟨_, rfl⟩
              rw [← hnc] at hcv
              rw [← hna] at hav
              subst hcv hav
              rw [show off + k * 5 + 0 = off + k * 5 from rfl] at e0
              subst ha
              have HNC := Lib.hid (And.intro hnc hna)
              have HXL := Lib.hid hkl
              clear hblt hc hx hnc hna hcx
              obtain ⟨X1, hX1⟩ : ∃ X, X = wr.heap.size := ⟨_, rfl⟩
              obtain ⟨W2, hW2⟩ : ∃ W2, W2 = wr.alloc (.cells #[.int .i64 a0, .int .i64 a1, .string a2, .slice oc nc fc, .slice oa na fa] 43) := ⟨_, rfl⟩
              have HG2 := Lib.hid (show GrSt w #[.slice o1 n1 f1, .slice o2 n2 f2, .slice (some ⟨b, off, none⟩) n3 f3] W2 ∧ BlkIs W2 X1 43 #[.int .i64 a0, .int .i64 a1, .string a2, .slice oc nc fc, .slice oa na fa] from by
                refine ⟨HG.out.1.later (by rw [hW2]; exact (Below.refl _ _).alloc (Nat.le_refl _) _), ?_⟩
                rw [hW2, hX1]; exact BlkIs.new _ _ _)
              have HWX := Lib.hid (And.intro hX1 hW2)
              clear hX1 hW2
              obtain ⟨mc, hmc⟩ : ∃ m, m = min (nc : Int) 1048576 := ⟨_, rfl⟩
              obtain ⟨ma, hma⟩ : ∃ m, m = min (na : Int) 1048576 := ⟨_, rfl⟩
              have hrb : reachBytes = 140737488351232 := rfl
              have hmc0 : 0 ≤ mc ∧ mc ≤ 1048576 := by rw [hmc]; omega
              have hma0 : 0 ≤ ma ∧ ma ≤ 1048576 := by rw [hma]; omega
              have w1 : IntKind.i64.wrap (16 * mc) = 16 * mc := IntWalk.i64_in _ (by omega)
              have w2 : IntKind.i64.wrap ((a2.size : Int) + 16 * mc) = (a2.size : Int) + 16 * mc := IntWalk.i64_in _ (by omega)
              have w3 : IntKind.i64.wrap (8 * ma) = 8 * ma := IntWalk.i64_in _ (by omega)
              have w4 : IntKind.i64.wrap ((a2.size : Int) + 16 * mc + 8 * ma) = (a2.size : Int) + 16 * mc + 8 * ma := IntWalk.i64_in _ (by omega)
              have w5 : IntKind.i64.wrap (z + ((a2.size : Int) + 16 * mc + 8 * ma)) = z + ((a2.size : Int) + 16 * mc + 8 * ma) := IntWalk.i64_in _ (by omega)
              obtain ⟨z', hz'⟩ : ∃ z', z' = z + ((a2.size : Int) + 16 * mc + 8 * ma) := ⟨_, rfl⟩
              rw [← hz'] at w5
              have hz0 : 0 ≤ z' := by omega
              have hno : ¬ 1048576 < z' → nc ≤ 1000000 ∧ na ≤ 1000000 := by
                intro h
                rw [hmc, hma] at hz'
                omega
              have HZZ := Lib.hid hz0
              have HNO := Lib.hid hno
              have hz'' := hz'.symm
              have hmc' := hmc.symm
              have hma' := hma.symm
              clear hmc hma hmc0 hma0 hrb hz0 hno hz' hsx
              by_cases hbig : 1048576 < z'
              · go_wp2_with fail
                rw [← HWX.out.2]
                go_ret
                exact ⟨hT.out, HG2.out.1.1⟩
              have hb2 : decide (1048576 < z') = false := decide_eq_false hbig
              have HR := Lib.hid (HNO.out hbig)
              have HBG := Lib.hid hbig
              clear hbig HNO
              go_wp2_with fail
              rw [← HWX.out.2, ← HWX.out.1]
              clear e0 e1 e2 e3 e4 c2 w1 w2 w3 w4 w5 hb2 hmc' hma' hz''
              have r1 := HR.out.1
              have HK := Lib.hid (show ∀ t (h : t < zs.length), t < k + 1 → zs[t].t.cov.length ≤ 1000000 ∧ zs[t].t.acks.length ≤ 1000000 from fun t ht htk => by
                by_cases e : t = k
                · subst e
                  rw [HX.out]
                  exact ⟨by have := HNC.out.1; have := HR.out.1; show lc.length ≤ 1000000; omega, by have := HNC.out.2; have := HR.out.2; show la.length ≤ 1000000; omega⟩
                · exact HG.out.2 t ht (by omega))
              clear HG HWX
              go_loopw [3, 8] (fun m i wr => ∃ (z : Int) (j : Nat), m = .int .i64 z ∧ i = .int .i64 (j : Int) ∧ j ≤ nc ∧ (0 ≤ z ∧ z ≤ 1048576) ∧ Hid (GrSt w #[.slice o1 n1 f1, .slice o2 n2 f2, .slice (some ⟨b, off, none⟩) n3 f3] wr ∧ BlkIs wr X1 43 #[.int .i64 a0, .int .i64 a1, .string a2, .slice oc nc fc, .slice oa na fa])) (fun _ i _ => nc - (intOf i).toNat)
              case atStart => exact ⟨_, 0, rfl, rfl, Nat.zero_le _, ⟨HZZ.out, by have := HBG.out; omega⟩, HG2⟩
              case round =>
                clear HG2 HZZ HBG
                obtain ⟨z, j, rfl, rfl, hj, hzz, HG⟩ := hrel
                have c3 : wr.cell? ⟨X1, 3, none⟩ = some (.slice oc nc fc) := HG.out.2.cell 3
                have jw : IntKind.i64.wrap ((j : Int) + 1) = ((j + 1 : Nat) : Int) := IntWalk.i64_in _ (by omega)
                by_cases hgo : j < nc ∧ z < 65536
                · have hlt2 := hgo.1
                  have hzs : z < 65536 := hgo.2
                  have ji : (j : Int) < nc := by omega
                  have hjl : j < lc.length := by have := HNC.out.1; omega
                  obtain ⟨b4, off4, ha, hblt, hc⟩ := (HZ.out.1.later HG.out.1.1).at_ (by omega)
                  dsimp only at hc
                  obtain ⟨y, hy⟩ : ∃ y, y = lc[j] := ⟨_, rfl⟩
                  have hsy := HSC.out y (by rw [hy]; exact List.getElem_mem hjl)
                  have e2 := hc j hjl 2 _ (by rw [← hy]; rfl)
                  obtain ⟨y0, y1, y2⟩ := y
                  dsimp only at e2 hsy
                  subst ha
                  have hrb : reachBytes = 140737488351232 := rfl
                  have w2 : IntKind.i64.wrap (z + (y2.size : Int)) = z + y2.size := IntWalk.i64_in _ (by omega)
                  obtain ⟨z', hz'⟩ : ∃ z', z' = z + (y2.size : Int) := ⟨_, rfl⟩
                  rw [← hz'] at w2
                  have hz0 : 0 ≤ z' := by omega
                  have HZZ := Lib.hid hz0
                  have hz'' := hz'.symm
                  clear hblt hc hy hjl hsy hrb hz' hgo
                  by_cases hbig : 1048576 < z'
                  · go_wp2_with fail
                    go_ret
                    exact ⟨hT.out, HG.out.1.1⟩
                  · have hb2 : decide (1048576 < z') = false := decide_eq_false hbig
                    have HBG := Lib.hid hbig
                    clear hbig
                    go_wp2_with fail
                    exact ⟨⟨_, j + 1, rfl, by simp, hlt2, ⟨HZZ.out, by have := HBG.out; omega⟩, HG⟩, by simp [intOf]; omega⟩
                · have HZZ := Lib.hid hzz
                  by_cases hbig : 65536 < z
                  · rcases Nat.lt_or_ge j nc with hlt2 | hge2
                    · have ji : (j : Int) < nc := by omega
                      have jz : decide (z < 65536) = false := decide_eq_false (by omega)
                      clear hgo
                      go_wp2_with fail
                      go_ret
                      exact ⟨hT.out, HG.out.1.1⟩
                    · have ji : decide (j < nc) = false := decide_eq_false (by omega)
                      clear hgo
                      go_wp2_with fail
                      go_ret
                      exact ⟨hT.out, HG.out.1.1⟩
                  · have hb2 : decide (65536 < z) = false := decide_eq_false hbig
                    rcases Nat.lt_or_ge j nc with hlt2 | hge2
                    · have ji : (j : Int) < nc := by omega
                      have jz : decide (z < 65536) = false := decide_eq_false (by omega)
                      clear hgo hbig
                      go_wp2_with fail
                      exact ⟨⟨_, k + 1, rfl, by simp, hlt, HZZ.out, Lib.hid ⟨HG.out.1, HK.out⟩⟩, by simp [intOf]; omega⟩
                    · have ji : decide (j < nc) = false := decide_eq_false (by omega)
                      clear hgo hbig
                      go_wp2_with fail
                      exact ⟨⟨_, k + 1, rfl, by simp, hlt, HZZ.out, Lib.hid ⟨HG.out.1, HK.out⟩⟩, by simp [intOf]; omega⟩
            · have ki : decide (k < n3) = false := decide_eq_false (by omega)
              obtain rfl : n3 = k := by omega
              go_wp2_with fail
              go_ret
              refine ⟨hA.out ⟨by have := HN.out.1; have := HQ.out.1; show refs.length ≤ 100; omega, by have := HN.out.2.1; have := HQ.out.2.1; show toks.length ≤ 300; omega, by have := HN.out.2.2; show zs.length ≤ 300; omega, fun z hz => ?_⟩ _, HG.out.1.1⟩
              obtain ⟨t, ht, rfl⟩ := List.getElem_of_mem hz
              exact HG.out.2 t ht (by have := HN.out.2.2; show t < n3; have ht' : t < zs.length := ht; omega)
end Go.Proofs.YtbmknmjcoeinkaaGreat.Mk

