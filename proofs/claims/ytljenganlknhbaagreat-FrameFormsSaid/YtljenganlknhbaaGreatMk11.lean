/- reliquaryref12.Same, walked: whether two marks are the same. (Layer 12.) -/
import Derived.Test.YtljenganlknhbaaGreatMk10
namespace Go.Proofs.YtljenganlknhbaaGreat.Mk
set_option linter.unusedVariables false
open Go.RowKit
/-- No list is great. -/
def MkR.Small (m : MkR) : Prop := m.refs.length ≤ 1000000 ∧ m.toks.length ≤ 1000000 ∧ m.tombs.length ≤ 1000000 ∧ Fit m.tombs
set_option maxRecDepth 100000 in
set_option maxHeartbeats 8000000 in
theorem same_any' (a b : MkR) (w : World) (ha : a.Reads w) (hb : b.Reads w) (hna : a.Small) (hnb : b.Small) : Calls Tryz.prog 66 #[aMk a, aMk b] w fun e w' => e = .returned (.bool (eqB a.mk_ b.mk_)) ∧ Below w.heap.size w w' := by
  obtain ⟨refa, toka, za, v1, va, v2⟩ := a
  obtain ⟨refb, tokb, zb, v3, vb, v4⟩ := b
  obtain ⟨ha1, ha2, ha3, ha4⟩ := ha
  obtain ⟨hb1, hb2, hb3, hb4⟩ := hb
  obtain ⟨sa1, sa2, sa3, sa4⟩ := hna
  obtain ⟨sb1, sb2, sb3, sb4⟩ := hnb
  dsimp only at *
  have T := Lib.hid (fun W (hW : Below w.heap.size w W) => tokens_same va vb toka tokb W (ha2.later hW) (hb2.later hW) sa2 sb2)
  have HF := Lib.hid (And.intro sa4 sb4)
  obtain ⟨o1, f1, rfl, -, -⟩ := ha1.form
  obtain ⟨o2, f2, rfl, -, -⟩ := ha3.form
  obtain ⟨o3, f3, rfl, -, -⟩ := hb1.form
  obtain ⟨o4, f4, rfl, -, -⟩ := hb3.form
  obtain ⟨q, hq⟩ : ∃ q, q = eqB (Mks.mk refa toka (za.map (·.t))) (Mks.mk refb tokb (zb.map (·.t))) := ⟨_, rfl⟩
  have HQ := Lib.hid hq
  obtain ⟨qt, hqt⟩ : ∃ q, q = eqB toka tokb := ⟨_, rfl⟩
  rw [← hqt] at T
  have HT := Lib.hid hqt
  show Calls Tryz.prog 66 #[.agg #[.slice o1 refa.length f1, va, .slice o2 za.length f2], .agg #[.slice o3 refb.length f3, vb, .slice o4 zb.length f4]] w fun e w' => e = .returned (.bool (eqB (Mks.mk refa toka (za.map (·.t))) (Mks.mk refb tokb (zb.map (·.t))))) ∧ Below w.heap.size w w'
  rw [← hq]
  obtain ⟨n1, hn1⟩ : ∃ m, m = refa.length := ⟨_, rfl⟩
  obtain ⟨n2, hn2⟩ : ∃ m, m = za.length := ⟨_, rfl⟩
  obtain ⟨n3, hn3⟩ : ∃ m, m = refb.length := ⟨_, rfl⟩
  obtain ⟨n4, hn4⟩ : ∃ m, m = zb.length := ⟨_, rfl⟩
  rw [← hn1] at sa1
  rw [← hn2] at sa3
  rw [← hn3] at sb1
  rw [← hn4] at sb3
  rw [← hn1, ← hn2, ← hn3, ← hn4]
  have HL := Lib.hid (And.intro hn1 (And.intro hn2 (And.intro hn3 hn4)))
  obtain ⟨W1, hW1⟩ : ∃ W1, W1 = (w.alloc (.cells #[.slice o1 n1 f1, va, .slice o2 n2 f2] 28)).alloc (.cells #[.slice o3 n3 f3, vb, .slice o4 n4 f4] 28) := ⟨_, rfl⟩
  have hbl : Below w.heap.size w W1 := by rw [hW1]; exact ((Below.refl _ _).alloc (Nat.le_refl _) _).alloc (by simp) _
  have k1 : BlkIs W1 w.heap.size 28 #[.slice o1 n1 f1, va, .slice o2 n2 f2] := by rw [hW1]; exact (BlkIs.new _ _ _).alloc _
  have k2 : BlkIs W1 (w.heap.size + 1) 28 #[.slice o3 n3 f3, vb, .slice o4 n4 f4] := by rw [hW1]; exact BlkIs.new2 _ _ _ _
  have HW := Lib.hid hW1
  have H1 := Lib.hid (And.intro k1 (And.intro k2 hbl))
  have HC := Lib.hid (show (RowAt 3 vRf W1 (.slice o1 n1 f1) refa ∧ RowAt 5 vTb W1 (.slice o2 n2 f2) za ∧ ∀ z ∈ za, z.Reads W1) ∧ RowAt 3 vRf W1 (.slice o3 n3 f3) refb ∧ RowAt 5 vTb W1 (.slice o4 n4 f4) zb ∧ ∀ z ∈ zb, z.Reads W1 from by
    rw [hn1, hn2, hn3, hn4]; exact ⟨⟨ha1.later hbl, ha3.later hbl, fun z hz => (ha4 z hz).later hbl⟩, hb1.later hbl, hb3.later hbl, fun z hz => (hb4 z hz).later hbl⟩)
  have d0 : W1.cell? ⟨w.heap.size, 0, none⟩ = some (.slice o1 n1 f1) := (H1.out.1.below (Below.refl _ _) H1.out.1.lt).cell 0
  have e0 : W1.cell? ⟨w.heap.size + 1, 0, none⟩ = some (.slice o3 n3 f3) := (H1.out.2.1.below (Below.refl _ _) H1.out.2.1.lt).cell 0
  have d1 : W1.cell? ⟨w.heap.size, 1, none⟩ = some (va) := (H1.out.1.below (Below.refl _ _) H1.out.1.lt).cell 1
  have e1 : W1.cell? ⟨w.heap.size + 1, 1, none⟩ = some (vb) := (H1.out.2.1.below (Below.refl _ _) H1.out.2.1.lt).cell 1
  clear ha1 ha2 ha3 ha4 hb1 hb2 hb3 hb4 sa2 sb2 sa4 sb4 hq hqt hn1 hn2 hn3 hn4 hW1 hbl k1 k2
  go_enter Tryz.func66, Tryz.ntmps66
  by_cases g0 : n1 = n3
  case neg =>
    have z0 : ((n1 : Int) != n3) = true := by simp; omega
    have z1 : (n1 == n3) = false := by simp; omega
    have G := Lib.hid g0
    clear g0 T
    go_wp2_with fail
    rw [← HW.out]
    go_ret
    exact ⟨ret_b (by rw [HQ.out]; symm; exact eqB_no fun e => G.out (by rw [HL.out.1, HL.out.2.2.1]; exact congrArg (fun m => m.refs.length) e)), H1.out.2.2⟩
  subst g0
  have z0 : ((n1 : Int) != n1) = false := by simp
  have TT := Lib.hid (T.out W1 H1.out.2.2)
  clear T
  cases qt
  case false =>
    go_wp2_with fail
    rw [← HW.out]
    refine TT.out.mono ?_
    rintro e w2 ⟨rfl, hb⟩
    have H2 := Lib.hid (H1.out.2.2.trans (hb.mono H1.out.2.2.size))
    clear TT hb d0 d1 e0 e1
    go_wp2_with fail
    go_ret
    exact ⟨ret_b (by rw [HQ.out]; symm; exact eqB_no fun e => by have := HT.out; rw [eqB_yes (congrArg Mks.toks e)] at this; cases this), H2.out⟩
  case true =>
  go_wp2_with fail
  rw [← HW.out]
  refine TT.out.mono ?_
  rintro e w2 ⟨rfl, hb⟩
  have HB2 := Lib.hid hb
  clear TT d0 d1 e0 e1 hb
  have d0 : w2.cell? ⟨w.heap.size, 0, none⟩ = some (.slice o1 n1 f1) := (H1.out.1.below HB2.out H1.out.1.lt).cell 0
  have e0 : w2.cell? ⟨w.heap.size + 1, 0, none⟩ = some (.slice o3 n1 f3) := (H1.out.2.1.below HB2.out H1.out.2.1.lt).cell 0
  have d2 : w2.cell? ⟨w.heap.size, 2, none⟩ = some (.slice o2 n2 f2) := (H1.out.1.below HB2.out H1.out.1.lt).cell 2
  have e2 : w2.cell? ⟨w.heap.size + 1, 2, none⟩ = some (.slice o4 n4 f4) := (H1.out.2.1.below HB2.out H1.out.2.1.lt).cell 2
  by_cases g4 : n2 = n4
  case neg =>
    have z4 : ((n2 : Int) != n4) = true := by simp; omega
    have z5 : (n2 == n4) = false := by simp; omega
    have G := Lib.hid g4
    clear g4
    go_wp2_with fail
    go_ret
    exact ⟨ret_b (by rw [HQ.out]; symm; exact eqB_no fun e => G.out (by rw [HL.out.2.1, HL.out.2.2.2]; simpa using congrArg (fun m => m.tombs.length) e)), H1.out.2.2.trans (HB2.out.mono H1.out.2.2.size)⟩
  subst g4
  have z4 : ((n2 : Int) != n2) = false := by simp
  go_wp2_with fail
  go_loopw [5] (fun i wr => ∃ k : Nat, i = .int .i64 (k : Int) ∧ k ≤ n1 ∧ Hid (refa.take k = refb.take k) ∧ Hid (Below W1.heap.size W1 wr)) (fun i _ => n1 - (intOf i).toNat)
  case atStart => exact ⟨0, rfl, Nat.zero_le _, Lib.hid (by simp), HB2⟩
  case round =>
    obtain ⟨k, rfl, hkl, HM, HB⟩ := hrel
    clear HB2 d0 e0 d2 e2
    rcases Nat.lt_or_ge k n1 with hlt | hge
    · have ki : (k : Int) < n1 := by omega
      have hk1 : k < refa.length := by rw [← HL.out.1]; exact hlt
      have hk2 : k < refb.length := by rw [← HL.out.2.2.1]; exact hlt
      obtain ⟨b, off, rfl, hb1, hc1⟩ := HC.out.1.1.at_ (by omega)
      obtain ⟨b', off', rfl, hb2, hc2⟩ := HC.out.2.1.at_ (by omega)
      obtain ⟨x, hx⟩ : ∃ x, x = refa[k] := ⟨_, rfl⟩
      obtain ⟨y, hy⟩ : ∃ y, y = refb[k] := ⟨_, rfl⟩
      have HXY := Lib.hid (And.intro hx hy)
      have kA := H1.out.1.below HB.out H1.out.1.lt
      have kB := H1.out.2.1.below HB.out H1.out.2.1.lt
      have u0 : ∀ X : LaterOf wr, X.w.cell? ⟨w.heap.size, 0, none⟩ = some (.slice (some ⟨b, off, none⟩) n1 f1) := fun X => (X.blk kA).cell 0
      have v0 : ∀ X : LaterOf wr, X.w.cell? ⟨w.heap.size + 1, 0, none⟩ = some (.slice (some ⟨b', off', none⟩) n1 f3) := fun X => (X.blk kB).cell 0
      have d0 : wr.cell? ⟨w.heap.size, 0, none⟩ = some (.slice (some ⟨b, off, none⟩) n1 f1) := kA.cell 0
      clear kA kB
      by_cases hxy : x = y
      · subst hxy
        obtain ⟨a0, a1, a2⟩ := x
        have x0 : ∀ X : LaterOf wr, X.w.cell? ⟨b, off + k * 3, none⟩ = some (.string a0) := fun X => by
          have := hc1 k hk1 0 (.string a0) (by rw [← hx]; rfl)
          rw [X.h.cell (Nat.lt_of_lt_of_le hb1 HB.out.size), HB.out.cell hb1]; simpa using this
        have x1 : ∀ X : LaterOf wr, X.w.cell? ⟨b, off + k * 3 + 1, none⟩ = some (.string a1) := fun X => by
          have := hc1 k hk1 1 (.string a1) (by rw [← hx]; rfl)
          rw [X.h.cell (Nat.lt_of_lt_of_le hb1 HB.out.size), HB.out.cell hb1]; simpa using this
        have x2 : ∀ X : LaterOf wr, X.w.cell? ⟨b, off + k * 3 + 2, none⟩ = some (.int .i64 a2) := fun X => by
          have := hc1 k hk1 2 (.int .i64 a2) (by rw [← hx]; rfl)
          rw [X.h.cell (Nat.lt_of_lt_of_le hb1 HB.out.size), HB.out.cell hb1]; simpa using this
        have y0 : ∀ X : LaterOf wr, X.w.cell? ⟨b', off' + k * 3, none⟩ = some (.string a0) := fun X => by
          have := hc2 k hk2 0 (.string a0) (by rw [← hy]; rfl)
          rw [X.h.cell (Nat.lt_of_lt_of_le hb2 HB.out.size), HB.out.cell hb2]; simpa using this
        have y1 : ∀ X : LaterOf wr, X.w.cell? ⟨b', off' + k * 3 + 1, none⟩ = some (.string a1) := fun X => by
          have := hc2 k hk2 1 (.string a1) (by rw [← hy]; rfl)
          rw [X.h.cell (Nat.lt_of_lt_of_le hb2 HB.out.size), HB.out.cell hb2]; simpa using this
        have y2 : ∀ X : LaterOf wr, X.w.cell? ⟨b', off' + k * 3 + 2, none⟩ = some (.int .i64 a2) := fun X => by
          have := hc2 k hk2 2 (.int .i64 a2) (by rw [← hy]; rfl)
          rw [X.h.cell (Nat.lt_of_lt_of_le hb2 HB.out.size), HB.out.cell hb2]; simpa using this
        have hne := fun w => neq_of_eql (eql_rf ⟨a0, a1, a2⟩ ⟨a0, a1, a2⟩ w)
        rw [eqB_yes rfl] at hne
        have hg : Tryz.prog.eqGuardType Tryz.prog.depth 51 = false := by kernel_rfl
        dsimp only [Bool.not_true] at hne
        clear hc1 hc2 hx hy
        go_wp2_with fail
        refine wp_region_all (fun w' => ∃ x : LaterOf wr, w' = x.w) (by kernel_rfl) (by kernel_rfl) ⟨LaterOf.start wr, rfl⟩ ?_
        repeat (go_big_quiet_step (fail))
        refine wpQuiet_nil ?_
        intro w3 hw3
        obtain ⟨X, rfl⟩ := hw3
        have H3 := Lib.hid (HB.out.trans (X.h.mono HB.out.size))
        obtain ⟨w3, hx3⟩ := X
        clear x0 x1 x2 y0 y1 y2 u0 v0 d0
        go_wp2_with fail
        exact ⟨⟨k + 1, by simp, by omega, Lib.hid (by rw [take_snoc' hk1, take_snoc' hk2, HM.out, ← HXY.out.1, ← HXY.out.2]), H3⟩, by simp [intOf]; omega⟩
      · obtain ⟨a0, a1, a2⟩ := x
        obtain ⟨b0, b1, b2⟩ := y
        have x0 : ∀ X : LaterOf wr, X.w.cell? ⟨b, off + k * 3, none⟩ = some (.string a0) := fun X => by
          have := hc1 k hk1 0 (.string a0) (by rw [← hx]; rfl)
          rw [X.h.cell (Nat.lt_of_lt_of_le hb1 HB.out.size), HB.out.cell hb1]; simpa using this
        have x1 : ∀ X : LaterOf wr, X.w.cell? ⟨b, off + k * 3 + 1, none⟩ = some (.string a1) := fun X => by
          have := hc1 k hk1 1 (.string a1) (by rw [← hx]; rfl)
          rw [X.h.cell (Nat.lt_of_lt_of_le hb1 HB.out.size), HB.out.cell hb1]; simpa using this
        have x2 : ∀ X : LaterOf wr, X.w.cell? ⟨b, off + k * 3 + 2, none⟩ = some (.int .i64 a2) := fun X => by
          have := hc1 k hk1 2 (.int .i64 a2) (by rw [← hx]; rfl)
          rw [X.h.cell (Nat.lt_of_lt_of_le hb1 HB.out.size), HB.out.cell hb1]; simpa using this
        have y0 : ∀ X : LaterOf wr, X.w.cell? ⟨b', off' + k * 3, none⟩ = some (.string b0) := fun X => by
          have := hc2 k hk2 0 (.string b0) (by rw [← hy]; rfl)
          rw [X.h.cell (Nat.lt_of_lt_of_le hb2 HB.out.size), HB.out.cell hb2]; simpa using this
        have y1 : ∀ X : LaterOf wr, X.w.cell? ⟨b', off' + k * 3 + 1, none⟩ = some (.string b1) := fun X => by
          have := hc2 k hk2 1 (.string b1) (by rw [← hy]; rfl)
          rw [X.h.cell (Nat.lt_of_lt_of_le hb2 HB.out.size), HB.out.cell hb2]; simpa using this
        have y2 : ∀ X : LaterOf wr, X.w.cell? ⟨b', off' + k * 3 + 2, none⟩ = some (.int .i64 b2) := fun X => by
          have := hc2 k hk2 2 (.int .i64 b2) (by rw [← hy]; rfl)
          rw [X.h.cell (Nat.lt_of_lt_of_le hb2 HB.out.size), HB.out.cell hb2]; simpa using this
        have hne := fun w => neq_of_eql (eql_rf ⟨a0, a1, a2⟩ ⟨b0, b1, b2⟩ w)
        rw [eqB_no hxy] at hne
        have hg : Tryz.prog.eqGuardType Tryz.prog.depth 51 = false := by kernel_rfl
        dsimp only [Bool.not_false] at hne
        have HXn := Lib.hid hxy
        clear hc1 hc2 hx hy hxy
        go_wp2_with fail
        refine wp_region_all (fun w' => ∃ x : LaterOf wr, w' = x.w) (by kernel_rfl) (by kernel_rfl) ⟨LaterOf.start wr, rfl⟩ ?_
        repeat (go_big_quiet_step (fail))
        refine wpQuiet_nil ?_
        intro w3 hw3
        obtain ⟨X, rfl⟩ := hw3
        have H3 := Lib.hid (HB.out.trans (X.h.mono HB.out.size))
        obtain ⟨w3, hx3⟩ := X
        clear x0 x1 x2 y0 y1 y2 u0 v0 d0
        go_wp2_with fail
        go_ret
        exact ⟨ret_b (by rw [HQ.out]; symm; exact eqB_no fun e => HXn.out (HXY.out.1.trans ((by have := congrArg Mks.refs e; dsimp only at this; subst this; rfl : refa[k] = refb[k]).trans HXY.out.2.symm))), H1.out.2.2.trans (H3.out.mono H1.out.2.2.size)⟩
    · have ki : decide (k < n1) = false := decide_eq_false (by omega)
      obtain rfl : n1 = k := by omega
      have HRf := Lib.hid (show refa = refb by have hm := HM.out; rw [HL.out.1, List.take_length, ← HL.out.1, HL.out.2.2.1, List.take_length] at hm; exact hm)
      have d0 : wr.cell? ⟨w.heap.size, 0, none⟩ = some (.slice o1 n1 f1) := (H1.out.1.below HB.out H1.out.1.lt).cell 0
      have e0 : wr.cell? ⟨w.heap.size + 1, 0, none⟩ = some (.slice o3 n1 f3) := (H1.out.2.1.below HB.out H1.out.2.1.lt).cell 0
      have d2 : wr.cell? ⟨w.heap.size, 2, none⟩ = some (.slice o2 n2 f2) := (H1.out.1.below HB.out H1.out.1.lt).cell 2
      have e2 : wr.cell? ⟨w.heap.size + 1, 2, none⟩ = some (.slice o4 n2 f4) := (H1.out.2.1.below HB.out H1.out.2.1.lt).cell 2
      go_wp2_with fail
      obtain ⟨Wa, hWa⟩ : ∃ Wa, Wa = wr := ⟨_, rfl⟩
      subst hWa
      have HBa := HB
      clear d0 e0 d2 e2 HM HB
      go_loopw [6] (fun i wr => ∃ k : Nat, i = .int .i64 (k : Int) ∧ k ≤ n2 ∧ Hid ((za.map (·.t)).take k = (zb.map (·.t)).take k) ∧ Hid (Below W1.heap.size W1 wr)) (fun i _ => n2 - (intOf i).toNat)
      case atStart => exact ⟨0, rfl, Nat.zero_le _, Lib.hid (by simp), HBa⟩
      case round =>
        obtain ⟨k, rfl, hkl, HM, HB⟩ := hrel
        clear HBa
        rcases Nat.lt_or_ge k n2 with hlt | hge
        · have ki : (k : Int) < n2 := by omega
          have hk1 : k < za.length := by rw [← HL.out.2.1]; exact hlt
          have hk2 : k < zb.length := by rw [← HL.out.2.2.2]; exact hlt
          obtain ⟨b, off, rfl, hb1, hc1⟩ := HC.out.1.2.1.at_ (by omega)
          obtain ⟨b', off', rfl, hb2, hc2⟩ := HC.out.2.2.1.at_ (by omega)
          obtain ⟨x, hx⟩ : ∃ x, x = za[k] := ⟨_, rfl⟩
          obtain ⟨y, hy⟩ : ∃ y, y = zb[k] := ⟨_, rfl⟩
          have hxm : x ∈ za := by rw [hx]; exact List.getElem_mem hk1
          have hym : y ∈ zb := by rw [hy]; exact List.getElem_mem hk2
          have HXY := Lib.hid (show (za.map (·.t))[k]'(by simpa using hk1) = x.t ∧ (zb.map (·.t))[k]'(by simpa using hk2) = y.t by rw [hx, hy]; simp)
          have TT := fun (X : LaterOf wr) => tombs_same x y X.w ((HC.out.1.2.2 x hxm).later (HB.out.trans (X.h.mono HB.out.size))) ((HC.out.2.2.2 y hym).later (HB.out.trans (X.h.mono HB.out.size))) ⟨(HF.out.1 x hxm).2, (HF.out.1 x hxm).1⟩ ⟨(HF.out.2 y hym).2, (HF.out.2 y hym).1⟩
          obtain ⟨qq, hqq⟩ : ∃ q, q = eqB x.t y.t := ⟨_, rfl⟩
          rw [← hqq] at TT
          have HQQ := Lib.hid hqq
          obtain ⟨p1, g1, hv1, -, -⟩ := (HC.out.1.2.2 x hxm).1.form
          obtain ⟨p2, g2, hv2, -, -⟩ := (HC.out.1.2.2 x hxm).2.form
          obtain ⟨p3, g3, hv3, -, -⟩ := (HC.out.2.2.2 y hym).1.form
          obtain ⟨p4, g4, hv4, -, -⟩ := (HC.out.2.2.2 y hym).2.form
          obtain ⟨m1, hm1⟩ : ∃ m, m = x.t.cov.length := ⟨_, rfl⟩
          obtain ⟨m2, hm2⟩ : ∃ m, m = x.t.acks.length := ⟨_, rfl⟩
          obtain ⟨m3, hm3⟩ : ∃ m, m = y.t.cov.length := ⟨_, rfl⟩
          obtain ⟨m4, hm4⟩ : ∃ m, m = y.t.acks.length := ⟨_, rfl⟩
          rw [← hm1] at hv1
          rw [← hm2] at hv2
          rw [← hm3] at hv3
          rw [← hm4] at hv4
          clear hm1 hm2 hm3 hm4 hqq
          obtain ⟨⟨a0, a1, a2, a5, a6⟩, a3, a4⟩ := x
          obtain ⟨⟨b0, b1, b2, b5, b6⟩, b3, b4⟩ := y
          dsimp only at hv1 hv2 hv3 hv4
          subst hv1 hv2 hv3 hv4
          have T := Lib.hid (show ∀ X : LaterOf wr, Calls Tryz.prog 113 #[.agg #[.int .i64 a0, .int .i64 a1, .string a2, .slice p1 m1 g1, .slice p2 m2 g2], .agg #[.int .i64 b0, .int .i64 b1, .string b2, .slice p3 m3 g3, .slice p4 m4 g4]] X.w fun e w' => e = .returned (.bool qq) ∧ Below X.w.heap.size X.w w' from TT)
          have x0 : ∀ X : LaterOf wr, X.w.cell? ⟨b, off + k * 5, none⟩ = some (.int .i64 a0) := fun X => by
            have := hc1 k hk1 0 (.int .i64 a0) (by rw [← hx]; rfl)
            rw [X.h.cell (Nat.lt_of_lt_of_le hb1 HB.out.size), HB.out.cell hb1]; simpa using this
          have x1 : ∀ X : LaterOf wr, X.w.cell? ⟨b, off + k * 5 + 1, none⟩ = some (.int .i64 a1) := fun X => by
            have := hc1 k hk1 1 (.int .i64 a1) (by rw [← hx]; rfl)
            rw [X.h.cell (Nat.lt_of_lt_of_le hb1 HB.out.size), HB.out.cell hb1]; simpa using this
          have x2 : ∀ X : LaterOf wr, X.w.cell? ⟨b, off + k * 5 + 2, none⟩ = some (.string a2) := fun X => by
            have := hc1 k hk1 2 (.string a2) (by rw [← hx]; rfl)
            rw [X.h.cell (Nat.lt_of_lt_of_le hb1 HB.out.size), HB.out.cell hb1]; simpa using this
          have x3 : ∀ X : LaterOf wr, X.w.cell? ⟨b, off + k * 5 + 3, none⟩ = some (.slice p1 m1 g1) := fun X => by
            have := hc1 k hk1 3 (.slice p1 m1 g1) (by rw [← hx]; rfl)
            rw [X.h.cell (Nat.lt_of_lt_of_le hb1 HB.out.size), HB.out.cell hb1]; simpa using this
          have x4 : ∀ X : LaterOf wr, X.w.cell? ⟨b, off + k * 5 + 4, none⟩ = some (.slice p2 m2 g2) := fun X => by
            have := hc1 k hk1 4 (.slice p2 m2 g2) (by rw [← hx]; rfl)
            rw [X.h.cell (Nat.lt_of_lt_of_le hb1 HB.out.size), HB.out.cell hb1]; simpa using this
          have y0 : ∀ X : LaterOf wr, X.w.cell? ⟨b', off' + k * 5, none⟩ = some (.int .i64 b0) := fun X => by
            have := hc2 k hk2 0 (.int .i64 b0) (by rw [← hy]; rfl)
            rw [X.h.cell (Nat.lt_of_lt_of_le hb2 HB.out.size), HB.out.cell hb2]; simpa using this
          have y1 : ∀ X : LaterOf wr, X.w.cell? ⟨b', off' + k * 5 + 1, none⟩ = some (.int .i64 b1) := fun X => by
            have := hc2 k hk2 1 (.int .i64 b1) (by rw [← hy]; rfl)
            rw [X.h.cell (Nat.lt_of_lt_of_le hb2 HB.out.size), HB.out.cell hb2]; simpa using this
          have y2 : ∀ X : LaterOf wr, X.w.cell? ⟨b', off' + k * 5 + 2, none⟩ = some (.string b2) := fun X => by
            have := hc2 k hk2 2 (.string b2) (by rw [← hy]; rfl)
            rw [X.h.cell (Nat.lt_of_lt_of_le hb2 HB.out.size), HB.out.cell hb2]; simpa using this
          have y3 : ∀ X : LaterOf wr, X.w.cell? ⟨b', off' + k * 5 + 3, none⟩ = some (.slice p3 m3 g3) := fun X => by
            have := hc2 k hk2 3 (.slice p3 m3 g3) (by rw [← hy]; rfl)
            rw [X.h.cell (Nat.lt_of_lt_of_le hb2 HB.out.size), HB.out.cell hb2]; simpa using this
          have y4 : ∀ X : LaterOf wr, X.w.cell? ⟨b', off' + k * 5 + 4, none⟩ = some (.slice p4 m4 g4) := fun X => by
            have := hc2 k hk2 4 (.slice p4 m4 g4) (by rw [← hy]; rfl)
            rw [X.h.cell (Nat.lt_of_lt_of_le hb2 HB.out.size), HB.out.cell hb2]; simpa using this
          have kA := H1.out.1.below HB.out H1.out.1.lt
          have kB := H1.out.2.1.below HB.out H1.out.2.1.lt
          have u2 : ∀ X : LaterOf wr, X.w.cell? ⟨w.heap.size, 2, none⟩ = some (.slice (some ⟨b, off, none⟩) n2 f2) := fun X => (X.blk kA).cell 2
          have v2 : ∀ X : LaterOf wr, X.w.cell? ⟨w.heap.size + 1, 2, none⟩ = some (.slice (some ⟨b', off', none⟩) n2 f4) := fun X => (X.blk kB).cell 2
          have d2 : wr.cell? ⟨w.heap.size, 2, none⟩ = some (.slice (some ⟨b, off, none⟩) n2 f2) := kA.cell 2
          clear kA kB
          clear hc1 hc2 hx hy hxm hym TT
          cases qq
          · skip
            go_wp2_with fail
            refine wp_region_all (fun w' => ∃ x : LaterOf wr, w' = x.w) (by kernel_rfl) (by kernel_rfl) ⟨LaterOf.start wr, rfl⟩ ?_
            repeat (go_big_quiet_step (with_reducible exact LaterOf.call _ (T.out _)))
            refine wpQuiet_nil ?_
            intro w3 hw3
            obtain ⟨X, rfl⟩ := hw3
            have H3 := Lib.hid (HB.out.trans (X.h.mono HB.out.size))
            obtain ⟨w3, hx3⟩ := X
            clear x0 x1 x2 x3 x4 y0 y1 y2 y3 y4 u2 v2 d2
            go_wp2_with fail
            go_ret
            refine ⟨ret_b ?_, H1.out.2.2.trans (H3.out.mono H1.out.2.2.size)⟩
            rw [HQ.out]
            symm
            refine eqB_no fun e => ?_
            have h1 := congrArg Mks.tombs e
            dsimp only at h1
            have h2 : (za.map (·.t))[k]'(by simpa using hk1) = (zb.map (·.t))[k]'(by simpa using hk2) := by simp only [h1]
            rw [HXY.out.1, HXY.out.2] at h2
            have := HQQ.out
            rw [eqB_yes h2] at this
            cases this
          · skip
            go_wp2_with fail
            refine wp_region_all (fun w' => ∃ x : LaterOf wr, w' = x.w) (by kernel_rfl) (by kernel_rfl) ⟨LaterOf.start wr, rfl⟩ ?_
            repeat (go_big_quiet_step (with_reducible exact LaterOf.call _ (T.out _)))
            refine wpQuiet_nil ?_
            intro w3 hw3
            obtain ⟨X, rfl⟩ := hw3
            have H3 := Lib.hid (HB.out.trans (X.h.mono HB.out.size))
            obtain ⟨w3, hx3⟩ := X
            clear x0 x1 x2 x3 x4 y0 y1 y2 y3 y4 u2 v2 d2
            go_wp2_with fail
            exact ⟨⟨k + 1, by simp, by omega, Lib.hid (by rw [take_snoc' (by simpa using hk1), take_snoc' (by simpa using hk2), HM.out, HXY.out.1, HXY.out.2, eqB_iff.1 HQQ.out.symm]), H3⟩, by simp [intOf]; omega⟩
        · have ki : decide (k < n2) = false := decide_eq_false (by omega)
          obtain rfl : n2 = k := by omega
          have d2 : wr.cell? ⟨w.heap.size, 2, none⟩ = some (.slice o2 n2 f2) := (H1.out.1.below HB.out H1.out.1.lt).cell 2
          have e2 : wr.cell? ⟨w.heap.size + 1, 2, none⟩ = some (.slice o4 n2 f4) := (H1.out.2.1.below HB.out H1.out.2.1.lt).cell 2
          go_wp2_with fail
          go_ret
          have hm := HM.out
          rw [List.take_of_length_le (by simp; have := HL.out.2.1; omega), List.take_of_length_le (by simp; have := HL.out.2.2.2; omega)] at hm
          have hc := eqB_iff.1 HT.out.symm
          exact ⟨ret_b (by rw [HQ.out, hm, hc, HRf.out, eqB_yes rfl]), H1.out.2.2.trans (HB.out.mono H1.out.2.2.size)⟩
end Go.Proofs.YtljenganlknhbaaGreat.Mk
