/- The reference's covered and Live, walked: the same tokens as the program's own. (Layer 12.) -/
import Derived.Test.YtngflbakmlddeaaGreatMk24
import Derived.Test.YtngflbakmlddeaaGreatMkLaw
namespace Go.Proofs.YtngflbakmlddeaaGreat.Mk
set_option linter.unusedVariables false
open Go.RowKit
theorem eqB_flip {α : Type} (a b : α) : eqB a b = eqB b a := by
  rw [Bool.eq_iff_iff, eqB_iff, eqB_iff]
  exact ⟨Eq.symm, Eq.symm⟩
/-- Where covered stands. -/
def CvSt (w : World) (cs xs : Array Value) (wr : World) : Prop := Below w.heap.size w wr ∧ BlkIs wr w.heap.size 26 cs ∧ BlkIs wr (w.heap.size + 1) 43 xs
theorem CvSt.later {w : World} {cs xs : Array Value} {wr w' : World} (h : CvSt w cs xs wr) (hb : Below wr.heap.size wr w') : CvSt w cs xs w' := ⟨h.1.trans (hb.mono h.1.size), BlkIs.below h.2.1 hb h.2.1.lt, BlkIs.below h.2.2 hb h.2.2.lt⟩
set_option maxRecDepth 100000 in
set_option maxHeartbeats 4000000 in
theorem rcov_any (m : MkR) (x : Tok) (n : Int) (w : World) (h : m.Reads w) (hs : m.Small) : Calls Tryz.prog 83 #[aMk m, aTok x, .int .i64 n] w fun e w' => e = .returned (.bool (covB m.mk_.tombs n x)) ∧ Below w.heap.size w w' := by
  obtain ⟨refs, toks, zs, rv, kv, bv⟩ := m
  obtain ⟨h1, h2, h3, h4⟩ := h
  obtain ⟨s1, s2, s3, s4⟩ := hs
  dsimp only at h1 h2 h3 h4 s1 s2 s3 s4
  obtain ⟨R, hR⟩ : ∃ R, R = covB (MkR.mk_ ⟨refs, toks, zs, rv, kv, bv⟩).tombs n x := ⟨_, rfl⟩
  have HR := Lib.hid (show R = covB (zs.map (·.t)) n x from hR)
  have HX := Lib.hid (show x = x from rfl)
  rw [← hR]
  show Calls Tryz.prog 83 #[.agg #[rv, kv, bv], .agg #[.int .i64 x.node, .int .i64 x.n, .string x.id], .int .i64 n] w fun e w' => e = .returned (.bool R) ∧ Below w.heap.size w w'
  obtain ⟨x0, x1, x2⟩ := x
  dsimp only
  obtain ⟨x, hx⟩ : ∃ x : Tok, x = ⟨x0, x1, x2⟩ := ⟨_, rfl⟩
  rw [← hx] at HR
  have HXX := Lib.hid hx
  obtain ⟨o1, f1, hr1, -, -⟩ := h1.form
  obtain ⟨o2, f2, hr2, -, -⟩ := h2.form
  obtain ⟨o3, f3, hr3, -, -⟩ := h3.form
  obtain ⟨n1, hn1⟩ : ∃ k, k = refs.length := ⟨_, rfl⟩
  obtain ⟨n2, hn2⟩ : ∃ k, k = toks.length := ⟨_, rfl⟩
  obtain ⟨n3, hn3⟩ : ∃ k, k = zs.length := ⟨_, rfl⟩
  rw [← hn1] at hr1
  rw [← hn2] at hr2 s2
  rw [← hn3] at hr3 s3
  subst hr1 hr2 hr3
  obtain ⟨W1, hW1⟩ : ∃ W1, W1 = (w.alloc (.cells #[.slice o1 n1 f1, .slice o2 n2 f2, .slice o3 n3 f3] 26)).alloc (.cells #[.int .i64 x0, .int .i64 x1, .string x2] 43) := ⟨_, rfl⟩
  have HS := Lib.hid (show CvSt w #[.slice o1 n1 f1, .slice o2 n2 f2, .slice o3 n3 f3] #[.int .i64 x0, .int .i64 x1, .string x2] W1 from by
    rw [hW1]
    exact ⟨((Below.refl _ _).alloc (Nat.le_refl _) _).alloc (by simp) _, (BlkIs.new _ _ _).alloc _, BlkIs.new2 _ _ _ _⟩)
  have H := Lib.hid (And.intro h3 (And.intro h4 s4))
  have HN := Lib.hid hn3
  have HW := Lib.hid hW1
  clear h1 h2 h3 h4 hn1 hn2 hn3 hW1 s4 hR s1 hx HX
  go_enter Tryz.func83, Tryz.ntmps83
  go_wp2_with fail
  rw [← HW.out]
  clear HW
  go_loopw [7] (fun i wr => ∃ k : Nat, i = .int .i64 (k : Int) ∧ k ≤ n3 ∧ Hid (CvSt w #[.slice o1 n1 f1, .slice o2 n2 f2, .slice o3 n3 f3] #[.int .i64 x0, .int .i64 x1, .string x2] wr ∧ covB ((zs.map (·.t)).take k) n x = false)) (fun i _ => n3 - (intOf i).toNat)
  case atStart => exact ⟨0, rfl, Nat.zero_le _, Lib.hid ⟨HS.out, rfl⟩⟩
  case round =>
    obtain ⟨k, rfl, hkn, HL⟩ := hrel
    clear HS
    have d2 : wr.cell? ⟨w.heap.size, 2, none⟩ = some (.slice o3 n3 f3) := HL.out.1.2.1.cell 2
    have kw : IntKind.i64.wrap ((k : Int) + 1) = ((k + 1 : Nat) : Int) := IntWalk.i64_in _ (by omega)
    rcases Nat.lt_or_ge k n3 with hlt | hge
    · have ki : (k : Int) < n3 := by omega
      have hkl : k < zs.length := by have := HN.out; omega
      obtain ⟨b, off, ha, hblt, hc⟩ := H.out.1.at_ (by omega)
      obtain ⟨z, hz⟩ : ∃ z, z = zs[k] := ⟨_, rfl⟩
      have e0 := hc k hkl 0 _ (by rw [← hz]; rfl)
      have e1 := hc k hkl 1 _ (by rw [← hz]; rfl)
      have e2 := hc k hkl 2 _ (by rw [← hz]; rfl)
      have e3 := hc k hkl 3 _ (by rw [← hz]; rfl)
      have e4 := hc k hkl 4 _ (by rw [← hz]; rfl)
      have HZ := Lib.hid (H.out.2.1 z (by rw [hz]; exact List.getElem_mem hkl))
      have HF := Lib.hid (H.out.2.2 z (by rw [hz]; exact List.getElem_mem hkl))
      have hst : covB ((zs.map (·.t)).take (k + 1)) n x = (sureB z.t n && z.t.cov.any fun y => eqB x y) := by
        rw [take_snoc' (by rw [List.length_map]; exact hkl), List.getElem_map, ← hz, covB_snoc, HL.out.2, Bool.false_or]
      have hin : sureB z.t n = true → (z.t.cov.any fun y => eqB x y) = true → R = true := fun h1 h2 => by
        rw [HR.out]
        unfold covB
        rw [List.any_eq_true]
        exact ⟨z.t, List.mem_map.2 ⟨z, by rw [hz]; exact List.getElem_mem hkl, rfl⟩, by rw [h1, h2]; rfl⟩
      have SU := fun (W : World) (hW : Below w.heap.size w W) => rsure_any z n W (HZ.out.later hW) HF.out.1
      have HZc := Lib.hid (And.intro HZ.out.1 HF.out.2)
      obtain ⟨sv, hsv⟩ : ∃ sv, sv = sureB z.t n := ⟨_, rfl⟩
      rw [← hsv] at hst hin SU
      have HST := Lib.hid hst
      have HIN := Lib.hid hin
      have HSU := Lib.hid SU
      obtain ⟨⟨a0, a1, a2, lc, la⟩, cv, av⟩ := z
      dsimp only at e0 e1 e2 e3 e4
      dsimp only [aTb] at HSU
      rw [show off + k * 5 + 0 = off + k * 5 from rfl] at e0
      obtain ⟨oc, fc, hcv, -, hfx⟩ := HZc.out.1.form
      obtain ⟨oa, fa, hav, -, -⟩ := HZ.out.2.form
      dsimp only at hcv hav hst hin
      obtain ⟨nc, hnc⟩ : ∃ q, q = lc.length := ⟨_, rfl⟩
      obtain ⟨na, hna⟩ : ∃ q, q = la.length := ⟨_, rfl⟩
      rw [← hnc] at hcv
      rw [← hna] at hav
      subst hcv hav
      subst ha
      have HNC := Lib.hid hnc
      have hncm : nc ≤ 1000000 := by rw [hnc]; exact HZc.out.2
      have HE := Lib.hid (fun (W : World) (hW : Below w.heap.size w W) => (show W.cell? ⟨b, off + k * 5, none⟩ = some (.int .i64 a0) ∧ W.cell? ⟨b, off + k * 5 + 1, none⟩ = some (.int .i64 a1) ∧ W.cell? ⟨b, off + k * 5 + 2, none⟩ = some (.string a2) ∧ W.cell? ⟨b, off + k * 5 + 3, none⟩ = some (.slice oc nc fc) ∧ W.cell? ⟨b, off + k * 5 + 4, none⟩ = some (.slice oa na fa) from
        ⟨by rw [hW.cell hblt]; exact e0, by rw [hW.cell hblt]; exact e1, by rw [hW.cell hblt]; exact e2, by rw [hW.cell hblt]; exact e3, by rw [hW.cell hblt]; exact e4⟩))
      clear hc hz hst hin SU hsv hnc hna hfx e0 e1 e2 e3 e4 hblt HZ HF hkl
      go_wp2_with fail
      go_loopw [8] (fun i wr => ∃ j : Nat, i = .int .i64 (j : Int) ∧ j ≤ nc ∧ Hid (CvSt w #[.slice o1 n1 f1, .slice o2 n2 f2, .slice (some ⟨b, off, none⟩) n3 f3] #[.int .i64 x0, .int .i64 x1, .string x2] wr ∧ ∀ y ∈ lc.take j, eqB x y = false)) (fun i _ => nc - (intOf i).toNat)
      case atStart => exact ⟨0, rfl, Nat.zero_le _, Lib.hid ⟨HL.out.1, fun y hy => by simp at hy⟩⟩
      case round =>
        obtain ⟨j, rfl, hjn, HI⟩ := hrel
        clear d2
        have d2 : wr.cell? ⟨w.heap.size, 2, none⟩ = some (.slice (some ⟨b, off, none⟩) n3 f3) := HI.out.1.2.1.cell 2
        have jw : IntKind.i64.wrap ((j : Int) + 1) = ((j + 1 : Nat) : Int) := IntWalk.i64_in _ (by omega)
        have e0 := (HE.out wr HI.out.1.1).1
        have e1 := (HE.out wr HI.out.1.1).2.1
        have e2 := (HE.out wr HI.out.1.1).2.2.1
        have e3 := (HE.out wr HI.out.1.1).2.2.2.1
        have e4 := (HE.out wr HI.out.1.1).2.2.2.2
        rcases Nat.lt_or_ge j nc with hlt2 | hge2
        · have ji : (j : Int) < nc := by omega
          go_wp2_with fail
          refine (HSU.out wr HI.out.1.1).mono ?_
          rintro e w4 ⟨rfl, hb4⟩
          have HI4 := Lib.hid (HI.out.1.later hb4)
          clear hb4 d2 e0 e1 e2 e3 e4
          cases sv
          · go_wp2_with fail
            exact ⟨⟨k + 1, by simp, by omega, Lib.hid ⟨HI4.out, by rw [HST.out]; rfl⟩⟩, by simp [intOf]; omega⟩
          · have hjl : j < lc.length := by have := HNC.out; omega
            obtain ⟨b4, off4, ha4, hblt4, hc4⟩ := (HZc.out.1.later HI4.out.1).at_ (by omega)
            obtain ⟨y, hy⟩ : ∃ y, y = lc[j] := ⟨_, rfl⟩
            have y0 := hc4 j hjl 0 _ (by rw [← hy]; rfl)
            have y1 := hc4 j hjl 1 _ (by rw [← hy]; rfl)
            have y2 := hc4 j hjl 2 _ (by rw [← hy]; rfl)
            have HY := Lib.hid (show lc.take (j + 1) = lc.take j ++ [y] ∧ y ∈ lc from ⟨by rw [take_snoc' hjl, ← hy], by rw [hy]; exact List.getElem_mem hjl⟩)
            have hne := fun W => eql_tok y x W
            rw [eqB_flip] at hne
            rw [HXX.out] at hne
            obtain ⟨y0', y1', y2'⟩ := y
            dsimp only at y0 y1 y2 hne
            rw [show off4 + j * 3 + 0 = off4 + j * 3 from rfl] at y0
            rw [← HXX.out] at hne
            obtain ⟨q, hq⟩ : ∃ q, q = eqB x ⟨y0', y1', y2'⟩ := ⟨_, rfl⟩
            rw [← hq] at hne
            have HQ := Lib.hid hq
            subst ha4
            have g0 : ∀ X : LaterOf w4, X.w.cell? ⟨b4, off4 + j * 3, none⟩ = some (.int .i64 y0') := fun X => by rw [X.h.cell hblt4]; exact y0
            have g1 : ∀ X : LaterOf w4, X.w.cell? ⟨b4, off4 + j * 3 + 1, none⟩ = some (.int .i64 y1') := fun X => by rw [X.h.cell hblt4]; exact y1
            have g2 : ∀ X : LaterOf w4, X.w.cell? ⟨b4, off4 + j * 3 + 2, none⟩ = some (.string y2') := fun X => by rw [X.h.cell hblt4]; exact y2
            have p0 : ∀ X : LaterOf w4, X.w.cell? ⟨w.heap.size + 1, 0, none⟩ = some (.int .i64 x0) := fun X => (X.blk HI4.out.2.2).cell 0
            have p1 : ∀ X : LaterOf w4, X.w.cell? ⟨w.heap.size + 1, 1, none⟩ = some (.int .i64 x1) := fun X => (X.blk HI4.out.2.2).cell 1
            have p2 : ∀ X : LaterOf w4, X.w.cell? ⟨w.heap.size + 1, 2, none⟩ = some (.string x2) := fun X => (X.blk HI4.out.2.2).cell 2
            have d2 : ∀ X : LaterOf w4, X.w.cell? ⟨w.heap.size, 2, none⟩ = some (.slice (some ⟨b, off, none⟩) n3 f3) := fun X => (X.blk HI4.out.2.1).cell 2
            have e3 : ∀ X : LaterOf w4, X.w.cell? ⟨b, off + k * 5 + 3, none⟩ = some (.slice (some ⟨b4, off4, none⟩) nc fc) := fun X => (HE.out X.w (HI4.out.1.trans (X.h.mono HI4.out.1.size))).2.2.2.1
            have hg : Tryz.prog.eqGuardType Tryz.prog.depth 43 = false := by kernel_rfl
            clear hc4 hy y0 y1 y2 hblt4 hq hjl
            go_wp2_with fail
            refine wp_region_all (fun w' => ∃ x : LaterOf w4, w' = x.w) (by kernel_rfl) (by kernel_rfl) ⟨LaterOf.start w4, rfl⟩ ?_
            repeat (go_big_quiet_step (fail))
            refine wpQuiet_nil ?_
            intro w5 hw5
            obtain ⟨X, rfl⟩ := hw5
            have H5 := Lib.hid (HI4.out.later X.h)
            obtain ⟨w5, hx5⟩ := X
            clear g0 g1 g2 p0 p1 p2 d2 e3 hne
            cases q
            · go_wp2_with fail
              refine ⟨⟨j + 1, by simp, by omega, Lib.hid ⟨H5.out, fun y hy => ?_⟩⟩, by simp [intOf]; omega⟩
              rw [HY.out.1] at hy
              rcases List.mem_append.1 hy with hy | hy
              · exact HI.out.2 y hy
              · rw [List.mem_singleton.1 hy]; exact HQ.out.symm
            · go_wp2_with fail
              go_ret
              exact ⟨by rw [HIN.out trivial (List.any_eq_true.2 ⟨_, HY.out.2, HQ.out.symm⟩)]; rfl, H5.out.1⟩
        · have ji : decide (j < nc) = false := decide_eq_false (by omega)
          obtain rfl : nc = j := by omega
          clear hge2
          have hno : covB ((zs.map (·.t)).take (k + 1)) n x = false := by
            rw [HST.out]
            have : (lc.any fun y => eqB x y) = false := by
              rw [List.any_eq_false]
              intro y hy
              rw [HI.out.2 y (by rw [HNC.out, List.take_length]; exact hy)]
              simp
            show (_ && lc.any fun y => eqB x y) = false
            rw [this, Bool.and_false]
          have HNO := Lib.hid hno
          clear hno
          go_wp2_with fail
          exact ⟨⟨k + 1, by simp, by omega, Lib.hid ⟨HI.out.1, HNO.out⟩⟩, by simp [intOf]; omega⟩
    · have ki : decide (k < n3) = false := decide_eq_false (by omega)
      obtain rfl : n3 = k := by omega
      have hp := HL.out.2
      rw [List.take_of_length_le (by rw [List.length_map, ← HN.out]; exact Nat.le_refl _), ← HR.out] at hp
      have HP := Lib.hid hp
      clear hp hge
      go_wp2_with fail
      go_ret
      exact ⟨by rw [HP.out]; rfl, HL.out.1.1⟩
/-- Where Live stands: the tokens gathered. -/
def LvSt (w : World) (cs : Array Value) (ao : Option Addr) (n c : Nat) (l : List Tok) (wr : World) : Prop :=
  n = l.length ∧ SlIs wr (w.heap.size + 1) 43 3 (.slice ao n c) n (rowCells vTok l) ∧ Below w.heap.size w wr ∧ BlkIs wr w.heap.size 26 cs
theorem LvSt.later {w : World} {cs : Array Value} {ao : Option Addr} {n c : Nat} {l : List Tok} {wr w' : World} (h : LvSt w cs ao n c l wr) (hb : Below wr.heap.size wr w') : LvSt w cs ao n c l w' :=
  ⟨h.1, h.2.1.later hb, h.2.2.1.trans (hb.mono h.2.2.1.size), BlkIs.below h.2.2.2 hb h.2.2.2.lt⟩
theorem LvSt.app {w : World} {cs : Array Value} {ao ao' : Option Addr} {n c c' : Nat} {l : List Tok} {y : Tok} {wr w' : World} (h : LvSt w cs ao n c l wr) (hs : SlIs w' (w.heap.size + 1) 43 3 (.slice ao' (n + 1) c') (n + 1) (rowCells vTok l ++ vTok y)) (hg : wr.grownBy w' (Value.slice ao n c).ownBlock) : LvSt w cs ao' (n + 1) c' (l ++ [y]) w' := by
  obtain ⟨h1, h2, h3, h4⟩ := h
  exact ⟨by simp [h1], by rw [rowCells_app, rowCells_one]; exact hs, h3.grown hg h3.size (fun k hk => by have := (h2.lt k hk).1; omega), BlkIs.grown h4 hg (fun e => by have := (h2.lt _ e.symm).1; omega)⟩
set_option maxRecDepth 100000 in
set_option maxHeartbeats 4000000 in
theorem rlive_any (m : MkR) (n : Int) (w : World) (h : m.Reads w) (hs : m.Small) : Calls Tryz.prog 32 #[aMk m, .int .i64 n] w fun e w' => ∃ v, e = .returned v ∧ RowAt 3 vTok w' v (liveL m.mk_ n) ∧ Below w.heap.size w w' := by
  have CVm := fun (x : Tok) (X : World) (hX : m.Reads X) => rcov_any m x n X hX hs
  have CBm := Lib.hid (show m.mk_ = m.mk_ from rfl)
  obtain ⟨P, hP⟩ : ∃ P : Tok → Bool, P = fun x => covB m.mk_.tombs n x := ⟨_, rfl⟩
  have hPx : ∀ x, covB m.mk_.tombs n x = P x := fun x => by rw [hP]
  simp only [hPx] at CVm
  obtain ⟨L, hL⟩ : ∃ L, L = liveL m.mk_ n := ⟨_, rfl⟩
  have hLP : L = m.toks.filter (fun x => !P x) := by rw [hL, hP]; rfl
  rw [← hL]
  obtain ⟨refs, toks, zs, rv, kv, bv⟩ := m
  have hR := h
  obtain ⟨h1, h2, h3, h4⟩ := h
  obtain ⟨s1, s2, s3, s4⟩ := hs
  dsimp only at h1 h2 h3 h4 s1 s2 s3 s4 hLP
  obtain ⟨o1, f1, hr1, -, -⟩ := h1.form
  obtain ⟨o2, f2, hr2, -, -⟩ := h2.form
  obtain ⟨o3, f3, hr3, -, -⟩ := h3.form
  obtain ⟨n1, hn1⟩ : ∃ k, k = refs.length := ⟨_, rfl⟩
  obtain ⟨n2, hn2⟩ : ∃ k, k = toks.length := ⟨_, rfl⟩
  obtain ⟨n3, hn3⟩ : ∃ k, k = zs.length := ⟨_, rfl⟩
  rw [← hn1] at hr1
  rw [← hn2] at hr2 s2
  rw [← hn3] at hr3
  subst hr1 hr2 hr3
  dsimp only [aMk, aTok] at CVm ⊢
  obtain ⟨W1, hW1⟩ : ∃ W1, W1 = (w.alloc (.cells #[.slice o1 n1 f1, .slice o2 n2 f2, .slice o3 n3 f3] 26)).alloc (.cells #[] 43) := ⟨_, rfl⟩
  have HS := Lib.hid (show LvSt w #[.slice o1 n1 f1, .slice o2 n2 f2, .slice o3 n3 f3] (some ⟨w.heap.size + 1, 0, none⟩) 0 0 [] W1 from by
    rw [hW1]
    refine ⟨rfl, SlIs.made (cs := #[]) (BlkIs.new2 _ _ _ _) (Nat.le_refl _) rfl (by decide), ((Below.refl _ _).alloc (Nat.le_refl _) _).alloc (by simp) _, (BlkIs.new _ _ _).alloc _⟩)
  have H := Lib.hid (And.intro h2 hR)
  have HN := Lib.hid hn2
  have HLP := Lib.hid hLP
  have CV := Lib.hid (fun x (W : World) (hW : Below w.heap.size w W) => CVm x W (hR.later hW))
  have HW := Lib.hid hW1
  clear h1 h2 h3 h4 hn1 hn2 hn3 hW1 s4 hR s1 s3 hLP CVm hPx hP hL CBm
  go_enter Tryz.func32, Tryz.ntmps32
  go_wp2_with fail
  rw [← HW.out]
  clear HW
  go_loopw [5, 6] (fun o i wr => ∃ (k q c : Nat) (ao : Option Addr), o = .slice ao q c ∧ i = .int .i64 (k : Int) ∧ k ≤ n2 ∧ q ≤ k ∧ Hid (LvSt w #[.slice o1 n1 f1, .slice o2 n2 f2, .slice o3 n3 f3] ao q c ((toks.take k).filter (fun x => !P x)) wr)) (fun _ i _ => n2 - (intOf i).toNat)
  case atStart => exact ⟨0, 0, 0, _, rfl, rfl, Nat.zero_le _, Nat.zero_le _, HS⟩
  case round =>
    obtain ⟨k, q, c, ao, rfl, rfl, hkn, hqk, HL⟩ := hrel
    clear HS
    have kw : IntKind.i64.wrap ((k : Int) + 1) = ((k + 1 : Nat) : Int) := IntWalk.i64_in _ (by omega)
    have d1 : wr.cell? ⟨w.heap.size, 1, none⟩ = some (.slice o2 n2 f2) := HL.out.2.2.2.cell 1
    rcases Nat.lt_or_ge k n2 with hlt | hge
    · have ki : (k : Int) < n2 := by omega
      have hkl : k < toks.length := by have := HN.out; omega
      obtain ⟨b, off, ha, hblt, hc⟩ := (H.out.1.later HL.out.2.2.1).at_ (by omega)
      obtain ⟨y, hy⟩ : ∃ y, y = toks[k] := ⟨_, rfl⟩
      have y0 := hc k hkl 0 _ (by rw [← hy]; rfl)
      have y1 := hc k hkl 1 _ (by rw [← hy]; rfl)
      have y2 := hc k hkl 2 _ (by rw [← hy]; rfl)
      have hst : (toks.take (k + 1)).filter (fun x => !P x) = (toks.take k).filter (fun x => !P x) ++ if P y = true then [] else [y] := by
        rw [take_snoc' hkl, ← hy, List.filter_append]
        congr 1
        cases hq : P y <;> simp [hq]
      have CY := CV.out y
      obtain ⟨q0, hq0⟩ : ∃ q0, q0 = P y := ⟨_, rfl⟩
      rw [← hq0] at hst CY
      obtain ⟨a0, a1, a2⟩ := y
      dsimp only at y0 y1 y2 CY
      rw [show off + k * 3 + 0 = off + k * 3 from rfl] at y0
      subst ha
      have g0 : ∀ X : LaterOf wr, X.w.cell? ⟨b, off + k * 3, none⟩ = some (.int .i64 a0) := fun X => by rw [X.h.cell hblt]; exact y0
      have g1 : ∀ X : LaterOf wr, X.w.cell? ⟨b, off + k * 3 + 1, none⟩ = some (.int .i64 a1) := fun X => by rw [X.h.cell hblt]; exact y1
      have g2 : ∀ X : LaterOf wr, X.w.cell? ⟨b, off + k * 3 + 2, none⟩ = some (.string a2) := fun X => by rw [X.h.cell hblt]; exact y2
      have p0 : ∀ X : LaterOf wr, X.w.cell? ⟨w.heap.size, 0, none⟩ = some (.slice o1 n1 f1) := fun X => (X.blk HL.out.2.2.2).cell 0
      have p1 : ∀ X : LaterOf wr, X.w.cell? ⟨w.heap.size, 1, none⟩ = some (.slice (some ⟨b, off, none⟩) n2 f2) := fun X => (X.blk HL.out.2.2.2).cell 1
      have p2 : ∀ X : LaterOf wr, X.w.cell? ⟨w.heap.size, 2, none⟩ = some (.slice o3 n3 f3) := fun X => (X.blk HL.out.2.2.2).cell 2
      have T1 := Lib.hid (fun X : LaterOf wr => CY X.w (HL.out.2.2.1.trans (X.h.mono HL.out.2.2.1.size)))
      have HST := Lib.hid hst
      clear hc hy y0 y1 y2 hblt hst CY hq0 hkl
      go_wp2_with fail
      refine wp_region_all (fun w' => ∃ x : LaterOf wr, w' = x.w) (by kernel_rfl) (by kernel_rfl) ⟨LaterOf.start wr, rfl⟩ ?_
      repeat (go_big_quiet_step (exact LaterOf.call _ (T1.out _)))
      refine wpQuiet_nil ?_
      intro w5 hw5
      obtain ⟨X, rfl⟩ := hw5
      have H5 := Lib.hid (HL.out.later X.h)
      have y0 := g0 X
      have y1 := g1 X
      have y2 := g2 X
      have z1 := p1 X
      obtain ⟨w5, hx5⟩ := X
      dsimp only at y0 y1 y2 z1 H5 ⊢
      clear g0 g1 g2 p0 p1 p2 d1 T1
      cases q0
      · have hn1 : q ≤ 2000000 := by omega
        have hlw : w.heap.size < w5.heap.size := H5.out.2.2.2.lt
        go_wp2_with (at_builtin; refine wpList_append_sl rfl _ _ _ 23 (by rfl) el_tok (base := w.heap.size + 1) (.slice ao q c) q (rowCells vTok ((toks.take k).filter (fun x => !P x))) (by rfl) (H5.out.2.1.alloc _) _ 1 [Value.int .i64 a0, Value.int .i64 a1, Value.string a2] (by rfl) (SrcIs.own Tryz.underlying23 (SlIs.made (base := 0) (BlkIs.new _ _ _) (Nat.zero_le _) rfl (by decide))) (by intro u hu; simp at hu; rcases hu with rfl | rfl | rfl <;> rfl) (by unfold maxLen; omega) (by omega) (by simp; omega) ?_)
        intro v5 w6 hs6 hg6 hat6
        obtain ⟨ao6, c6, rfl, -, -, -⟩ := hs6.form
        have hap := LvSt.app (y := ⟨a0, a1, a2⟩) (H5.out.later ((Below.refl _ _).alloc (Nat.le_refl _) (.cells #[Value.int .i64 a0, Value.int .i64 a1, Value.string a2] 43))) hs6 hg6
        rw [show (toks.take k).filter (fun x => !P x) ++ [⟨a0, a1, a2⟩] = (toks.take (k + 1)).filter (fun x => !P x) by rw [HST.out]; rfl] at hap
        have HAP := Lib.hid hap
        clear hs6 hg6 hat6 hap
        go_wp2_with fail
        exact ⟨⟨k + 1, q + 1, c6, ao6, rfl, by simp, by omega, by omega, HAP⟩, by simp [intOf]; omega⟩
      · have hap := H5.out
        rw [show (toks.take k).filter (fun x => !P x) = (toks.take (k + 1)).filter (fun x => !P x) by rw [HST.out]; simp] at hap
        have HAP := Lib.hid hap
        clear hap
        go_wp2_with fail
        exact ⟨⟨k + 1, q, c, ao, rfl, by simp, by omega, by omega, HAP⟩, by simp [intOf]; omega⟩
    · have ki : decide (k < n2) = false := decide_eq_false (by omega)
      obtain rfl : n2 = k := by omega
      have hp := HL.out
      rw [show toks.take n2 = toks by rw [HN.out, List.take_length], ← HLP.out] at hp
      have HP := Lib.hid hp
      clear hp hge HL
      go_wp2_with fail
      go_ret
      refine ⟨_, rfl, RowAt.of_sl (fun _ => rfl) (base := w.heap.size + 1) (e := 43) ?_, HP.out.2.2.1⟩
      have h2 := HP.out.2.1
      rw [← HP.out.1]
      exact h2
end Go.Proofs.YtngflbakmlddeaaGreat.Mk
