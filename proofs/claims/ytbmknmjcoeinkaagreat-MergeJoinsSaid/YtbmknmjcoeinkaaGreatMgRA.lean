/- Several texts in one. (Layer 13.) -/
import Derived.Test.YtbmknmjcoeinkaaGreatMgR1
import Derived.Test.YtbmknmjcoeinkaaGreatMg5
import Derived.Test.YtbmknmjcoeinkaaGreatMgR4
import Derived.Test.YtbmknmjcoeinkaaGreatMgD
import Derived.Test.YtbmknmjcoeinkaaGreatMk10
/- The reference's ref, walked: refs with one more. Printed by gen_mgref.py. (Layer 13.) -/
namespace Go.Proofs.YtbmknmjcoeinkaaGreat.Mg
set_option linter.unusedVariables false
set_option linter.unusedSimpArgs false
open Go.RowKit Go.Lib
open Mk (Rf Tok Tb TbR vRf vTok vTb vInt bytes_eq)
open Set (El)
set_option maxRecDepth 100000 in
set_option maxHeartbeats 8000000 in
theorem rref_any (v : Value) (l : List Rf) (x : Rf) (w : World) (h : RowAt 3 vRf w v l) (hr : Rk kRf l) (hn : l.length ≤ 1000000) :
    Calls Tryz.prog 25 #[v, .agg #[.string x.name, .string x.id, .int .i64 x.h]] w fun e w' => ∃ v' o, e = .returned v' ∧ RowAt 3 vRf w' v' o ∧ JoinIs kRf mRf l [x] o ∧ Below w.heap.size w w' := by
  have HH := Lib.hid (And.intro h hr)
  obtain ⟨lo, lc, rfl, -, -⟩ := h.form
  obtain ⟨n0, hn0⟩ : ∃ n, n = l.length := ⟨_, rfl⟩
  rw [← hn0] at HH hn ⊢
  have HN := Lib.hid hn0
  obtain ⟨W0, hW0⟩ : ∃ W0, W0 = (w.alloc (.cells #[.string x.name, .string x.id, .int .i64 x.h] 49)).alloc (.cells #[] 49) := ⟨_, rfl⟩
  have HL0 := Lib.hid (show RpSt vRf 3 49 w #[.string x.name, .string x.id, .int .i64 x.h] (.slice (some ⟨w.heap.size + 1, 0, none⟩) 0 0) 0 ([] : List Rf) W0 from by
    rw [hW0]
    exact ⟨((Below.refl _ _).alloc (Nat.le_refl _) _).alloc (by simp) _, (BlkIs.new _ _ _).alloc _, SlIs.made (cs := #[]) (BlkIs.new2 _ _ _ _) (Nat.le_refl _) rfl (by decide), rfl⟩)
  have HW0 := Lib.hid hW0
  have TA := Lib.hid (fun (y : Rf) (W : World) => above_any x y W)
  clear h hr hn0 hW0
  go_enter Tryz.func25, Tryz.ntmps25
  go_upto_region 2 with (fail)
  rw [← HW0.out]
  go_wp2_with fail
  go_loopw [5, 6, 7] (fun p q i wr => ∃ (k n c : Nat) (put : Bool) (ao : Option Addr) (o : List Rf), p = .slice ao n c ∧ q = .bool put ∧ i = .int .i64 (k : Int) ∧ k ≤ n0 ∧ (put = false → n ≤ k) ∧ n ≤ k + 1 ∧ Hid (RpSt vRf 3 49 w #[.string x.name, .string x.id, .int .i64 x.h] (.slice ao n c) n o wr) ∧ Hid (PutAt kRf mRf l x k o put)) (fun _ _ i _ => ((n0 : Int) - intOf i).toNat)
  case atStart => exact ⟨0, 0, 0, false, _, [], rfl, rfl, rfl, Nat.zero_le _, fun _ => Nat.le_refl _, by omega, HL0, Lib.hid (PutAt.start kRf mRf l x)⟩
  case round =>
    obtain ⟨k, n, c, put, ao, o, rfl, rfl, rfl, hkn, hpn, hnk, HL, HP⟩ := hrel
    clear HL0
    rcases Nat.lt_or_ge k n0 with hlt | hge
    · have ki : (k : Int) < n0 := by omega
      have kw : IntKind.i64.wrap ((k : Int) + 1) = ((k + 1 : Nat) : Int) := IntWalk.i64_in _ (by omega)
      have hkl : k < l.length := by have := HN.out; omega
      obtain ⟨g, off, hag, hgl, hc⟩ := HH.out.1.at_ (by omega)
      subst hag
      obtain ⟨y, hy⟩ : ∃ y, y = l[k] := ⟨_, rfl⟩
      have HU0 := Lib.hid (show w.cell? ⟨g, off + k * 3, none⟩ = some (.string y.name) from by rw [hy]; exact hc k hkl 0 _ rfl)
      have HU1 := Lib.hid (show w.cell? ⟨g, off + k * 3 + 1, none⟩ = some (.string y.id) from by rw [hy]; exact hc k hkl 1 _ rfl)
      have HU2 := Lib.hid (show w.cell? ⟨g, off + k * 3 + 2, none⟩ = some (.int .i64 y.h) from by rw [hy]; exact hc k hkl 2 _ rfl)
      have HGL := Lib.hid hgl
      have HY := Lib.hid hy
      clear hc hy hgl
      obtain ⟨q, hq⟩ : ∃ q, q = (y.name.toList == x.name.toList) := ⟨_, rfl⟩
      have hq' := hq.symm
      have HQ := Lib.hid hq
      clear hq
      go_upto_region 6 with (fail)
      have a0 : ∀ X : LaterOf wr, X.w.cell? ⟨g, off + k * 3, none⟩ = some (.string y.name) := fun X => ((HL.out.later X.h).below.cell (p := ⟨g, off + k * 3, none⟩) HGL.out).trans HU0.out
      have a1 : ∀ X : LaterOf wr, X.w.cell? ⟨g, off + k * 3 + 1, none⟩ = some (.string y.id) := fun X => ((HL.out.later X.h).below.cell (p := ⟨g, off + k * 3 + 1, none⟩) HGL.out).trans HU1.out
      have a2 : ∀ X : LaterOf wr, X.w.cell? ⟨g, off + k * 3 + 2, none⟩ = some (.int .i64 y.h) := fun X => ((HL.out.later X.h).below.cell (p := ⟨g, off + k * 3 + 2, none⟩) HGL.out).trans HU2.out
      have b0 : ∀ X : LaterOf wr, X.w.cell? ⟨w.heap.size, 0, none⟩ = some (.string x.name) := fun X => (HL.out.later X.h).bx.cell 0
      have b1 : ∀ X : LaterOf wr, X.w.cell? ⟨w.heap.size, 1, none⟩ = some (.string x.id) := fun X => (HL.out.later X.h).bx.cell 1
      have b2 : ∀ X : LaterOf wr, X.w.cell? ⟨w.heap.size, 2, none⟩ = some (.int .i64 x.h) := fun X => (HL.out.later X.h).bx.cell 2
      refine wp_region_all (fun w' => ∃ X : LaterOf wr, w' = X.w) (by kernel_rfl) (by kernel_rfl) ⟨LaterOf.start wr, rfl⟩ ?_
      repeat (go_big_quiet_step (first | with_reducible rfl))
      refine wpQuiet_nil ?_
      intro ww hw
      obtain ⟨X, rfl⟩ := hw
      have HL := Lib.hid (HL.out.later X.h)
      obtain ⟨w3, hx⟩ := X
      dsimp only at HL
      clear a0 a1 a2 b0 b1 b2
      cases q with
      | true =>
        have hkey : kRf l[k] = kRf x := by rw [← HY.out]; exact bytes_eq.1 HQ.out.symm
        obtain ⟨q2, hq2⟩ : ∃ q, q = abB x y := ⟨_, rfl⟩
        have T := Lib.hid (show ∀ X : LaterOf w3, Calls Tryz.prog 41 #[.agg #[.string x.name, .string x.id, .int .i64 x.h], .agg #[.string y.name, .string y.id, .int .i64 y.h]] X.w fun e w' => e = .returned (.bool q2) ∧ Below X.w.heap.size X.w w' from fun X => by rw [hq2]; exact TA.out y X.w)
        have HQ2 := Lib.hid hq2
        have HKEY := Lib.hid hkey
        clear hq2 hkey hq' 
        go_upto_region 7 with (fail)
        have a0 : ∀ X : LaterOf w3, X.w.cell? ⟨g, off + k * 3, none⟩ = some (.string y.name) := fun X => ((HL.out.later X.h).below.cell (p := ⟨g, off + k * 3, none⟩) HGL.out).trans HU0.out
        have a1 : ∀ X : LaterOf w3, X.w.cell? ⟨g, off + k * 3 + 1, none⟩ = some (.string y.id) := fun X => ((HL.out.later X.h).below.cell (p := ⟨g, off + k * 3 + 1, none⟩) HGL.out).trans HU1.out
        have a2 : ∀ X : LaterOf w3, X.w.cell? ⟨g, off + k * 3 + 2, none⟩ = some (.int .i64 y.h) := fun X => ((HL.out.later X.h).below.cell (p := ⟨g, off + k * 3 + 2, none⟩) HGL.out).trans HU2.out
        have b0 : ∀ X : LaterOf w3, X.w.cell? ⟨w.heap.size, 0, none⟩ = some (.string x.name) := fun X => (HL.out.later X.h).bx.cell 0
        have b1 : ∀ X : LaterOf w3, X.w.cell? ⟨w.heap.size, 1, none⟩ = some (.string x.id) := fun X => (HL.out.later X.h).bx.cell 1
        have b2 : ∀ X : LaterOf w3, X.w.cell? ⟨w.heap.size, 2, none⟩ = some (.int .i64 x.h) := fun X => (HL.out.later X.h).bx.cell 2
        refine wp_region_all (fun w' => ∃ X : LaterOf w3, w' = X.w) (by kernel_rfl) (by kernel_rfl) ⟨LaterOf.start w3, rfl⟩ ?_
        repeat (go_big_quiet_step (first | with_reducible rfl | with_reducible exact LaterOf.call _ (T.out _)))
        refine wpQuiet_nil ?_
        intro ww hw
        obtain ⟨X, rfl⟩ := hw
        have HL := Lib.hid (HL.out.later X.h)
        obtain ⟨w4, hx⟩ := X
        dsimp only at HL
        clear a0 a1 a2 b0 b1 b2
        clear T
        cases q2 with
        | true =>
          have HM := Lib.hid (show mRf l[k] x = some x from by
            rw [← HY.out]
            unfold mRf
            rw [if_pos (abB_iff.1 HQ2.out.symm)])
          have HP := Lib.hid (PutAt.meet (z := x) mRf_key HH.out.2 HP.out hkl HKEY.out HM.out)
          have x0 : w4.cell? ⟨w.heap.size, 0, none⟩ = some (.string x.name) := HL.out.bx.cell 0
          have x1 : w4.cell? ⟨w.heap.size, 1, none⟩ = some (.string x.id) := HL.out.bx.cell 1
          have x2 : w4.cell? ⟨w.heap.size, 2, none⟩ = some (.int .i64 x.h) := HL.out.bx.cell 2
          go_wp2_with (at_builtin; refine wpList_append_sl rfl _ _ _ 22 (by rfl) el_rf (base := w.heap.size + 1) (.slice ao (n) c) (n) (rowCells vRf (o)) (by rfl) (HL.out.sl.alloc _) _ 1 [.string x.name, .string x.id, .int .i64 x.h] (by rfl) (SrcIs.own Tryz.underlying22 (SlIs.made (base := 0) (BlkIs.new _ _ _) (Nat.zero_le _) rfl (by decide))) (by intro u hu; simp at hu; rcases hu with rfl | rfl | rfl <;> rfl) (by unfold maxLen; omega) (by omega) (by have := HL.out.bx.lt; simp; omega) ?_)
          intro v5 w5 hs hg hat
          have HL := Lib.hid (HL.out.app (y := x) hs hg)
          obtain ⟨ao5, c5, rfl, -, -, -⟩ := hs.form
          clear hs hg hat
          clear x0 x1 x2
          go_wp2_with fail
          exact ⟨⟨k + 1, n + 1, c5, true, ao5, o ++ [x], rfl, rfl, by simp, by omega, (fun h => by cases h), by omega, HL, HP⟩, by simp [intOf]; omega⟩
        | false =>
          have HM := Lib.hid (show mRf l[k] x = some y from by
            rw [← HY.out]
            unfold mRf
            rw [if_neg (fun h => by have h1 := HQ2.out; rw [abB_iff.2 h] at h1; cases h1)])
          have HP := Lib.hid (PutAt.meet (z := y) mRf_key HH.out.2 HP.out hkl HKEY.out HM.out)
          have u0 : w4.cell? ⟨g, off + k * 3, none⟩ = some (.string y.name) := (HL.out.below.cell (p := ⟨g, off + k * 3, none⟩) HGL.out).trans HU0.out
          have u1 : w4.cell? ⟨g, off + k * 3 + 1, none⟩ = some (.string y.id) := (HL.out.below.cell (p := ⟨g, off + k * 3 + 1, none⟩) HGL.out).trans HU1.out
          have u2 : w4.cell? ⟨g, off + k * 3 + 2, none⟩ = some (.int .i64 y.h) := (HL.out.below.cell (p := ⟨g, off + k * 3 + 2, none⟩) HGL.out).trans HU2.out
          go_wp2_with (at_builtin; refine wpList_append_sl rfl _ _ _ 22 (by rfl) el_rf (base := w.heap.size + 1) (.slice ao (n) c) (n) (rowCells vRf (o)) (by rfl) (HL.out.sl.alloc _) _ 1 [.string y.name, .string y.id, .int .i64 y.h] (by rfl) (SrcIs.own Tryz.underlying22 (SlIs.made (base := 0) (BlkIs.new _ _ _) (Nat.zero_le _) rfl (by decide))) (by intro u hu; simp at hu; rcases hu with rfl | rfl | rfl <;> rfl) (by unfold maxLen; omega) (by omega) (by have := HL.out.bx.lt; simp; omega) ?_)
          intro v5 w5 hs hg hat
          have HL := Lib.hid (HL.out.app (y := y) hs hg)
          obtain ⟨ao5, c5, rfl, -, -, -⟩ := hs.form
          clear hs hg hat
          clear u0 u1 u2
          go_wp2_with fail
          exact ⟨⟨k + 1, n + 1, c5, true, ao5, o ++ [y], rfl, rfl, by simp, by omega, (fun h => by cases h), by omega, HL, HP⟩, by simp [intOf]; omega⟩
      | false =>
        have hne : kRf l[k] ≠ kRf x := by
          rw [← HY.out]
          intro h
          have h1 := HQ.out
          rw [bytes_eq.2 (show y.name = x.name from h)] at h1
          cases h1
        have HNE := Lib.hid hne
        clear hne hq'
        cases put with
        | true =>
          have HP := Lib.hid (PutAt.on mRf_key HH.out.2 HP.out hkl HNE.out)
          rw [← HY.out] at HP
          go_upto_region 11 with (fail)
          have a0 : ∀ X : LaterOf w3, X.w.cell? ⟨g, off + k * 3, none⟩ = some (.string y.name) := fun X => ((HL.out.later X.h).below.cell (p := ⟨g, off + k * 3, none⟩) HGL.out).trans HU0.out
          have a1 : ∀ X : LaterOf w3, X.w.cell? ⟨g, off + k * 3 + 1, none⟩ = some (.string y.id) := fun X => ((HL.out.later X.h).below.cell (p := ⟨g, off + k * 3 + 1, none⟩) HGL.out).trans HU1.out
          have a2 : ∀ X : LaterOf w3, X.w.cell? ⟨g, off + k * 3 + 2, none⟩ = some (.int .i64 y.h) := fun X => ((HL.out.later X.h).below.cell (p := ⟨g, off + k * 3 + 2, none⟩) HGL.out).trans HU2.out
          have b0 : ∀ X : LaterOf w3, X.w.cell? ⟨w.heap.size, 0, none⟩ = some (.string x.name) := fun X => (HL.out.later X.h).bx.cell 0
          have b1 : ∀ X : LaterOf w3, X.w.cell? ⟨w.heap.size, 1, none⟩ = some (.string x.id) := fun X => (HL.out.later X.h).bx.cell 1
          have b2 : ∀ X : LaterOf w3, X.w.cell? ⟨w.heap.size, 2, none⟩ = some (.int .i64 x.h) := fun X => (HL.out.later X.h).bx.cell 2
          refine wp_region_all (fun w' => ∃ X : LaterOf w3, w' = X.w) (by kernel_rfl) (by kernel_rfl) ⟨LaterOf.start w3, rfl⟩ ?_
          repeat (go_big_quiet_step (first | with_reducible rfl))
          refine wpQuiet_nil ?_
          intro ww hw
          obtain ⟨X, rfl⟩ := hw
          have HL := Lib.hid (HL.out.later X.h)
          obtain ⟨w4, hx⟩ := X
          dsimp only at HL
          clear a0 a1 a2 b0 b1 b2
          have u0 : w4.cell? ⟨g, off + k * 3, none⟩ = some (.string y.name) := (HL.out.below.cell (p := ⟨g, off + k * 3, none⟩) HGL.out).trans HU0.out
          have u1 : w4.cell? ⟨g, off + k * 3 + 1, none⟩ = some (.string y.id) := (HL.out.below.cell (p := ⟨g, off + k * 3 + 1, none⟩) HGL.out).trans HU1.out
          have u2 : w4.cell? ⟨g, off + k * 3 + 2, none⟩ = some (.int .i64 y.h) := (HL.out.below.cell (p := ⟨g, off + k * 3 + 2, none⟩) HGL.out).trans HU2.out
          go_wp2_with (at_builtin; refine wpList_append_sl rfl _ _ _ 22 (by rfl) el_rf (base := w.heap.size + 1) (.slice ao (n) c) (n) (rowCells vRf (o)) (by rfl) (HL.out.sl.alloc _) _ 1 [.string y.name, .string y.id, .int .i64 y.h] (by rfl) (SrcIs.own Tryz.underlying22 (SlIs.made (base := 0) (BlkIs.new _ _ _) (Nat.zero_le _) rfl (by decide))) (by intro u hu; simp at hu; rcases hu with rfl | rfl | rfl <;> rfl) (by unfold maxLen; omega) (by omega) (by have := HL.out.bx.lt; simp; omega) ?_)
          intro v5 w5 hs hg hat
          have HL := Lib.hid (HL.out.app (y := y) hs hg)
          obtain ⟨ao5, c5, rfl, -, -, -⟩ := hs.form
          clear hs hg hat
          clear u0 u1 u2
          go_wp2_with fail
          exact ⟨⟨k + 1, n + 1, c5, true, ao5, o ++ [y], rfl, rfl, by simp, by omega, (fun h => by cases h), by omega, HL, HP⟩, by simp [intOf]; omega⟩
        | false =>
          have hnk2 : n ≤ k := hpn rfl
          obtain ⟨q2, hq2⟩ : ∃ q, q = Op.bytesLess x.name.toList y.name.toList := ⟨_, rfl⟩
          have hq2' := hq2.symm
          have HQ2 := Lib.hid hq2
          clear hq2
          go_upto_region 11 with (fail)
          have a0 : ∀ X : LaterOf w3, X.w.cell? ⟨g, off + k * 3, none⟩ = some (.string y.name) := fun X => ((HL.out.later X.h).below.cell (p := ⟨g, off + k * 3, none⟩) HGL.out).trans HU0.out
          have a1 : ∀ X : LaterOf w3, X.w.cell? ⟨g, off + k * 3 + 1, none⟩ = some (.string y.id) := fun X => ((HL.out.later X.h).below.cell (p := ⟨g, off + k * 3 + 1, none⟩) HGL.out).trans HU1.out
          have a2 : ∀ X : LaterOf w3, X.w.cell? ⟨g, off + k * 3 + 2, none⟩ = some (.int .i64 y.h) := fun X => ((HL.out.later X.h).below.cell (p := ⟨g, off + k * 3 + 2, none⟩) HGL.out).trans HU2.out
          have b0 : ∀ X : LaterOf w3, X.w.cell? ⟨w.heap.size, 0, none⟩ = some (.string x.name) := fun X => (HL.out.later X.h).bx.cell 0
          have b1 : ∀ X : LaterOf w3, X.w.cell? ⟨w.heap.size, 1, none⟩ = some (.string x.id) := fun X => (HL.out.later X.h).bx.cell 1
          have b2 : ∀ X : LaterOf w3, X.w.cell? ⟨w.heap.size, 2, none⟩ = some (.int .i64 x.h) := fun X => (HL.out.later X.h).bx.cell 2
          refine wp_region_all (fun w' => ∃ X : LaterOf w3, w' = X.w) (by kernel_rfl) (by kernel_rfl) ⟨LaterOf.start w3, rfl⟩ ?_
          repeat (go_big_quiet_step (first | with_reducible rfl))
          refine wpQuiet_nil ?_
          intro ww hw
          obtain ⟨X, rfl⟩ := hw
          have HL := Lib.hid (HL.out.later X.h)
          obtain ⟨w4, hx⟩ := X
          dsimp only at HL
          clear a0 a1 a2 b0 b1 b2
          clear hq2'
          cases q2 with
          | true =>
            have HLT := Lib.hid (show El.lt (kRf x) (kRf l[k]) from by
              rw [← HY.out]
              have h1 := HQ2.out.symm
              rw [Set.less_lt] at h1
              exact of_decide_eq_true h1)
            have HP := Lib.hid (PutAt.new HH.out.2 HP.out hkl HLT.out)
            rw [← HY.out] at HP
            have x0 : w4.cell? ⟨w.heap.size, 0, none⟩ = some (.string x.name) := HL.out.bx.cell 0
            have x1 : w4.cell? ⟨w.heap.size, 1, none⟩ = some (.string x.id) := HL.out.bx.cell 1
            have x2 : w4.cell? ⟨w.heap.size, 2, none⟩ = some (.int .i64 x.h) := HL.out.bx.cell 2
            go_wp2_with (at_builtin; refine wpList_append_sl rfl _ _ _ 22 (by rfl) el_rf (base := w.heap.size + 1) (.slice ao (n) c) (n) (rowCells vRf (o)) (by rfl) (HL.out.sl.alloc _) _ 1 [.string x.name, .string x.id, .int .i64 x.h] (by rfl) (SrcIs.own Tryz.underlying22 (SlIs.made (base := 0) (BlkIs.new _ _ _) (Nat.zero_le _) rfl (by decide))) (by intro u hu; simp at hu; rcases hu with rfl | rfl | rfl <;> rfl) (by unfold maxLen; omega) (by omega) (by have := HL.out.bx.lt; simp; omega) ?_)
            intro v5 w5 hs hg hat
            have HL := Lib.hid (HL.out.app (y := x) hs hg)
            obtain ⟨ao5, c5, rfl, -, -, -⟩ := hs.form
            clear hs hg hat
            clear x0 x1 x2
            have u0 : w5.cell? ⟨g, off + k * 3, none⟩ = some (.string y.name) := (HL.out.below.cell (p := ⟨g, off + k * 3, none⟩) HGL.out).trans HU0.out
            have u1 : w5.cell? ⟨g, off + k * 3 + 1, none⟩ = some (.string y.id) := (HL.out.below.cell (p := ⟨g, off + k * 3 + 1, none⟩) HGL.out).trans HU1.out
            have u2 : w5.cell? ⟨g, off + k * 3 + 2, none⟩ = some (.int .i64 y.h) := (HL.out.below.cell (p := ⟨g, off + k * 3 + 2, none⟩) HGL.out).trans HU2.out
            go_wp2_with (at_builtin; refine wpList_append_sl rfl _ _ _ 22 (by rfl) el_rf (base := w.heap.size + 1) (.slice ao5 (n + 1) c5) (n + 1) (rowCells vRf (o ++ [x])) (by rfl) (HL.out.sl.alloc _) _ 1 [.string y.name, .string y.id, .int .i64 y.h] (by rfl) (SrcIs.own Tryz.underlying22 (SlIs.made (base := 0) (BlkIs.new _ _ _) (Nat.zero_le _) rfl (by decide))) (by intro u hu; simp at hu; rcases hu with rfl | rfl | rfl <;> rfl) (by unfold maxLen; omega) (by omega) (by have := HL.out.bx.lt; simp; omega) ?_)
            intro v6 w6 hs hg hat
            have HL := Lib.hid (HL.out.app (y := y) hs hg)
            obtain ⟨ao6, c6, rfl, -, -, -⟩ := hs.form
            clear hs hg hat
            clear u0 u1 u2
            go_wp2_with fail
            exact ⟨⟨k + 1, n + 1 + 1, c6, true, ao6, o ++ [x] ++ [y], rfl, rfl, by simp, by omega, (fun h => by cases h), by omega, HL, HP⟩, by simp [intOf]; omega⟩
          | false =>
            have HLT := Lib.hid (show ¬ El.lt (kRf x) (kRf l[k]) from by
              rw [← HY.out]
              have h1 := HQ2.out.symm
              rw [Set.less_lt] at h1
              exact of_decide_eq_false h1)
            have HP := Lib.hid (PutAt.low HP.out hkl HNE.out HLT.out)
            rw [← HY.out] at HP
            have u0 : w4.cell? ⟨g, off + k * 3, none⟩ = some (.string y.name) := (HL.out.below.cell (p := ⟨g, off + k * 3, none⟩) HGL.out).trans HU0.out
            have u1 : w4.cell? ⟨g, off + k * 3 + 1, none⟩ = some (.string y.id) := (HL.out.below.cell (p := ⟨g, off + k * 3 + 1, none⟩) HGL.out).trans HU1.out
            have u2 : w4.cell? ⟨g, off + k * 3 + 2, none⟩ = some (.int .i64 y.h) := (HL.out.below.cell (p := ⟨g, off + k * 3 + 2, none⟩) HGL.out).trans HU2.out
            go_wp2_with (at_builtin; refine wpList_append_sl rfl _ _ _ 22 (by rfl) el_rf (base := w.heap.size + 1) (.slice ao (n) c) (n) (rowCells vRf (o)) (by rfl) (HL.out.sl.alloc _) _ 1 [.string y.name, .string y.id, .int .i64 y.h] (by rfl) (SrcIs.own Tryz.underlying22 (SlIs.made (base := 0) (BlkIs.new _ _ _) (Nat.zero_le _) rfl (by decide))) (by intro u hu; simp at hu; rcases hu with rfl | rfl | rfl <;> rfl) (by unfold maxLen; omega) (by omega) (by have := HL.out.bx.lt; simp; omega) ?_)
            intro v5 w5 hs hg hat
            have HL := Lib.hid (HL.out.app (y := y) hs hg)
            obtain ⟨ao5, c5, rfl, -, -, -⟩ := hs.form
            clear hs hg hat
            clear u0 u1 u2
            go_wp2_with fail
            exact ⟨⟨k + 1, n + 1, c5, false, ao5, o ++ [y], rfl, rfl, by simp, by omega, (fun _ => by omega), by omega, HL, HP⟩, by simp [intOf]; omega⟩
    · have ki : ¬ ((k : Int) < n0) := by omega
      have ki2 : decide ((k : Int) < n0) = false := decide_eq_false ki
      obtain rfl : k = n0 := Nat.le_antisymm hkn hge
      have hp1 := HP.out
      rw [HN.out] at hp1
      have HP := Lib.hid hp1
      clear ki hp1
      cases put with
      | true =>
        go_wp2_with fail
        go_ret
        refine ⟨_, o, rfl, RowAt.of_sl (base := w.heap.size + 1) (e := 49) (fun _ => rfl) ?_, PutAt.done HP.out, HL.out.below⟩
        have h1 := HL.out.sl
        rwa [HL.out.len] at h1 ⊢
      | false =>
        have x0 : wr.cell? ⟨w.heap.size, 0, none⟩ = some (.string x.name) := HL.out.bx.cell 0
        have x1 : wr.cell? ⟨w.heap.size, 1, none⟩ = some (.string x.id) := HL.out.bx.cell 1
        have x2 : wr.cell? ⟨w.heap.size, 2, none⟩ = some (.int .i64 x.h) := HL.out.bx.cell 2
        go_wp2_with (at_builtin; refine wpList_append_sl rfl _ _ _ 22 (by rfl) el_rf (base := w.heap.size + 1) (.slice ao (n) c) (n) (rowCells vRf (o)) (by rfl) (HL.out.sl.alloc _) _ 1 [.string x.name, .string x.id, .int .i64 x.h] (by rfl) (SrcIs.own Tryz.underlying22 (SlIs.made (base := 0) (BlkIs.new _ _ _) (Nat.zero_le _) rfl (by decide))) (by intro u hu; simp at hu; rcases hu with rfl | rfl | rfl <;> rfl) (by unfold maxLen; omega) (by omega) (by have := HL.out.bx.lt; simp; omega) ?_)
        intro v5 w5 hs hg hat
        have HL := Lib.hid (HL.out.app (y := x) hs hg)
        obtain ⟨ao5, c5, rfl, -, -, -⟩ := hs.form
        clear hs hg hat
        clear x0 x1 x2
        go_wp2_with fail
        go_ret
        refine ⟨_, o ++ [x], rfl, RowAt.of_sl (base := w.heap.size + 1) (e := 49) (fun _ => rfl) ?_, PutAt.last HH.out.2 HP.out, HL.out.below⟩
        have h1 := HL.out.sl
        rwa [HL.out.len] at h1 ⊢
end Go.Proofs.YtbmknmjcoeinkaaGreat.Mg

/- The reference's token, walked: tokens with one more. Printed by gen_mgtok.py. (Layer 13.) -/
namespace Go.Proofs.YtbmknmjcoeinkaaGreat.Mg
set_option linter.unusedVariables false
set_option linter.unusedSimpArgs false
open Go.RowKit Go.Lib
open Mk (Rf Tok Tb TbR vRf vTok vTb vInt bytes_eq)
open Set (El)
/-- What the reference's token tells. -/
def TokPut (l : List Tok) (x : Tok) (w w' : World) (e : Ending) : Prop :=
  ∃ v' o q, e = .returned (.tuple #[v', .bool q]) ∧ RowAt 3 vTok w' v' o ∧ ((q = true ∧ JoinIs kTok mTok l [x] o) ∨ (q = false ∧ Clash kTok mTok l [x])) ∧ Below w.heap.size w w'
set_option maxRecDepth 100000 in
set_option maxHeartbeats 8000000 in
theorem rtoken_any (v : Value) (l : List Tok) (x : Tok) (w : World) (h : RowAt 3 vTok w v l) (hr : Rk kTok l) (hn : l.length ≤ 1000000) :
    Calls Tryz.prog 26 #[v, .agg #[.int .i64 x.node, .int .i64 x.n, .string x.id]] w fun e w' => TokPut l x w w' e := by
  have HH := Lib.hid (And.intro h hr)
  obtain ⟨lo, lc, rfl, -, -⟩ := h.form
  obtain ⟨n0, hn0⟩ : ∃ n, n = l.length := ⟨_, rfl⟩
  rw [← hn0] at HH hn ⊢
  have HN := Lib.hid hn0
  obtain ⟨W0, hW0⟩ : ∃ W0, W0 = (w.alloc (.cells #[.int .i64 x.node, .int .i64 x.n, .string x.id] 45)).alloc (.cells #[] 45) := ⟨_, rfl⟩
  have HL0 := Lib.hid (show RpSt vTok 3 45 w #[.int .i64 x.node, .int .i64 x.n, .string x.id] (.slice (some ⟨w.heap.size + 1, 0, none⟩) 0 0) 0 ([] : List Tok) W0 from by
    rw [hW0]
    exact ⟨((Below.refl _ _).alloc (Nat.le_refl _) _).alloc (by simp) _, (BlkIs.new _ _ _).alloc _, SlIs.made (cs := #[]) (BlkIs.new2 _ _ _ _) (Nat.le_refl _) rfl (by decide), rfl⟩)
  have HW0 := Lib.hid hW0
  clear h hr hn0 hW0
  go_enter Tryz.func26, Tryz.ntmps26
  go_upto_region 2 with (fail)
  rw [← HW0.out]
  go_wp2_with fail
  go_loopw [6, 7, 8] (fun p q i wr => ∃ (k n c : Nat) (put : Bool) (ao : Option Addr) (o : List Tok), p = .slice ao n c ∧ q = .bool put ∧ i = .int .i64 (k : Int) ∧ k ≤ n0 ∧ (put = false → n ≤ k) ∧ n ≤ k + 1 ∧ Hid (RpSt vTok 3 45 w #[.int .i64 x.node, .int .i64 x.n, .string x.id] (.slice ao n c) n o wr) ∧ Hid (PutAt kTok mTok l x k o put)) (fun _ _ i _ => ((n0 : Int) - intOf i).toNat)
  case atStart => exact ⟨0, 0, 0, false, _, [], rfl, rfl, rfl, Nat.zero_le _, fun _ => Nat.le_refl _, by omega, HL0, Lib.hid (PutAt.start kTok mTok l x)⟩
  case round =>
    obtain ⟨k, n, c, put, ao, o, rfl, rfl, rfl, hkn, hpn, hnk, HL, HP⟩ := hrel
    clear HL0
    rcases Nat.lt_or_ge k n0 with hlt | hge
    · have ki : (k : Int) < n0 := by omega
      have kw : IntKind.i64.wrap ((k : Int) + 1) = ((k + 1 : Nat) : Int) := IntWalk.i64_in _ (by omega)
      have hkl : k < l.length := by have := HN.out; omega
      obtain ⟨g, off, hag, hgl, hc⟩ := HH.out.1.at_ (by omega)
      subst hag
      obtain ⟨y, hy⟩ : ∃ y, y = l[k] := ⟨_, rfl⟩
      have HU0 := Lib.hid (show w.cell? ⟨g, off + k * 3, none⟩ = some (.int .i64 y.node) from by rw [hy]; exact hc k hkl 0 _ rfl)
      have HU1 := Lib.hid (show w.cell? ⟨g, off + k * 3 + 1, none⟩ = some (.int .i64 y.n) from by rw [hy]; exact hc k hkl 1 _ rfl)
      have HU2 := Lib.hid (show w.cell? ⟨g, off + k * 3 + 2, none⟩ = some (.string y.id) from by rw [hy]; exact hc k hkl 2 _ rfl)
      have HGL := Lib.hid hgl
      have HY := Lib.hid hy
      clear hc hy hgl
      obtain ⟨q, hq⟩ : ∃ q, q = (y.node == x.node) := ⟨_, rfl⟩
      obtain ⟨p, hp⟩ : ∃ q, q = (y.n == x.n) := ⟨_, rfl⟩
      have hq' := hq.symm
      have hp' := hp.symm
      have HQ := Lib.hid (And.intro hq hp)
      clear hq hp
      cases q with
      | false =>
        have HNE := Lib.hid (show kTok l[k] ≠ kTok x from by
          rw [← HY.out]
          intro h
          have h1 : y.node = x.node := congrArg Prod.fst h
          have h2 := HQ.out.1
          rw [h1] at h2
          simp at h2)
        clear hp'
        go_upto_region 6 with (fail)
        have a0 : ∀ X : LaterOf wr, X.w.cell? ⟨g, off + k * 3, none⟩ = some (.int .i64 y.node) := fun X => ((HL.out.later X.h).below.cell (p := ⟨g, off + k * 3, none⟩) HGL.out).trans HU0.out
        have a1 : ∀ X : LaterOf wr, X.w.cell? ⟨g, off + k * 3 + 1, none⟩ = some (.int .i64 y.n) := fun X => ((HL.out.later X.h).below.cell (p := ⟨g, off + k * 3 + 1, none⟩) HGL.out).trans HU1.out
        have a2 : ∀ X : LaterOf wr, X.w.cell? ⟨g, off + k * 3 + 2, none⟩ = some (.string y.id) := fun X => ((HL.out.later X.h).below.cell (p := ⟨g, off + k * 3 + 2, none⟩) HGL.out).trans HU2.out
        have b0 : ∀ X : LaterOf wr, X.w.cell? ⟨w.heap.size, 0, none⟩ = some (.int .i64 x.node) := fun X => (HL.out.later X.h).bx.cell 0
        have b1 : ∀ X : LaterOf wr, X.w.cell? ⟨w.heap.size, 1, none⟩ = some (.int .i64 x.n) := fun X => (HL.out.later X.h).bx.cell 1
        have b2 : ∀ X : LaterOf wr, X.w.cell? ⟨w.heap.size, 2, none⟩ = some (.string x.id) := fun X => (HL.out.later X.h).bx.cell 2
        refine wp_region_all (fun w' => ∃ X : LaterOf wr, w' = X.w) (by kernel_rfl) (by kernel_rfl) ⟨LaterOf.start wr, rfl⟩ ?_
        repeat (go_big_quiet_step (first | with_reducible rfl))
        refine wpQuiet_nil ?_
        intro ww hw
        obtain ⟨X, rfl⟩ := hw
        have HL := Lib.hid (HL.out.later X.h)
        obtain ⟨w3, hx⟩ := X
        dsimp only at HL
        clear a0 a1 a2 b0 b1 b2
        clear hq'
        cases put with
        | true =>
          have HP := Lib.hid (PutAt.on mTok_key HH.out.2 HP.out hkl HNE.out)
          rw [← HY.out] at HP
          go_upto_region 8 with (fail)
          have a0 : ∀ X : LaterOf w3, X.w.cell? ⟨g, off + k * 3, none⟩ = some (.int .i64 y.node) := fun X => ((HL.out.later X.h).below.cell (p := ⟨g, off + k * 3, none⟩) HGL.out).trans HU0.out
          have a1 : ∀ X : LaterOf w3, X.w.cell? ⟨g, off + k * 3 + 1, none⟩ = some (.int .i64 y.n) := fun X => ((HL.out.later X.h).below.cell (p := ⟨g, off + k * 3 + 1, none⟩) HGL.out).trans HU1.out
          have a2 : ∀ X : LaterOf w3, X.w.cell? ⟨g, off + k * 3 + 2, none⟩ = some (.string y.id) := fun X => ((HL.out.later X.h).below.cell (p := ⟨g, off + k * 3 + 2, none⟩) HGL.out).trans HU2.out
          have b0 : ∀ X : LaterOf w3, X.w.cell? ⟨w.heap.size, 0, none⟩ = some (.int .i64 x.node) := fun X => (HL.out.later X.h).bx.cell 0
          have b1 : ∀ X : LaterOf w3, X.w.cell? ⟨w.heap.size, 1, none⟩ = some (.int .i64 x.n) := fun X => (HL.out.later X.h).bx.cell 1
          have b2 : ∀ X : LaterOf w3, X.w.cell? ⟨w.heap.size, 2, none⟩ = some (.string x.id) := fun X => (HL.out.later X.h).bx.cell 2
          refine wp_region_all (fun w' => ∃ X : LaterOf w3, w' = X.w) (by kernel_rfl) (by kernel_rfl) ⟨LaterOf.start w3, rfl⟩ ?_
          repeat (go_big_quiet_step (first | with_reducible rfl))
          refine wpQuiet_nil ?_
          intro ww hw
          obtain ⟨X, rfl⟩ := hw
          have HL := Lib.hid (HL.out.later X.h)
          obtain ⟨w4, hx⟩ := X
          dsimp only at HL
          clear a0 a1 a2 b0 b1 b2
          have u0 : w4.cell? ⟨g, off + k * 3, none⟩ = some (.int .i64 y.node) := (HL.out.below.cell (p := ⟨g, off + k * 3, none⟩) HGL.out).trans HU0.out
          have u1 : w4.cell? ⟨g, off + k * 3 + 1, none⟩ = some (.int .i64 y.n) := (HL.out.below.cell (p := ⟨g, off + k * 3 + 1, none⟩) HGL.out).trans HU1.out
          have u2 : w4.cell? ⟨g, off + k * 3 + 2, none⟩ = some (.string y.id) := (HL.out.below.cell (p := ⟨g, off + k * 3 + 2, none⟩) HGL.out).trans HU2.out
          go_wp2_with (at_builtin; refine wpList_append_sl rfl _ _ _ 23 (by rfl) el_tok (base := w.heap.size + 1) (.slice ao (n) c) (n) (rowCells vTok (o)) (by rfl) (HL.out.sl.alloc _) _ 1 [.int .i64 y.node, .int .i64 y.n, .string y.id] (by rfl) (SrcIs.own Tryz.underlying23 (SlIs.made (base := 0) (BlkIs.new _ _ _) (Nat.zero_le _) rfl (by decide))) (by intro u hu; simp at hu; rcases hu with rfl | rfl | rfl <;> rfl) (by unfold maxLen; omega) (by omega) (by have := HL.out.bx.lt; simp; omega) ?_)
          intro v5 w5 hs hg hat
          have HL := Lib.hid (HL.out.app (y := y) hs hg)
          obtain ⟨ao5, c5, rfl, -, -, -⟩ := hs.form
          clear hs hg hat
          clear u0 u1 u2
          go_wp2_with fail
          exact ⟨⟨k + 1, n + 1, c5, true, ao5, o ++ [y], rfl, rfl, by simp, by omega, (fun h => by cases h), by omega, HL, HP⟩, by simp [intOf]; omega⟩
        | false =>
          have hnk2 : n ≤ k := hpn rfl
          obtain ⟨q2, hq2⟩ : ∃ q, q = ahB x.node x.n y.node y.n := ⟨_, rfl⟩
          have T := Lib.hid (show ∀ X : LaterOf w3, Calls Tryz.prog 77 #[.int .i64 x.node, .int .i64 x.n, .int .i64 y.node, .int .i64 y.n] X.w fun e w' => e = .returned (.bool q2) ∧ Below X.w.heap.size X.w w' from fun X => by rw [hq2]; exact ahead_any _ _ _ _ X.w)
          have HQ2 := Lib.hid hq2
          clear hq2
          go_upto_region 8 with (fail)
          have a0 : ∀ X : LaterOf w3, X.w.cell? ⟨g, off + k * 3, none⟩ = some (.int .i64 y.node) := fun X => ((HL.out.later X.h).below.cell (p := ⟨g, off + k * 3, none⟩) HGL.out).trans HU0.out
          have a1 : ∀ X : LaterOf w3, X.w.cell? ⟨g, off + k * 3 + 1, none⟩ = some (.int .i64 y.n) := fun X => ((HL.out.later X.h).below.cell (p := ⟨g, off + k * 3 + 1, none⟩) HGL.out).trans HU1.out
          have a2 : ∀ X : LaterOf w3, X.w.cell? ⟨g, off + k * 3 + 2, none⟩ = some (.string y.id) := fun X => ((HL.out.later X.h).below.cell (p := ⟨g, off + k * 3 + 2, none⟩) HGL.out).trans HU2.out
          have b0 : ∀ X : LaterOf w3, X.w.cell? ⟨w.heap.size, 0, none⟩ = some (.int .i64 x.node) := fun X => (HL.out.later X.h).bx.cell 0
          have b1 : ∀ X : LaterOf w3, X.w.cell? ⟨w.heap.size, 1, none⟩ = some (.int .i64 x.n) := fun X => (HL.out.later X.h).bx.cell 1
          have b2 : ∀ X : LaterOf w3, X.w.cell? ⟨w.heap.size, 2, none⟩ = some (.string x.id) := fun X => (HL.out.later X.h).bx.cell 2
          refine wp_region_all (fun w' => ∃ X : LaterOf w3, w' = X.w) (by kernel_rfl) (by kernel_rfl) ⟨LaterOf.start w3, rfl⟩ ?_
          repeat (go_big_quiet_step (first | with_reducible rfl | with_reducible exact LaterOf.call _ (T.out _)))
          refine wpQuiet_nil ?_
          intro ww hw
          obtain ⟨X, rfl⟩ := hw
          have HL := Lib.hid (HL.out.later X.h)
          obtain ⟨w4, hx⟩ := X
          dsimp only at HL
          clear a0 a1 a2 b0 b1 b2
          clear T
          cases q2 with
          | true =>
            have HLT := Lib.hid (show El.lt (kTok x) (kTok l[k]) from by
              rw [← HY.out]
              exact ahB_iff.1 HQ2.out.symm)
            have HP := Lib.hid (PutAt.new HH.out.2 HP.out hkl HLT.out)
            rw [← HY.out] at HP
            have x0 : w4.cell? ⟨w.heap.size, 0, none⟩ = some (.int .i64 x.node) := HL.out.bx.cell 0
            have x1 : w4.cell? ⟨w.heap.size, 1, none⟩ = some (.int .i64 x.n) := HL.out.bx.cell 1
            have x2 : w4.cell? ⟨w.heap.size, 2, none⟩ = some (.string x.id) := HL.out.bx.cell 2
            go_wp2_with (at_builtin; refine wpList_append_sl rfl _ _ _ 23 (by rfl) el_tok (base := w.heap.size + 1) (.slice ao (n) c) (n) (rowCells vTok (o)) (by rfl) (HL.out.sl.alloc _) _ 1 [.int .i64 x.node, .int .i64 x.n, .string x.id] (by rfl) (SrcIs.own Tryz.underlying23 (SlIs.made (base := 0) (BlkIs.new _ _ _) (Nat.zero_le _) rfl (by decide))) (by intro u hu; simp at hu; rcases hu with rfl | rfl | rfl <;> rfl) (by unfold maxLen; omega) (by omega) (by have := HL.out.bx.lt; simp; omega) ?_)
            intro v5 w5 hs hg hat
            have HL := Lib.hid (HL.out.app (y := x) hs hg)
            obtain ⟨ao5, c5, rfl, -, -, -⟩ := hs.form
            clear hs hg hat
            clear x0 x1 x2
            have u0 : w5.cell? ⟨g, off + k * 3, none⟩ = some (.int .i64 y.node) := (HL.out.below.cell (p := ⟨g, off + k * 3, none⟩) HGL.out).trans HU0.out
            have u1 : w5.cell? ⟨g, off + k * 3 + 1, none⟩ = some (.int .i64 y.n) := (HL.out.below.cell (p := ⟨g, off + k * 3 + 1, none⟩) HGL.out).trans HU1.out
            have u2 : w5.cell? ⟨g, off + k * 3 + 2, none⟩ = some (.string y.id) := (HL.out.below.cell (p := ⟨g, off + k * 3 + 2, none⟩) HGL.out).trans HU2.out
            go_wp2_with (at_builtin; refine wpList_append_sl rfl _ _ _ 23 (by rfl) el_tok (base := w.heap.size + 1) (.slice ao5 (n + 1) c5) (n + 1) (rowCells vTok (o ++ [x])) (by rfl) (HL.out.sl.alloc _) _ 1 [.int .i64 y.node, .int .i64 y.n, .string y.id] (by rfl) (SrcIs.own Tryz.underlying23 (SlIs.made (base := 0) (BlkIs.new _ _ _) (Nat.zero_le _) rfl (by decide))) (by intro u hu; simp at hu; rcases hu with rfl | rfl | rfl <;> rfl) (by unfold maxLen; omega) (by omega) (by have := HL.out.bx.lt; simp; omega) ?_)
            intro v6 w6 hs hg hat
            have HL := Lib.hid (HL.out.app (y := y) hs hg)
            obtain ⟨ao6, c6, rfl, -, -, -⟩ := hs.form
            clear hs hg hat
            clear u0 u1 u2
            go_wp2_with fail
            exact ⟨⟨k + 1, n + 1 + 1, c6, true, ao6, o ++ [x] ++ [y], rfl, rfl, by simp, by omega, (fun h => by cases h), by omega, HL, HP⟩, by simp [intOf]; omega⟩
          | false =>
            have HLT := Lib.hid (show ¬ El.lt (kTok x) (kTok l[k]) from by
              rw [← HY.out]
              exact fun h => by have h1 := HQ2.out; rw [ahB_iff.2 h] at h1; cases h1)
            have HP := Lib.hid (PutAt.low HP.out hkl HNE.out HLT.out)
            rw [← HY.out] at HP
            have u0 : w4.cell? ⟨g, off + k * 3, none⟩ = some (.int .i64 y.node) := (HL.out.below.cell (p := ⟨g, off + k * 3, none⟩) HGL.out).trans HU0.out
            have u1 : w4.cell? ⟨g, off + k * 3 + 1, none⟩ = some (.int .i64 y.n) := (HL.out.below.cell (p := ⟨g, off + k * 3 + 1, none⟩) HGL.out).trans HU1.out
            have u2 : w4.cell? ⟨g, off + k * 3 + 2, none⟩ = some (.string y.id) := (HL.out.below.cell (p := ⟨g, off + k * 3 + 2, none⟩) HGL.out).trans HU2.out
            go_wp2_with (at_builtin; refine wpList_append_sl rfl _ _ _ 23 (by rfl) el_tok (base := w.heap.size + 1) (.slice ao (n) c) (n) (rowCells vTok (o)) (by rfl) (HL.out.sl.alloc _) _ 1 [.int .i64 y.node, .int .i64 y.n, .string y.id] (by rfl) (SrcIs.own Tryz.underlying23 (SlIs.made (base := 0) (BlkIs.new _ _ _) (Nat.zero_le _) rfl (by decide))) (by intro u hu; simp at hu; rcases hu with rfl | rfl | rfl <;> rfl) (by unfold maxLen; omega) (by omega) (by have := HL.out.bx.lt; simp; omega) ?_)
            intro v5 w5 hs hg hat
            have HL := Lib.hid (HL.out.app (y := y) hs hg)
            obtain ⟨ao5, c5, rfl, -, -, -⟩ := hs.form
            clear hs hg hat
            clear u0 u1 u2
            go_wp2_with fail
            exact ⟨⟨k + 1, n + 1, c5, false, ao5, o ++ [y], rfl, rfl, by simp, by omega, (fun _ => by omega), by omega, HL, HP⟩, by simp [intOf]; omega⟩
      | true =>
        cases p with
        | false =>
          have HNE := Lib.hid (show kTok l[k] ≠ kTok x from by
            rw [← HY.out]
            intro h
            have h1 : y.n = x.n := congrArg Prod.snd h
            have h2 := HQ.out.2
            rw [h1] at h2
            simp at h2)
          go_upto_region 6 with (fail)
          have a0 : ∀ X : LaterOf wr, X.w.cell? ⟨g, off + k * 3, none⟩ = some (.int .i64 y.node) := fun X => ((HL.out.later X.h).below.cell (p := ⟨g, off + k * 3, none⟩) HGL.out).trans HU0.out
          have a1 : ∀ X : LaterOf wr, X.w.cell? ⟨g, off + k * 3 + 1, none⟩ = some (.int .i64 y.n) := fun X => ((HL.out.later X.h).below.cell (p := ⟨g, off + k * 3 + 1, none⟩) HGL.out).trans HU1.out
          have a2 : ∀ X : LaterOf wr, X.w.cell? ⟨g, off + k * 3 + 2, none⟩ = some (.string y.id) := fun X => ((HL.out.later X.h).below.cell (p := ⟨g, off + k * 3 + 2, none⟩) HGL.out).trans HU2.out
          have b0 : ∀ X : LaterOf wr, X.w.cell? ⟨w.heap.size, 0, none⟩ = some (.int .i64 x.node) := fun X => (HL.out.later X.h).bx.cell 0
          have b1 : ∀ X : LaterOf wr, X.w.cell? ⟨w.heap.size, 1, none⟩ = some (.int .i64 x.n) := fun X => (HL.out.later X.h).bx.cell 1
          have b2 : ∀ X : LaterOf wr, X.w.cell? ⟨w.heap.size, 2, none⟩ = some (.string x.id) := fun X => (HL.out.later X.h).bx.cell 2
          refine wp_region_all (fun w' => ∃ X : LaterOf wr, w' = X.w) (by kernel_rfl) (by kernel_rfl) ⟨LaterOf.start wr, rfl⟩ ?_
          repeat (go_big_quiet_step (first | with_reducible rfl))
          refine wpQuiet_nil ?_
          intro ww hw
          obtain ⟨X, rfl⟩ := hw
          have HL := Lib.hid (HL.out.later X.h)
          obtain ⟨w3, hx⟩ := X
          dsimp only at HL
          clear a0 a1 a2 b0 b1 b2
          clear hq' hp'
          cases put with
          | true =>
            have HP := Lib.hid (PutAt.on mTok_key HH.out.2 HP.out hkl HNE.out)
            rw [← HY.out] at HP
            go_upto_region 8 with (fail)
            have a0 : ∀ X : LaterOf w3, X.w.cell? ⟨g, off + k * 3, none⟩ = some (.int .i64 y.node) := fun X => ((HL.out.later X.h).below.cell (p := ⟨g, off + k * 3, none⟩) HGL.out).trans HU0.out
            have a1 : ∀ X : LaterOf w3, X.w.cell? ⟨g, off + k * 3 + 1, none⟩ = some (.int .i64 y.n) := fun X => ((HL.out.later X.h).below.cell (p := ⟨g, off + k * 3 + 1, none⟩) HGL.out).trans HU1.out
            have a2 : ∀ X : LaterOf w3, X.w.cell? ⟨g, off + k * 3 + 2, none⟩ = some (.string y.id) := fun X => ((HL.out.later X.h).below.cell (p := ⟨g, off + k * 3 + 2, none⟩) HGL.out).trans HU2.out
            have b0 : ∀ X : LaterOf w3, X.w.cell? ⟨w.heap.size, 0, none⟩ = some (.int .i64 x.node) := fun X => (HL.out.later X.h).bx.cell 0
            have b1 : ∀ X : LaterOf w3, X.w.cell? ⟨w.heap.size, 1, none⟩ = some (.int .i64 x.n) := fun X => (HL.out.later X.h).bx.cell 1
            have b2 : ∀ X : LaterOf w3, X.w.cell? ⟨w.heap.size, 2, none⟩ = some (.string x.id) := fun X => (HL.out.later X.h).bx.cell 2
            refine wp_region_all (fun w' => ∃ X : LaterOf w3, w' = X.w) (by kernel_rfl) (by kernel_rfl) ⟨LaterOf.start w3, rfl⟩ ?_
            repeat (go_big_quiet_step (first | with_reducible rfl))
            refine wpQuiet_nil ?_
            intro ww hw
            obtain ⟨X, rfl⟩ := hw
            have HL := Lib.hid (HL.out.later X.h)
            obtain ⟨w4, hx⟩ := X
            dsimp only at HL
            clear a0 a1 a2 b0 b1 b2
            have u0 : w4.cell? ⟨g, off + k * 3, none⟩ = some (.int .i64 y.node) := (HL.out.below.cell (p := ⟨g, off + k * 3, none⟩) HGL.out).trans HU0.out
            have u1 : w4.cell? ⟨g, off + k * 3 + 1, none⟩ = some (.int .i64 y.n) := (HL.out.below.cell (p := ⟨g, off + k * 3 + 1, none⟩) HGL.out).trans HU1.out
            have u2 : w4.cell? ⟨g, off + k * 3 + 2, none⟩ = some (.string y.id) := (HL.out.below.cell (p := ⟨g, off + k * 3 + 2, none⟩) HGL.out).trans HU2.out
            go_wp2_with (at_builtin; refine wpList_append_sl rfl _ _ _ 23 (by rfl) el_tok (base := w.heap.size + 1) (.slice ao (n) c) (n) (rowCells vTok (o)) (by rfl) (HL.out.sl.alloc _) _ 1 [.int .i64 y.node, .int .i64 y.n, .string y.id] (by rfl) (SrcIs.own Tryz.underlying23 (SlIs.made (base := 0) (BlkIs.new _ _ _) (Nat.zero_le _) rfl (by decide))) (by intro u hu; simp at hu; rcases hu with rfl | rfl | rfl <;> rfl) (by unfold maxLen; omega) (by omega) (by have := HL.out.bx.lt; simp; omega) ?_)
            intro v5 w5 hs hg hat
            have HL := Lib.hid (HL.out.app (y := y) hs hg)
            obtain ⟨ao5, c5, rfl, -, -, -⟩ := hs.form
            clear hs hg hat
            clear u0 u1 u2
            go_wp2_with fail
            exact ⟨⟨k + 1, n + 1, c5, true, ao5, o ++ [y], rfl, rfl, by simp, by omega, (fun h => by cases h), by omega, HL, HP⟩, by simp [intOf]; omega⟩
          | false =>
            have hnk2 : n ≤ k := hpn rfl
            obtain ⟨q2, hq2⟩ : ∃ q, q = ahB x.node x.n y.node y.n := ⟨_, rfl⟩
            have T := Lib.hid (show ∀ X : LaterOf w3, Calls Tryz.prog 77 #[.int .i64 x.node, .int .i64 x.n, .int .i64 y.node, .int .i64 y.n] X.w fun e w' => e = .returned (.bool q2) ∧ Below X.w.heap.size X.w w' from fun X => by rw [hq2]; exact ahead_any _ _ _ _ X.w)
            have HQ2 := Lib.hid hq2
            clear hq2
            go_upto_region 8 with (fail)
            have a0 : ∀ X : LaterOf w3, X.w.cell? ⟨g, off + k * 3, none⟩ = some (.int .i64 y.node) := fun X => ((HL.out.later X.h).below.cell (p := ⟨g, off + k * 3, none⟩) HGL.out).trans HU0.out
            have a1 : ∀ X : LaterOf w3, X.w.cell? ⟨g, off + k * 3 + 1, none⟩ = some (.int .i64 y.n) := fun X => ((HL.out.later X.h).below.cell (p := ⟨g, off + k * 3 + 1, none⟩) HGL.out).trans HU1.out
            have a2 : ∀ X : LaterOf w3, X.w.cell? ⟨g, off + k * 3 + 2, none⟩ = some (.string y.id) := fun X => ((HL.out.later X.h).below.cell (p := ⟨g, off + k * 3 + 2, none⟩) HGL.out).trans HU2.out
            have b0 : ∀ X : LaterOf w3, X.w.cell? ⟨w.heap.size, 0, none⟩ = some (.int .i64 x.node) := fun X => (HL.out.later X.h).bx.cell 0
            have b1 : ∀ X : LaterOf w3, X.w.cell? ⟨w.heap.size, 1, none⟩ = some (.int .i64 x.n) := fun X => (HL.out.later X.h).bx.cell 1
            have b2 : ∀ X : LaterOf w3, X.w.cell? ⟨w.heap.size, 2, none⟩ = some (.string x.id) := fun X => (HL.out.later X.h).bx.cell 2
            refine wp_region_all (fun w' => ∃ X : LaterOf w3, w' = X.w) (by kernel_rfl) (by kernel_rfl) ⟨LaterOf.start w3, rfl⟩ ?_
            repeat (go_big_quiet_step (first | with_reducible rfl | with_reducible exact LaterOf.call _ (T.out _)))
            refine wpQuiet_nil ?_
            intro ww hw
            obtain ⟨X, rfl⟩ := hw
            have HL := Lib.hid (HL.out.later X.h)
            obtain ⟨w4, hx⟩ := X
            dsimp only at HL
            clear a0 a1 a2 b0 b1 b2
            clear T
            cases q2 with
            | true =>
              have HLT := Lib.hid (show El.lt (kTok x) (kTok l[k]) from by
                rw [← HY.out]
                exact ahB_iff.1 HQ2.out.symm)
              have HP := Lib.hid (PutAt.new HH.out.2 HP.out hkl HLT.out)
              rw [← HY.out] at HP
              have x0 : w4.cell? ⟨w.heap.size, 0, none⟩ = some (.int .i64 x.node) := HL.out.bx.cell 0
              have x1 : w4.cell? ⟨w.heap.size, 1, none⟩ = some (.int .i64 x.n) := HL.out.bx.cell 1
              have x2 : w4.cell? ⟨w.heap.size, 2, none⟩ = some (.string x.id) := HL.out.bx.cell 2
              go_wp2_with (at_builtin; refine wpList_append_sl rfl _ _ _ 23 (by rfl) el_tok (base := w.heap.size + 1) (.slice ao (n) c) (n) (rowCells vTok (o)) (by rfl) (HL.out.sl.alloc _) _ 1 [.int .i64 x.node, .int .i64 x.n, .string x.id] (by rfl) (SrcIs.own Tryz.underlying23 (SlIs.made (base := 0) (BlkIs.new _ _ _) (Nat.zero_le _) rfl (by decide))) (by intro u hu; simp at hu; rcases hu with rfl | rfl | rfl <;> rfl) (by unfold maxLen; omega) (by omega) (by have := HL.out.bx.lt; simp; omega) ?_)
              intro v5 w5 hs hg hat
              have HL := Lib.hid (HL.out.app (y := x) hs hg)
              obtain ⟨ao5, c5, rfl, -, -, -⟩ := hs.form
              clear hs hg hat
              clear x0 x1 x2
              have u0 : w5.cell? ⟨g, off + k * 3, none⟩ = some (.int .i64 y.node) := (HL.out.below.cell (p := ⟨g, off + k * 3, none⟩) HGL.out).trans HU0.out
              have u1 : w5.cell? ⟨g, off + k * 3 + 1, none⟩ = some (.int .i64 y.n) := (HL.out.below.cell (p := ⟨g, off + k * 3 + 1, none⟩) HGL.out).trans HU1.out
              have u2 : w5.cell? ⟨g, off + k * 3 + 2, none⟩ = some (.string y.id) := (HL.out.below.cell (p := ⟨g, off + k * 3 + 2, none⟩) HGL.out).trans HU2.out
              go_wp2_with (at_builtin; refine wpList_append_sl rfl _ _ _ 23 (by rfl) el_tok (base := w.heap.size + 1) (.slice ao5 (n + 1) c5) (n + 1) (rowCells vTok (o ++ [x])) (by rfl) (HL.out.sl.alloc _) _ 1 [.int .i64 y.node, .int .i64 y.n, .string y.id] (by rfl) (SrcIs.own Tryz.underlying23 (SlIs.made (base := 0) (BlkIs.new _ _ _) (Nat.zero_le _) rfl (by decide))) (by intro u hu; simp at hu; rcases hu with rfl | rfl | rfl <;> rfl) (by unfold maxLen; omega) (by omega) (by have := HL.out.bx.lt; simp; omega) ?_)
              intro v6 w6 hs hg hat
              have HL := Lib.hid (HL.out.app (y := y) hs hg)
              obtain ⟨ao6, c6, rfl, -, -, -⟩ := hs.form
              clear hs hg hat
              clear u0 u1 u2
              go_wp2_with fail
              exact ⟨⟨k + 1, n + 1 + 1, c6, true, ao6, o ++ [x] ++ [y], rfl, rfl, by simp, by omega, (fun h => by cases h), by omega, HL, HP⟩, by simp [intOf]; omega⟩
            | false =>
              have HLT := Lib.hid (show ¬ El.lt (kTok x) (kTok l[k]) from by
                rw [← HY.out]
                exact fun h => by have h1 := HQ2.out; rw [ahB_iff.2 h] at h1; cases h1)
              have HP := Lib.hid (PutAt.low HP.out hkl HNE.out HLT.out)
              rw [← HY.out] at HP
              have u0 : w4.cell? ⟨g, off + k * 3, none⟩ = some (.int .i64 y.node) := (HL.out.below.cell (p := ⟨g, off + k * 3, none⟩) HGL.out).trans HU0.out
              have u1 : w4.cell? ⟨g, off + k * 3 + 1, none⟩ = some (.int .i64 y.n) := (HL.out.below.cell (p := ⟨g, off + k * 3 + 1, none⟩) HGL.out).trans HU1.out
              have u2 : w4.cell? ⟨g, off + k * 3 + 2, none⟩ = some (.string y.id) := (HL.out.below.cell (p := ⟨g, off + k * 3 + 2, none⟩) HGL.out).trans HU2.out
              go_wp2_with (at_builtin; refine wpList_append_sl rfl _ _ _ 23 (by rfl) el_tok (base := w.heap.size + 1) (.slice ao (n) c) (n) (rowCells vTok (o)) (by rfl) (HL.out.sl.alloc _) _ 1 [.int .i64 y.node, .int .i64 y.n, .string y.id] (by rfl) (SrcIs.own Tryz.underlying23 (SlIs.made (base := 0) (BlkIs.new _ _ _) (Nat.zero_le _) rfl (by decide))) (by intro u hu; simp at hu; rcases hu with rfl | rfl | rfl <;> rfl) (by unfold maxLen; omega) (by omega) (by have := HL.out.bx.lt; simp; omega) ?_)
              intro v5 w5 hs hg hat
              have HL := Lib.hid (HL.out.app (y := y) hs hg)
              obtain ⟨ao5, c5, rfl, -, -, -⟩ := hs.form
              clear hs hg hat
              clear u0 u1 u2
              go_wp2_with fail
              exact ⟨⟨k + 1, n + 1, c5, false, ao5, o ++ [y], rfl, rfl, by simp, by omega, (fun _ => by omega), by omega, HL, HP⟩, by simp [intOf]; omega⟩
        | true =>
          go_upto_region 6 with (fail)
          have a0 : ∀ X : LaterOf wr, X.w.cell? ⟨g, off + k * 3, none⟩ = some (.int .i64 y.node) := fun X => ((HL.out.later X.h).below.cell (p := ⟨g, off + k * 3, none⟩) HGL.out).trans HU0.out
          have a1 : ∀ X : LaterOf wr, X.w.cell? ⟨g, off + k * 3 + 1, none⟩ = some (.int .i64 y.n) := fun X => ((HL.out.later X.h).below.cell (p := ⟨g, off + k * 3 + 1, none⟩) HGL.out).trans HU1.out
          have a2 : ∀ X : LaterOf wr, X.w.cell? ⟨g, off + k * 3 + 2, none⟩ = some (.string y.id) := fun X => ((HL.out.later X.h).below.cell (p := ⟨g, off + k * 3 + 2, none⟩) HGL.out).trans HU2.out
          have b0 : ∀ X : LaterOf wr, X.w.cell? ⟨w.heap.size, 0, none⟩ = some (.int .i64 x.node) := fun X => (HL.out.later X.h).bx.cell 0
          have b1 : ∀ X : LaterOf wr, X.w.cell? ⟨w.heap.size, 1, none⟩ = some (.int .i64 x.n) := fun X => (HL.out.later X.h).bx.cell 1
          have b2 : ∀ X : LaterOf wr, X.w.cell? ⟨w.heap.size, 2, none⟩ = some (.string x.id) := fun X => (HL.out.later X.h).bx.cell 2
          refine wp_region_all (fun w' => ∃ X : LaterOf wr, w' = X.w) (by kernel_rfl) (by kernel_rfl) ⟨LaterOf.start wr, rfl⟩ ?_
          repeat (go_big_quiet_step (first | with_reducible rfl))
          refine wpQuiet_nil ?_
          intro ww hw
          obtain ⟨X, rfl⟩ := hw
          have HL := Lib.hid (HL.out.later X.h)
          obtain ⟨w3, hx⟩ := X
          dsimp only at HL
          clear a0 a1 a2 b0 b1 b2
          clear hq' hp'
          have HKE := Lib.hid (show y.node = x.node ∧ y.n = x.n from ⟨by simpa using HQ.out.1.symm, by simpa using HQ.out.2.symm⟩)
          obtain ⟨q2, hq2⟩ : ∃ q, q = (y.id.toList == x.id.toList) := ⟨_, rfl⟩
          have hq2' := hq2.symm
          have HQ2 := Lib.hid hq2
          clear hq2
          go_upto_region 7 with (fail)
          have a0 : ∀ X : LaterOf w3, X.w.cell? ⟨g, off + k * 3, none⟩ = some (.int .i64 y.node) := fun X => ((HL.out.later X.h).below.cell (p := ⟨g, off + k * 3, none⟩) HGL.out).trans HU0.out
          have a1 : ∀ X : LaterOf w3, X.w.cell? ⟨g, off + k * 3 + 1, none⟩ = some (.int .i64 y.n) := fun X => ((HL.out.later X.h).below.cell (p := ⟨g, off + k * 3 + 1, none⟩) HGL.out).trans HU1.out
          have a2 : ∀ X : LaterOf w3, X.w.cell? ⟨g, off + k * 3 + 2, none⟩ = some (.string y.id) := fun X => ((HL.out.later X.h).below.cell (p := ⟨g, off + k * 3 + 2, none⟩) HGL.out).trans HU2.out
          have b0 : ∀ X : LaterOf w3, X.w.cell? ⟨w.heap.size, 0, none⟩ = some (.int .i64 x.node) := fun X => (HL.out.later X.h).bx.cell 0
          have b1 : ∀ X : LaterOf w3, X.w.cell? ⟨w.heap.size, 1, none⟩ = some (.int .i64 x.n) := fun X => (HL.out.later X.h).bx.cell 1
          have b2 : ∀ X : LaterOf w3, X.w.cell? ⟨w.heap.size, 2, none⟩ = some (.string x.id) := fun X => (HL.out.later X.h).bx.cell 2
          refine wp_region_all (fun w' => ∃ X : LaterOf w3, w' = X.w) (by kernel_rfl) (by kernel_rfl) ⟨LaterOf.start w3, rfl⟩ ?_
          repeat (go_big_quiet_step (first | with_reducible rfl))
          refine wpQuiet_nil ?_
          intro ww hw
          obtain ⟨X, rfl⟩ := hw
          have HL := Lib.hid (HL.out.later X.h)
          obtain ⟨w4, hx⟩ := X
          dsimp only at HL
          clear a0 a1 a2 b0 b1 b2
          clear hq2'
          go_wp2_with fail
          refine bodyPost_ret (v := .tuple #[.slice (some ⟨g, off, none⟩) n0 lc, .bool q2]) (by simp [results, Tryz.results26, go_sem]) rfl ?_
          refine ⟨_, l, q2, rfl, ?_, ?_, HL.out.below⟩
          · have h1 := HH.out.1.later HL.out.below
            exact h1
          · cases q2 with
            | true =>
              left
              have h1 : y.id = x.id := bytes_eq.1 HQ2.out.symm
              have h2 : y = x := by
                obtain ⟨a, b, c⟩ := y
                obtain ⟨a', b', c'⟩ := x
                have h3 := HKE.out
                dsimp only at h1 h3
                rw [h1, h3.1, h3.2]
              exact ⟨rfl, join_same HH.out.2 (by rw [← h2, HY.out]; exact List.getElem_mem hkl) (by unfold mTok; rw [if_pos rfl])⟩
            | false =>
              right
              refine ⟨rfl, kTok x, y, x, ?_, ?_, ?_⟩
              · rw [show kTok x = kTok y from by unfold kTok; rw [HKE.out.1, HKE.out.2]]
                exact gk_mem (rk_uk HH.out.2) (by rw [HY.out]; exact List.getElem_mem hkl)
              · rw [gk_one, if_pos rfl]
              · unfold mTok
                rw [if_neg]
                intro h
                have h1 := HQ2.out
                rw [bytes_eq.2 (show y.id = x.id from by rw [h])] at h1
                cases h1
    · have ki : ¬ ((k : Int) < n0) := by omega
      have ki2 : decide ((k : Int) < n0) = false := decide_eq_false ki
      obtain rfl : k = n0 := Nat.le_antisymm hkn hge
      have hp1 := HP.out
      rw [HN.out] at hp1
      have HP := Lib.hid hp1
      clear ki hp1
      cases put with
      | true =>
        go_wp2_with fail
        refine bodyPost_ret (v := .tuple #[.slice ao n c, .bool true]) (by simp [results, Tryz.results26, go_sem]) rfl ?_
        refine ⟨_, o, true, rfl, RowAt.of_sl (base := w.heap.size + 1) (e := 45) (fun _ => rfl) ?_, .inl ⟨rfl, PutAt.done HP.out⟩, HL.out.below⟩
        have h1 := HL.out.sl
        rwa [HL.out.len] at h1 ⊢
      | false =>
        have x0 : wr.cell? ⟨w.heap.size, 0, none⟩ = some (.int .i64 x.node) := HL.out.bx.cell 0
        have x1 : wr.cell? ⟨w.heap.size, 1, none⟩ = some (.int .i64 x.n) := HL.out.bx.cell 1
        have x2 : wr.cell? ⟨w.heap.size, 2, none⟩ = some (.string x.id) := HL.out.bx.cell 2
        go_wp2_with (at_builtin; refine wpList_append_sl rfl _ _ _ 23 (by rfl) el_tok (base := w.heap.size + 1) (.slice ao (n) c) (n) (rowCells vTok (o)) (by rfl) (HL.out.sl.alloc _) _ 1 [.int .i64 x.node, .int .i64 x.n, .string x.id] (by rfl) (SrcIs.own Tryz.underlying23 (SlIs.made (base := 0) (BlkIs.new _ _ _) (Nat.zero_le _) rfl (by decide))) (by intro u hu; simp at hu; rcases hu with rfl | rfl | rfl <;> rfl) (by unfold maxLen; omega) (by omega) (by have := HL.out.bx.lt; simp; omega) ?_)
        intro v5 w5 hs hg hat
        have HL := Lib.hid (HL.out.app (y := x) hs hg)
        obtain ⟨ao5, c5, rfl, -, -, -⟩ := hs.form
        clear hs hg hat
        clear x0 x1 x2
        go_wp2_with fail
        refine bodyPost_ret (v := .tuple #[.slice ao5 (n + 1) c5, .bool true]) (by simp [results, Tryz.results26, go_sem]) rfl ?_
        refine ⟨_, o ++ [x], true, rfl, RowAt.of_sl (base := w.heap.size + 1) (e := 45) (fun _ => rfl) ?_, .inl ⟨rfl, PutAt.last HH.out.2 HP.out⟩, HL.out.below⟩
        have h1 := HL.out.sl
        rwa [HL.out.len] at h1 ⊢
end Go.Proofs.YtbmknmjcoeinkaaGreat.Mg

/- The reference's tomb, walked: tombs with one more. Printed by gen_mgtomb.py. (Layer 13.) -/
namespace Go.Proofs.YtbmknmjcoeinkaaGreat.Mg
set_option linter.unusedVariables false
set_option linter.unusedSimpArgs false
open Go.RowKit Go.Lib
open Mk (Rf Tok Tb TbR vRf vTok vTb vInt bytes_eq tombB tombB_at tokensB_at eqB eqB_yes eqB_iff tokens_same TombsAt aTb)
open Set (El)
theorem tomb_rise {t : Tb} (h : tombB t = true) : t.acks.Pairwise El.lt := acks_rise.1 (tombB_at h).2.2.2.2
theorem tomb_small {t : Tb} (h : tombB t = true) : t.cov.length ≤ 256 ∧ t.acks.length ≤ 7 := by
  have h1 := tombB_at h
  have h2 := few_rise t.acks 1 7 (tomb_rise h) h1.2.2.2.1
  exact ⟨(tokensB_at h1.2.1).1, by omega⟩
theorem plus_none {t : Tb} {l : List Int} (h : t.acks.Pairwise El.lt) : plus t (l.take 0) = t := by
  unfold plus
  rw [sortU_eq h fun x => by simp]
theorem sortU_more (a b : List Int) (n : Int) : sortU (sortU (a ++ b) ++ [n]) = sortU (a ++ (b ++ [n])) := sortU_eq (sortU_rise _) fun x => by
  simp only [List.mem_append, mem_sortU, or_assoc]
/-- Where the reference stands that lays tombs anew. -/
structure RbSt (w : World) (xc : Array Value) (v : Value) (n : Nat) (o : List TbR) (wr : World) : Prop where
  st : RpSt vTb 5 43 w xc v n o wr
  kept : ∀ z ∈ o, Kept w wr z
section
variable {w wr w' : World} {xc : Array Value} {v v' : Value} {n : Nat} {o : List TbR}
theorem RbSt.below (h : RbSt w xc v n o wr) : Below w.heap.size w wr := h.st.below
theorem RbSt.bx (h : RbSt w xc v n o wr) : BlkIs wr w.heap.size 43 xc := h.st.bx
theorem RbSt.sl (h : RbSt w xc v n o wr) : SlIs wr (w.heap.size + 1) 43 5 v n (rowCells vTb o) := h.st.sl
theorem RbSt.later (h : RbSt w xc v n o wr) (hb : Below wr.heap.size wr w') : RbSt w xc v n o w' := ⟨h.st.later hb, fun z hz => (h.kept z hz).later hb⟩
theorem RbSt.app (h : RbSt w xc v n o wr) {y : TbR} {ob : Obj} (hk : Kept w wr y) (hs : SlIs w' (w.heap.size + 1) 43 5 v' (n + 1) (rowCells vTb o ++ vTb y)) (hg : (wr.alloc ob).grownBy w' v.ownBlock) : RbSt w xc v' (n + 1) (o ++ [y]) w' :=
  ⟨h.st.app hs hg, fun z hz => by
    have k : Kept w wr z := (List.mem_append.1 hz).elim (h.kept z) fun e => by rw [List.mem_singleton.1 e]; exact hk
    exact (k.later ((Below.refl _ _).alloc (Nat.le_refl _) ob)).grown (h.sl.alloc ob) hg⟩
theorem RbSt.cell4 (h : RbSt w xc v n o wr) {g : Nat} {cs : Array Value} (hg : BlkIs wr g 43 cs) (hn : v.ownBlock ≠ some g) (hB : w.heap.size < g) (u : Value) : RbSt w xc v n o (wr.setCell ⟨g, 4, none⟩ u) :=
  ⟨⟨h.below.setCell (Nat.le_of_lt hB) _, h.bx.far (Nat.ne_of_lt hB) _, h.sl.far hn _, h.st.len⟩, fun z hz => (h.kept z hz).put hg (by decide) (by decide) _ _⟩
theorem RbSt.tombs (h : RbSt w xc v n o wr) : TombsAt wr v o := ⟨RowAt.of_sl (base := w.heap.size + 1) (e := 43) (fun _ => rfl) (by have h1 := h.sl; rwa [h.st.len] at h1), fun z hz => (h.kept z hz).reads h.below⟩
theorem Kept.short {ty tx : Tb} {cv av : Value} {j : Nat} (_ : Kept w wr ⟨plus ty (tx.acks.take j), cv, av⟩) (hy : tombB ty = true) (hx : tombB tx = true) : (sortU (ty.acks ++ tx.acks.take j)).length ≤ 7 := by
  have h1 : tombB (plus ty (tx.acks.take j)) = true := tombB_plus hy fun n hn => isNode_of hx n (List.mem_of_mem_take hn)
  exact (tomb_small h1).2
theorem Kept.one_more {ty tx : Tb} {cv v4 v6 : Value} {j : Nat} {nv : Int} {w1 : World} (h : Kept w w' ⟨plus ty (tx.acks.take j), cv, v4⟩) (hw : w.heap.size + 1 ≤ w1.heap.size) (hj : j < tx.acks.length) (hn : nv = tx.acks[j])
    (hv : (v6 = v4 ∧ sortU (sortU (ty.acks ++ tx.acks.take j) ++ [nv]) = sortU (ty.acks ++ tx.acks.take j)) ∨ SlIs w' w1.heap.size 3 1 v6 (sortU (sortU (ty.acks ++ tx.acks.take j) ++ [nv])).length (rowCells vInt (sortU (sortU (ty.acks ++ tx.acks.take j) ++ [nv])))) :
    Kept w w' ⟨plus ty (tx.acks.take (j + 1)), cv, v6⟩ := by
  have e : (plus ty (tx.acks.take (j + 1))).acks = sortU (sortU (ty.acks ++ tx.acks.take j) ++ [nv]) := by
    rw [sortU_more, Mk.take_snoc' hj, ← hn]
    rfl
  refine ⟨h.cv, ?_⟩
  show RowAt 1 vInt w v6 (plus ty (tx.acks.take (j + 1))).acks ∨ SlIs w' (w.heap.size + 1) 3 1 v6 (plus ty (tx.acks.take (j + 1))).acks.length (rowCells vInt (plus ty (tx.acks.take (j + 1))).acks)
  rw [e]
  rcases hv with ⟨rfl, h2⟩ | hv
  · rw [h2]
    exact h.av
  · exact .inr (hv.mono hw)
end
theorem mapd {l : List Tb} {x : Tb} {k : Nat} {o : List TbR} {z : TbR} {p : Bool} (h : Hid (PutAt kTb mTb l x k (o.map (·.t) ++ [z.t]) p)) : Hid (PutAt kTb mTb l x k ((o ++ [z]).map (·.t)) p) := by
  rw [List.map_append]
  exact h
theorem mapd2 {l : List Tb} {x : Tb} {k : Nat} {o : List TbR} {y z : TbR} {p : Bool} (h : Hid (PutAt kTb mTb l x k (o.map (·.t) ++ [y.t] ++ [z.t]) p)) : Hid (PutAt kTb mTb l x k ((o ++ [y] ++ [z]).map (·.t)) p) := by
  rw [List.map_append, List.map_append]
  exact h
/-- What the reference's tomb tells. -/
def TbPut (l : List TbR) (x : TbR) (w w' : World) (e : Ending) : Prop :=
  ∃ v' o q, e = .returned (.tuple #[v', .bool q]) ∧ TombsAt w' v' o ∧ ((q = true ∧ JoinIs kTb mTb (l.map (·.t)) [x.t] (o.map (·.t))) ∨ (q = false ∧ Clash kTb mTb (l.map (·.t)) [x.t])) ∧ Below w.heap.size w w'
set_option maxRecDepth 100000 in
set_option maxHeartbeats 16000000 in
theorem rtomb_any (v : Value) (l : List TbR) (x : TbR) (w : World) (h : TombsAt w v l) (hx : x.Reads w) (hr : Rk kTb (l.map (·.t))) (hg : ∀ z ∈ l, tombB z.t = true) (hgx : tombB x.t = true) (hn : l.length ≤ 1000000) :
    Calls Tryz.prog 27 #[v, aTb x] w fun e w' => TbPut l x w w' e := by
  have HH := Lib.hid (And.intro h hr)
  have HGD := Lib.hid (And.intro hg hgx)
  obtain ⟨lo, lc, rfl, -, -⟩ := h.1.form
  obtain ⟨n0, hn0⟩ : ∃ n, n = l.length := ⟨_, rfl⟩
  rw [← hn0] at HH hn ⊢
  have HN := Lib.hid hn0
  obtain ⟨tx, xcv, xav⟩ := x
  have hx : RowAt 3 vTok w xcv tx.cov ∧ RowAt 1 vInt w xav tx.acks := hx
  obtain ⟨xp3, xm3, rfl, -, -⟩ := hx.1.form
  obtain ⟨xp4, xm4, rfl, -, -⟩ := hx.2.form
  have hxs := tomb_small hgx
  dsimp only at hx hgx HGD hxs ⊢
  obtain ⟨xl3, fx3⟩ : ∃ q, q = tx.cov.length := ⟨_, rfl⟩
  obtain ⟨xl4, fx4⟩ : ∃ q, q = tx.acks.length := ⟨_, rfl⟩
  rw [← fx3, ← fx4] at hx hxs ⊢
  have HX := Lib.hid hx
  have HKX := Lib.hid (show ∀ W, Below w.heap.size w W → Kept w W ⟨tx, .slice xp3 xl3 xm3, .slice xp4 xl4 xm4⟩ from fun W hW => Kept.old hx)
  have HFX := Lib.hid (And.intro fx3 fx4)
  obtain ⟨W0, hW0⟩ : ∃ W0, W0 = (w.alloc (.cells #[.int .i64 tx.node, .int .i64 tx.n, .string tx.id, .slice xp3 xl3 xm3, .slice xp4 xl4 xm4] 43)).alloc (.cells #[] 43) := ⟨_, rfl⟩
  have HL0 := Lib.hid (show RbSt w #[.int .i64 tx.node, .int .i64 tx.n, .string tx.id, .slice xp3 xl3 xm3, .slice xp4 xl4 xm4] (.slice (some ⟨w.heap.size + 1, 0, none⟩) 0 0) 0 ([] : List TbR) W0 from by
    rw [hW0]
    exact ⟨⟨((Below.refl _ _).alloc (Nat.le_refl _) _).alloc (by simp) _, (BlkIs.new _ _ _).alloc _, SlIs.made (cs := #[]) (BlkIs.new2 _ _ _ _) (Nat.le_refl _) rfl (by decide), rfl⟩, fun z hz => absurd hz (by simp)⟩)
  have HW0 := Lib.hid hW0
  clear h hr hn0 hW0 hx hg hgx fx3 fx4
  show Calls Tryz.prog 27 #[.slice lo n0 lc, .agg #[.int .i64 tx.node, .int .i64 tx.n, .string tx.id, .slice xp3 xl3 xm3, .slice xp4 xl4 xm4]] w fun e w' => TbPut l ⟨tx, .slice xp3 xl3 xm3, .slice xp4 xl4 xm4⟩ w w' e
  go_enter Tryz.func27, Tryz.ntmps27
  go_upto_region 2 with (fail)
  rw [← HW0.out]
  go_wp2_with fail
  go_loopw [6, 7, 8] (fun p q i wr => ∃ (k n c : Nat) (put : Bool) (ao : Option Addr) (o : List TbR), p = .slice ao n c ∧ q = .bool put ∧ i = .int .i64 (k : Int) ∧ k ≤ n0 ∧ (put = false → n ≤ k) ∧ n ≤ k + 1 ∧ Hid (RbSt w #[.int .i64 tx.node, .int .i64 tx.n, .string tx.id, .slice xp3 xl3 xm3, .slice xp4 xl4 xm4] (.slice ao n c) n (o) wr) ∧ Hid (PutAt kTb mTb (l.map (·.t)) tx k (o.map (·.t)) put)) (fun _ _ i _ => ((n0 : Int) - intOf i).toNat)
  case atStart => exact ⟨0, 0, 0, false, _, [], rfl, rfl, rfl, Nat.zero_le _, fun _ => Nat.le_refl _, by omega, HL0, Lib.hid (PutAt.start kTb mTb (l.map (·.t)) tx)⟩
  case round =>
    obtain ⟨k, n, c, put, ao, o, rfl, rfl, rfl, hkn, hpn, hnk, HL, HP⟩ := hrel
    clear HL0
    rcases Nat.lt_or_ge k n0 with hlt | hge
    · have ki : (k : Int) < n0 := by omega
      have kw : IntKind.i64.wrap ((k : Int) + 1) = ((k + 1 : Nat) : Int) := IntWalk.i64_in _ (by omega)
      have hkl : k < l.length := by have := HN.out; omega
      have hkl2 : k < (l.map (·.t)).length := by rw [List.length_map]; exact hkl
      obtain ⟨g, off, hag, hgl, hc⟩ := HH.out.1.1.at_ (by omega)
      subst hag
      obtain ⟨y, hy⟩ : ∃ y, y = l[k] := ⟨_, rfl⟩
      have hyr : y.Reads w := by rw [hy]; exact HH.out.1.2 _ (List.getElem_mem hkl)
      have hgy : tombB y.t = true := by rw [hy]; exact HGD.out.1 _ (List.getElem_mem hkl)
      obtain ⟨ty, ycv, yav⟩ := y
      have hyr : RowAt 3 vTok w ycv ty.cov ∧ RowAt 1 vInt w yav ty.acks := hyr
      obtain ⟨yp3, ym3, rfl, -, -⟩ := hyr.1.form
      obtain ⟨yp4, ym4, rfl, -, -⟩ := hyr.2.form
      have hys := tomb_small hgy
      dsimp only at hyr hgy hys hy
      obtain ⟨yl3, fy3⟩ : ∃ q, q = ty.cov.length := ⟨_, rfl⟩
      obtain ⟨yl4, fy4⟩ : ∃ q, q = ty.acks.length := ⟨_, rfl⟩
      rw [← fy3, ← fy4] at hyr hys hy
      have HU0 := Lib.hid (show w.cell? ⟨g, off + k * 5, none⟩ = some (.int .i64 ty.node) from hc k hkl 0 _ (by rw [← hy]; rfl))
      have HU1 := Lib.hid (show w.cell? ⟨g, off + k * 5 + 1, none⟩ = some (.int .i64 ty.n) from hc k hkl 1 _ (by rw [← hy]; rfl))
      have HU2 := Lib.hid (show w.cell? ⟨g, off + k * 5 + 2, none⟩ = some (.string ty.id) from hc k hkl 2 _ (by rw [← hy]; rfl))
      have HU3 := Lib.hid (show w.cell? ⟨g, off + k * 5 + 3, none⟩ = some (.slice yp3 yl3 ym3) from hc k hkl 3 _ (by rw [← hy]; rfl))
      have HU4 := Lib.hid (show w.cell? ⟨g, off + k * 5 + 4, none⟩ = some (.slice yp4 yl4 ym4) from hc k hkl 4 _ (by rw [← hy]; rfl))
      have HGL := Lib.hid hgl
      have HY := Lib.hid (show ty = (l.map (·.t))[k] from by rw [List.getElem_map, ← hy])
      have HYR := Lib.hid (And.intro hyr (And.intro hgy (And.intro fy3 fy4)))
      have HKY := Lib.hid (show ∀ W, Below w.heap.size w W → Kept w W ⟨ty, .slice yp3 yl3 ym3, .slice yp4 yl4 ym4⟩ from fun W hW => Kept.old hyr)
      clear hc hy hgl hyr hgy fy3 fy4
      obtain ⟨q, hq⟩ : ∃ q, q = (ty.node == tx.node) := ⟨_, rfl⟩
      obtain ⟨p, hp⟩ : ∃ q, q = (ty.n == tx.n) := ⟨_, rfl⟩
      have hq' := hq.symm
      have hp' := hp.symm
      have HQ := Lib.hid (And.intro hq hp)
      clear hq hp
      cases q with
      | false =>
        have HNE := Lib.hid (show kTb (l.map (·.t))[k] ≠ kTb tx from by
          rw [← HY.out]
          intro h
          have h1 : ty.node = tx.node := congrArg Prod.fst h
          have h2 := HQ.out.1
          rw [h1] at h2
          simp at h2)
        clear hp'
        go_upto_region 6 with (fail)
        have a0 : ∀ X : LaterOf wr, X.w.cell? ⟨g, off + k * 5, none⟩ = some (.int .i64 ty.node) := fun X => ((HL.out.later X.h).below.cell (p := ⟨g, off + k * 5, none⟩) HGL.out).trans HU0.out
        have a1 : ∀ X : LaterOf wr, X.w.cell? ⟨g, off + k * 5 + 1, none⟩ = some (.int .i64 ty.n) := fun X => ((HL.out.later X.h).below.cell (p := ⟨g, off + k * 5 + 1, none⟩) HGL.out).trans HU1.out
        have a2 : ∀ X : LaterOf wr, X.w.cell? ⟨g, off + k * 5 + 2, none⟩ = some (.string ty.id) := fun X => ((HL.out.later X.h).below.cell (p := ⟨g, off + k * 5 + 2, none⟩) HGL.out).trans HU2.out
        have a3 : ∀ X : LaterOf wr, X.w.cell? ⟨g, off + k * 5 + 3, none⟩ = some (.slice yp3 yl3 ym3) := fun X => ((HL.out.later X.h).below.cell (p := ⟨g, off + k * 5 + 3, none⟩) HGL.out).trans HU3.out
        have a4 : ∀ X : LaterOf wr, X.w.cell? ⟨g, off + k * 5 + 4, none⟩ = some (.slice yp4 yl4 ym4) := fun X => ((HL.out.later X.h).below.cell (p := ⟨g, off + k * 5 + 4, none⟩) HGL.out).trans HU4.out
        have b0 : ∀ X : LaterOf wr, X.w.cell? ⟨w.heap.size, 0, none⟩ = some (.int .i64 tx.node) := fun X => (HL.out.later X.h).bx.cell 0
        have b1 : ∀ X : LaterOf wr, X.w.cell? ⟨w.heap.size, 1, none⟩ = some (.int .i64 tx.n) := fun X => (HL.out.later X.h).bx.cell 1
        have b2 : ∀ X : LaterOf wr, X.w.cell? ⟨w.heap.size, 2, none⟩ = some (.string tx.id) := fun X => (HL.out.later X.h).bx.cell 2
        have b3 : ∀ X : LaterOf wr, X.w.cell? ⟨w.heap.size, 3, none⟩ = some (.slice xp3 xl3 xm3) := fun X => (HL.out.later X.h).bx.cell 3
        have b4 : ∀ X : LaterOf wr, X.w.cell? ⟨w.heap.size, 4, none⟩ = some (.slice xp4 xl4 xm4) := fun X => (HL.out.later X.h).bx.cell 4
        refine wp_region_all (fun w' => ∃ X : LaterOf wr, w' = X.w) (by kernel_rfl) (by kernel_rfl) ⟨LaterOf.start wr, rfl⟩ ?_
        repeat (go_big_quiet_step (first | with_reducible rfl))
        refine wpQuiet_nil ?_
        intro ww hw
        obtain ⟨X, rfl⟩ := hw
        have HL := Lib.hid (HL.out.later X.h)
        obtain ⟨w3, hx⟩ := X
        dsimp only at HL
        clear a0 a1 a2 a3 a4 b0 b1 b2 b3 b4
        clear hq'
        cases put with
        | true =>
          have HP := Lib.hid (PutAt.on mTb_key HH.out.2 HP.out hkl2 HNE.out)
          rw [← HY.out] at HP
          go_upto_region 16 with (fail)
          have a0 : ∀ X : LaterOf w3, X.w.cell? ⟨g, off + k * 5, none⟩ = some (.int .i64 ty.node) := fun X => ((HL.out.later X.h).below.cell (p := ⟨g, off + k * 5, none⟩) HGL.out).trans HU0.out
          have a1 : ∀ X : LaterOf w3, X.w.cell? ⟨g, off + k * 5 + 1, none⟩ = some (.int .i64 ty.n) := fun X => ((HL.out.later X.h).below.cell (p := ⟨g, off + k * 5 + 1, none⟩) HGL.out).trans HU1.out
          have a2 : ∀ X : LaterOf w3, X.w.cell? ⟨g, off + k * 5 + 2, none⟩ = some (.string ty.id) := fun X => ((HL.out.later X.h).below.cell (p := ⟨g, off + k * 5 + 2, none⟩) HGL.out).trans HU2.out
          have a3 : ∀ X : LaterOf w3, X.w.cell? ⟨g, off + k * 5 + 3, none⟩ = some (.slice yp3 yl3 ym3) := fun X => ((HL.out.later X.h).below.cell (p := ⟨g, off + k * 5 + 3, none⟩) HGL.out).trans HU3.out
          have a4 : ∀ X : LaterOf w3, X.w.cell? ⟨g, off + k * 5 + 4, none⟩ = some (.slice yp4 yl4 ym4) := fun X => ((HL.out.later X.h).below.cell (p := ⟨g, off + k * 5 + 4, none⟩) HGL.out).trans HU4.out
          have b0 : ∀ X : LaterOf w3, X.w.cell? ⟨w.heap.size, 0, none⟩ = some (.int .i64 tx.node) := fun X => (HL.out.later X.h).bx.cell 0
          have b1 : ∀ X : LaterOf w3, X.w.cell? ⟨w.heap.size, 1, none⟩ = some (.int .i64 tx.n) := fun X => (HL.out.later X.h).bx.cell 1
          have b2 : ∀ X : LaterOf w3, X.w.cell? ⟨w.heap.size, 2, none⟩ = some (.string tx.id) := fun X => (HL.out.later X.h).bx.cell 2
          have b3 : ∀ X : LaterOf w3, X.w.cell? ⟨w.heap.size, 3, none⟩ = some (.slice xp3 xl3 xm3) := fun X => (HL.out.later X.h).bx.cell 3
          have b4 : ∀ X : LaterOf w3, X.w.cell? ⟨w.heap.size, 4, none⟩ = some (.slice xp4 xl4 xm4) := fun X => (HL.out.later X.h).bx.cell 4
          refine wp_region_all (fun w' => ∃ X : LaterOf w3, w' = X.w) (by kernel_rfl) (by kernel_rfl) ⟨LaterOf.start w3, rfl⟩ ?_
          repeat (go_big_quiet_step (first | with_reducible rfl))
          refine wpQuiet_nil ?_
          intro ww hw
          obtain ⟨X, rfl⟩ := hw
          have HL := Lib.hid (HL.out.later X.h)
          obtain ⟨w4, hx⟩ := X
          dsimp only at HL
          clear a0 a1 a2 a3 a4 b0 b1 b2 b3 b4
          have u0 : w4.cell? ⟨g, off + k * 5, none⟩ = some (.int .i64 ty.node) := (HL.out.below.cell (p := ⟨g, off + k * 5, none⟩) HGL.out).trans HU0.out
          have u1 : w4.cell? ⟨g, off + k * 5 + 1, none⟩ = some (.int .i64 ty.n) := (HL.out.below.cell (p := ⟨g, off + k * 5 + 1, none⟩) HGL.out).trans HU1.out
          have u2 : w4.cell? ⟨g, off + k * 5 + 2, none⟩ = some (.string ty.id) := (HL.out.below.cell (p := ⟨g, off + k * 5 + 2, none⟩) HGL.out).trans HU2.out
          have u3 : w4.cell? ⟨g, off + k * 5 + 3, none⟩ = some (.slice yp3 yl3 ym3) := (HL.out.below.cell (p := ⟨g, off + k * 5 + 3, none⟩) HGL.out).trans HU3.out
          have u4 : w4.cell? ⟨g, off + k * 5 + 4, none⟩ = some (.slice yp4 yl4 ym4) := (HL.out.below.cell (p := ⟨g, off + k * 5 + 4, none⟩) HGL.out).trans HU4.out
          go_wp2_with (at_builtin; refine wpList_append_sl rfl _ _ _ 24 (by rfl) el_tb (base := w.heap.size + 1) (.slice ao (n) c) (n) (rowCells vTb (o)) (by rfl) (HL.out.sl.alloc _) _ 1 [.int .i64 ty.node, .int .i64 ty.n, .string ty.id, .slice yp3 yl3 ym3, .slice yp4 yl4 ym4] (by rfl) (SrcIs.own Tryz.underlying24 (SlIs.made (base := 0) (BlkIs.new _ _ _) (Nat.zero_le _) rfl (by decide))) (by intro u hu; simp at hu; rcases hu with rfl | rfl | rfl | rfl | rfl <;> rfl) (by unfold maxLen; omega) (by omega) (by have := HL.out.bx.lt; simp; omega) ?_)
          intro v5 w5 hs hg hat
          have HL := Lib.hid (HL.out.app (y := ⟨ty, .slice yp3 yl3 ym3, .slice yp4 yl4 ym4⟩) (HKY.out _ HL.out.below) hs hg)
          obtain ⟨ao5, c5, rfl, -, -, -⟩ := hs.form
          clear hs hg hat
          clear u0 u1 u2 u3 u4
          go_wp2_with fail
          exact ⟨⟨k + 1, n + 1, c5, true, ao5, o ++ [⟨ty, .slice yp3 yl3 ym3, .slice yp4 yl4 ym4⟩], rfl, rfl, by simp, by omega, (fun h => by cases h), by omega, HL, mapd HP⟩, by simp [intOf]; omega⟩
        | false =>
          have hnk2 : n ≤ k := hpn rfl
          obtain ⟨q2, hq2⟩ : ∃ q, q = ahB tx.node tx.n ty.node ty.n := ⟨_, rfl⟩
          have T := Lib.hid (show ∀ X : LaterOf w3, Calls Tryz.prog 77 #[.int .i64 tx.node, .int .i64 tx.n, .int .i64 ty.node, .int .i64 ty.n] X.w fun e w' => e = .returned (.bool q2) ∧ Below X.w.heap.size X.w w' from fun X => by rw [hq2]; exact ahead_any _ _ _ _ X.w)
          have HQ2 := Lib.hid hq2
          clear hq2
          go_upto_region 16 with (fail)
          have a0 : ∀ X : LaterOf w3, X.w.cell? ⟨g, off + k * 5, none⟩ = some (.int .i64 ty.node) := fun X => ((HL.out.later X.h).below.cell (p := ⟨g, off + k * 5, none⟩) HGL.out).trans HU0.out
          have a1 : ∀ X : LaterOf w3, X.w.cell? ⟨g, off + k * 5 + 1, none⟩ = some (.int .i64 ty.n) := fun X => ((HL.out.later X.h).below.cell (p := ⟨g, off + k * 5 + 1, none⟩) HGL.out).trans HU1.out
          have a2 : ∀ X : LaterOf w3, X.w.cell? ⟨g, off + k * 5 + 2, none⟩ = some (.string ty.id) := fun X => ((HL.out.later X.h).below.cell (p := ⟨g, off + k * 5 + 2, none⟩) HGL.out).trans HU2.out
          have a3 : ∀ X : LaterOf w3, X.w.cell? ⟨g, off + k * 5 + 3, none⟩ = some (.slice yp3 yl3 ym3) := fun X => ((HL.out.later X.h).below.cell (p := ⟨g, off + k * 5 + 3, none⟩) HGL.out).trans HU3.out
          have a4 : ∀ X : LaterOf w3, X.w.cell? ⟨g, off + k * 5 + 4, none⟩ = some (.slice yp4 yl4 ym4) := fun X => ((HL.out.later X.h).below.cell (p := ⟨g, off + k * 5 + 4, none⟩) HGL.out).trans HU4.out
          have b0 : ∀ X : LaterOf w3, X.w.cell? ⟨w.heap.size, 0, none⟩ = some (.int .i64 tx.node) := fun X => (HL.out.later X.h).bx.cell 0
          have b1 : ∀ X : LaterOf w3, X.w.cell? ⟨w.heap.size, 1, none⟩ = some (.int .i64 tx.n) := fun X => (HL.out.later X.h).bx.cell 1
          have b2 : ∀ X : LaterOf w3, X.w.cell? ⟨w.heap.size, 2, none⟩ = some (.string tx.id) := fun X => (HL.out.later X.h).bx.cell 2
          have b3 : ∀ X : LaterOf w3, X.w.cell? ⟨w.heap.size, 3, none⟩ = some (.slice xp3 xl3 xm3) := fun X => (HL.out.later X.h).bx.cell 3
          have b4 : ∀ X : LaterOf w3, X.w.cell? ⟨w.heap.size, 4, none⟩ = some (.slice xp4 xl4 xm4) := fun X => (HL.out.later X.h).bx.cell 4
          refine wp_region_all (fun w' => ∃ X : LaterOf w3, w' = X.w) (by kernel_rfl) (by kernel_rfl) ⟨LaterOf.start w3, rfl⟩ ?_
          repeat (go_big_quiet_step (first | with_reducible rfl | with_reducible exact LaterOf.call _ (T.out _)))
          refine wpQuiet_nil ?_
          intro ww hw
          obtain ⟨X, rfl⟩ := hw
          have HL := Lib.hid (HL.out.later X.h)
          obtain ⟨w4, hx⟩ := X
          dsimp only at HL
          clear a0 a1 a2 a3 a4 b0 b1 b2 b3 b4
          clear T
          cases q2 with
          | true =>
            have HLT := Lib.hid (show El.lt (kTb tx) (kTb (l.map (·.t))[k]) from by
              rw [← HY.out]
              exact ahB_iff.1 HQ2.out.symm)
            have HP := Lib.hid (PutAt.new HH.out.2 HP.out hkl2 HLT.out)
            rw [← HY.out] at HP
            have x0 : w4.cell? ⟨w.heap.size, 0, none⟩ = some (.int .i64 tx.node) := HL.out.bx.cell 0
            have x1 : w4.cell? ⟨w.heap.size, 1, none⟩ = some (.int .i64 tx.n) := HL.out.bx.cell 1
            have x2 : w4.cell? ⟨w.heap.size, 2, none⟩ = some (.string tx.id) := HL.out.bx.cell 2
            have x3 : w4.cell? ⟨w.heap.size, 3, none⟩ = some (.slice xp3 xl3 xm3) := HL.out.bx.cell 3
            have x4 : w4.cell? ⟨w.heap.size, 4, none⟩ = some (.slice xp4 xl4 xm4) := HL.out.bx.cell 4
            go_wp2_with (at_builtin; refine wpList_append_sl rfl _ _ _ 24 (by rfl) el_tb (base := w.heap.size + 1) (.slice ao (n) c) (n) (rowCells vTb (o)) (by rfl) (HL.out.sl.alloc _) _ 1 [.int .i64 tx.node, .int .i64 tx.n, .string tx.id, .slice xp3 xl3 xm3, .slice xp4 xl4 xm4] (by rfl) (SrcIs.own Tryz.underlying24 (SlIs.made (base := 0) (BlkIs.new _ _ _) (Nat.zero_le _) rfl (by decide))) (by intro u hu; simp at hu; rcases hu with rfl | rfl | rfl | rfl | rfl <;> rfl) (by unfold maxLen; omega) (by omega) (by have := HL.out.bx.lt; simp; omega) ?_)
            intro v5 w5 hs hg hat
            have HL := Lib.hid (HL.out.app (y := ⟨tx, .slice xp3 xl3 xm3, .slice xp4 xl4 xm4⟩) (HKX.out _ HL.out.below) hs hg)
            obtain ⟨ao5, c5, rfl, -, -, -⟩ := hs.form
            clear hs hg hat
            clear x0 x1 x2 x3 x4
            have u0 : w5.cell? ⟨g, off + k * 5, none⟩ = some (.int .i64 ty.node) := (HL.out.below.cell (p := ⟨g, off + k * 5, none⟩) HGL.out).trans HU0.out
            have u1 : w5.cell? ⟨g, off + k * 5 + 1, none⟩ = some (.int .i64 ty.n) := (HL.out.below.cell (p := ⟨g, off + k * 5 + 1, none⟩) HGL.out).trans HU1.out
            have u2 : w5.cell? ⟨g, off + k * 5 + 2, none⟩ = some (.string ty.id) := (HL.out.below.cell (p := ⟨g, off + k * 5 + 2, none⟩) HGL.out).trans HU2.out
            have u3 : w5.cell? ⟨g, off + k * 5 + 3, none⟩ = some (.slice yp3 yl3 ym3) := (HL.out.below.cell (p := ⟨g, off + k * 5 + 3, none⟩) HGL.out).trans HU3.out
            have u4 : w5.cell? ⟨g, off + k * 5 + 4, none⟩ = some (.slice yp4 yl4 ym4) := (HL.out.below.cell (p := ⟨g, off + k * 5 + 4, none⟩) HGL.out).trans HU4.out
            go_wp2_with (at_builtin; refine wpList_append_sl rfl _ _ _ 24 (by rfl) el_tb (base := w.heap.size + 1) (.slice ao5 (n + 1) c5) (n + 1) (rowCells vTb (o ++ [⟨tx, .slice xp3 xl3 xm3, .slice xp4 xl4 xm4⟩])) (by rfl) (HL.out.sl.alloc _) _ 1 [.int .i64 ty.node, .int .i64 ty.n, .string ty.id, .slice yp3 yl3 ym3, .slice yp4 yl4 ym4] (by rfl) (SrcIs.own Tryz.underlying24 (SlIs.made (base := 0) (BlkIs.new _ _ _) (Nat.zero_le _) rfl (by decide))) (by intro u hu; simp at hu; rcases hu with rfl | rfl | rfl | rfl | rfl <;> rfl) (by unfold maxLen; omega) (by omega) (by have := HL.out.bx.lt; simp; omega) ?_)
            intro v6 w6 hs hg hat
            have HL := Lib.hid (HL.out.app (y := ⟨ty, .slice yp3 yl3 ym3, .slice yp4 yl4 ym4⟩) (HKY.out _ HL.out.below) hs hg)
            obtain ⟨ao6, c6, rfl, -, -, -⟩ := hs.form
            clear hs hg hat
            clear u0 u1 u2 u3 u4
            go_wp2_with fail
            exact ⟨⟨k + 1, n + 1 + 1, c6, true, ao6, o ++ [⟨tx, .slice xp3 xl3 xm3, .slice xp4 xl4 xm4⟩] ++ [⟨ty, .slice yp3 yl3 ym3, .slice yp4 yl4 ym4⟩], rfl, rfl, by simp, by omega, (fun h => by cases h), by omega, HL, mapd2 HP⟩, by simp [intOf]; omega⟩
          | false =>
            have HLT := Lib.hid (show ¬ El.lt (kTb tx) (kTb (l.map (·.t))[k]) from by
              rw [← HY.out]
              exact fun h => by have h1 := HQ2.out; rw [ahB_iff.2 h] at h1; cases h1)
            have HP := Lib.hid (PutAt.low HP.out hkl2 HNE.out HLT.out)
            rw [← HY.out] at HP
            have u0 : w4.cell? ⟨g, off + k * 5, none⟩ = some (.int .i64 ty.node) := (HL.out.below.cell (p := ⟨g, off + k * 5, none⟩) HGL.out).trans HU0.out
            have u1 : w4.cell? ⟨g, off + k * 5 + 1, none⟩ = some (.int .i64 ty.n) := (HL.out.below.cell (p := ⟨g, off + k * 5 + 1, none⟩) HGL.out).trans HU1.out
            have u2 : w4.cell? ⟨g, off + k * 5 + 2, none⟩ = some (.string ty.id) := (HL.out.below.cell (p := ⟨g, off + k * 5 + 2, none⟩) HGL.out).trans HU2.out
            have u3 : w4.cell? ⟨g, off + k * 5 + 3, none⟩ = some (.slice yp3 yl3 ym3) := (HL.out.below.cell (p := ⟨g, off + k * 5 + 3, none⟩) HGL.out).trans HU3.out
            have u4 : w4.cell? ⟨g, off + k * 5 + 4, none⟩ = some (.slice yp4 yl4 ym4) := (HL.out.below.cell (p := ⟨g, off + k * 5 + 4, none⟩) HGL.out).trans HU4.out
            go_wp2_with (at_builtin; refine wpList_append_sl rfl _ _ _ 24 (by rfl) el_tb (base := w.heap.size + 1) (.slice ao (n) c) (n) (rowCells vTb (o)) (by rfl) (HL.out.sl.alloc _) _ 1 [.int .i64 ty.node, .int .i64 ty.n, .string ty.id, .slice yp3 yl3 ym3, .slice yp4 yl4 ym4] (by rfl) (SrcIs.own Tryz.underlying24 (SlIs.made (base := 0) (BlkIs.new _ _ _) (Nat.zero_le _) rfl (by decide))) (by intro u hu; simp at hu; rcases hu with rfl | rfl | rfl | rfl | rfl <;> rfl) (by unfold maxLen; omega) (by omega) (by have := HL.out.bx.lt; simp; omega) ?_)
            intro v5 w5 hs hg hat
            have HL := Lib.hid (HL.out.app (y := ⟨ty, .slice yp3 yl3 ym3, .slice yp4 yl4 ym4⟩) (HKY.out _ HL.out.below) hs hg)
            obtain ⟨ao5, c5, rfl, -, -, -⟩ := hs.form
            clear hs hg hat
            clear u0 u1 u2 u3 u4
            go_wp2_with fail
            exact ⟨⟨k + 1, n + 1, c5, false, ao5, o ++ [⟨ty, .slice yp3 yl3 ym3, .slice yp4 yl4 ym4⟩], rfl, rfl, by simp, by omega, (fun _ => by omega), by omega, HL, mapd HP⟩, by simp [intOf]; omega⟩
      | true =>
        cases p with
        | false =>
          have HNE := Lib.hid (show kTb (l.map (·.t))[k] ≠ kTb tx from by
            rw [← HY.out]
            intro h
            have h1 : ty.n = tx.n := congrArg Prod.snd h
            have h2 := HQ.out.2
            rw [h1] at h2
            simp at h2)
          go_upto_region 6 with (fail)
          have a0 : ∀ X : LaterOf wr, X.w.cell? ⟨g, off + k * 5, none⟩ = some (.int .i64 ty.node) := fun X => ((HL.out.later X.h).below.cell (p := ⟨g, off + k * 5, none⟩) HGL.out).trans HU0.out
          have a1 : ∀ X : LaterOf wr, X.w.cell? ⟨g, off + k * 5 + 1, none⟩ = some (.int .i64 ty.n) := fun X => ((HL.out.later X.h).below.cell (p := ⟨g, off + k * 5 + 1, none⟩) HGL.out).trans HU1.out
          have a2 : ∀ X : LaterOf wr, X.w.cell? ⟨g, off + k * 5 + 2, none⟩ = some (.string ty.id) := fun X => ((HL.out.later X.h).below.cell (p := ⟨g, off + k * 5 + 2, none⟩) HGL.out).trans HU2.out
          have a3 : ∀ X : LaterOf wr, X.w.cell? ⟨g, off + k * 5 + 3, none⟩ = some (.slice yp3 yl3 ym3) := fun X => ((HL.out.later X.h).below.cell (p := ⟨g, off + k * 5 + 3, none⟩) HGL.out).trans HU3.out
          have a4 : ∀ X : LaterOf wr, X.w.cell? ⟨g, off + k * 5 + 4, none⟩ = some (.slice yp4 yl4 ym4) := fun X => ((HL.out.later X.h).below.cell (p := ⟨g, off + k * 5 + 4, none⟩) HGL.out).trans HU4.out
          have b0 : ∀ X : LaterOf wr, X.w.cell? ⟨w.heap.size, 0, none⟩ = some (.int .i64 tx.node) := fun X => (HL.out.later X.h).bx.cell 0
          have b1 : ∀ X : LaterOf wr, X.w.cell? ⟨w.heap.size, 1, none⟩ = some (.int .i64 tx.n) := fun X => (HL.out.later X.h).bx.cell 1
          have b2 : ∀ X : LaterOf wr, X.w.cell? ⟨w.heap.size, 2, none⟩ = some (.string tx.id) := fun X => (HL.out.later X.h).bx.cell 2
          have b3 : ∀ X : LaterOf wr, X.w.cell? ⟨w.heap.size, 3, none⟩ = some (.slice xp3 xl3 xm3) := fun X => (HL.out.later X.h).bx.cell 3
          have b4 : ∀ X : LaterOf wr, X.w.cell? ⟨w.heap.size, 4, none⟩ = some (.slice xp4 xl4 xm4) := fun X => (HL.out.later X.h).bx.cell 4
          refine wp_region_all (fun w' => ∃ X : LaterOf wr, w' = X.w) (by kernel_rfl) (by kernel_rfl) ⟨LaterOf.start wr, rfl⟩ ?_
          repeat (go_big_quiet_step (first | with_reducible rfl))
          refine wpQuiet_nil ?_
          intro ww hw
          obtain ⟨X, rfl⟩ := hw
          have HL := Lib.hid (HL.out.later X.h)
          obtain ⟨w3, hx⟩ := X
          dsimp only at HL
          clear a0 a1 a2 a3 a4 b0 b1 b2 b3 b4
          clear hq' hp'
          cases put with
          | true =>
            have HP := Lib.hid (PutAt.on mTb_key HH.out.2 HP.out hkl2 HNE.out)
            rw [← HY.out] at HP
            go_upto_region 16 with (fail)
            have a0 : ∀ X : LaterOf w3, X.w.cell? ⟨g, off + k * 5, none⟩ = some (.int .i64 ty.node) := fun X => ((HL.out.later X.h).below.cell (p := ⟨g, off + k * 5, none⟩) HGL.out).trans HU0.out
            have a1 : ∀ X : LaterOf w3, X.w.cell? ⟨g, off + k * 5 + 1, none⟩ = some (.int .i64 ty.n) := fun X => ((HL.out.later X.h).below.cell (p := ⟨g, off + k * 5 + 1, none⟩) HGL.out).trans HU1.out
            have a2 : ∀ X : LaterOf w3, X.w.cell? ⟨g, off + k * 5 + 2, none⟩ = some (.string ty.id) := fun X => ((HL.out.later X.h).below.cell (p := ⟨g, off + k * 5 + 2, none⟩) HGL.out).trans HU2.out
            have a3 : ∀ X : LaterOf w3, X.w.cell? ⟨g, off + k * 5 + 3, none⟩ = some (.slice yp3 yl3 ym3) := fun X => ((HL.out.later X.h).below.cell (p := ⟨g, off + k * 5 + 3, none⟩) HGL.out).trans HU3.out
            have a4 : ∀ X : LaterOf w3, X.w.cell? ⟨g, off + k * 5 + 4, none⟩ = some (.slice yp4 yl4 ym4) := fun X => ((HL.out.later X.h).below.cell (p := ⟨g, off + k * 5 + 4, none⟩) HGL.out).trans HU4.out
            have b0 : ∀ X : LaterOf w3, X.w.cell? ⟨w.heap.size, 0, none⟩ = some (.int .i64 tx.node) := fun X => (HL.out.later X.h).bx.cell 0
            have b1 : ∀ X : LaterOf w3, X.w.cell? ⟨w.heap.size, 1, none⟩ = some (.int .i64 tx.n) := fun X => (HL.out.later X.h).bx.cell 1
            have b2 : ∀ X : LaterOf w3, X.w.cell? ⟨w.heap.size, 2, none⟩ = some (.string tx.id) := fun X => (HL.out.later X.h).bx.cell 2
            have b3 : ∀ X : LaterOf w3, X.w.cell? ⟨w.heap.size, 3, none⟩ = some (.slice xp3 xl3 xm3) := fun X => (HL.out.later X.h).bx.cell 3
            have b4 : ∀ X : LaterOf w3, X.w.cell? ⟨w.heap.size, 4, none⟩ = some (.slice xp4 xl4 xm4) := fun X => (HL.out.later X.h).bx.cell 4
            refine wp_region_all (fun w' => ∃ X : LaterOf w3, w' = X.w) (by kernel_rfl) (by kernel_rfl) ⟨LaterOf.start w3, rfl⟩ ?_
            repeat (go_big_quiet_step (first | with_reducible rfl))
            refine wpQuiet_nil ?_
            intro ww hw
            obtain ⟨X, rfl⟩ := hw
            have HL := Lib.hid (HL.out.later X.h)
            obtain ⟨w4, hx⟩ := X
            dsimp only at HL
            clear a0 a1 a2 a3 a4 b0 b1 b2 b3 b4
            have u0 : w4.cell? ⟨g, off + k * 5, none⟩ = some (.int .i64 ty.node) := (HL.out.below.cell (p := ⟨g, off + k * 5, none⟩) HGL.out).trans HU0.out
            have u1 : w4.cell? ⟨g, off + k * 5 + 1, none⟩ = some (.int .i64 ty.n) := (HL.out.below.cell (p := ⟨g, off + k * 5 + 1, none⟩) HGL.out).trans HU1.out
            have u2 : w4.cell? ⟨g, off + k * 5 + 2, none⟩ = some (.string ty.id) := (HL.out.below.cell (p := ⟨g, off + k * 5 + 2, none⟩) HGL.out).trans HU2.out
            have u3 : w4.cell? ⟨g, off + k * 5 + 3, none⟩ = some (.slice yp3 yl3 ym3) := (HL.out.below.cell (p := ⟨g, off + k * 5 + 3, none⟩) HGL.out).trans HU3.out
            have u4 : w4.cell? ⟨g, off + k * 5 + 4, none⟩ = some (.slice yp4 yl4 ym4) := (HL.out.below.cell (p := ⟨g, off + k * 5 + 4, none⟩) HGL.out).trans HU4.out
            go_wp2_with (at_builtin; refine wpList_append_sl rfl _ _ _ 24 (by rfl) el_tb (base := w.heap.size + 1) (.slice ao (n) c) (n) (rowCells vTb (o)) (by rfl) (HL.out.sl.alloc _) _ 1 [.int .i64 ty.node, .int .i64 ty.n, .string ty.id, .slice yp3 yl3 ym3, .slice yp4 yl4 ym4] (by rfl) (SrcIs.own Tryz.underlying24 (SlIs.made (base := 0) (BlkIs.new _ _ _) (Nat.zero_le _) rfl (by decide))) (by intro u hu; simp at hu; rcases hu with rfl | rfl | rfl | rfl | rfl <;> rfl) (by unfold maxLen; omega) (by omega) (by have := HL.out.bx.lt; simp; omega) ?_)
            intro v5 w5 hs hg hat
            have HL := Lib.hid (HL.out.app (y := ⟨ty, .slice yp3 yl3 ym3, .slice yp4 yl4 ym4⟩) (HKY.out _ HL.out.below) hs hg)
            obtain ⟨ao5, c5, rfl, -, -, -⟩ := hs.form
            clear hs hg hat
            clear u0 u1 u2 u3 u4
            go_wp2_with fail
            exact ⟨⟨k + 1, n + 1, c5, true, ao5, o ++ [⟨ty, .slice yp3 yl3 ym3, .slice yp4 yl4 ym4⟩], rfl, rfl, by simp, by omega, (fun h => by cases h), by omega, HL, mapd HP⟩, by simp [intOf]; omega⟩
          | false =>
            have hnk2 : n ≤ k := hpn rfl
            obtain ⟨q2, hq2⟩ : ∃ q, q = ahB tx.node tx.n ty.node ty.n := ⟨_, rfl⟩
            have T := Lib.hid (show ∀ X : LaterOf w3, Calls Tryz.prog 77 #[.int .i64 tx.node, .int .i64 tx.n, .int .i64 ty.node, .int .i64 ty.n] X.w fun e w' => e = .returned (.bool q2) ∧ Below X.w.heap.size X.w w' from fun X => by rw [hq2]; exact ahead_any _ _ _ _ X.w)
            have HQ2 := Lib.hid hq2
            clear hq2
            go_upto_region 16 with (fail)
            have a0 : ∀ X : LaterOf w3, X.w.cell? ⟨g, off + k * 5, none⟩ = some (.int .i64 ty.node) := fun X => ((HL.out.later X.h).below.cell (p := ⟨g, off + k * 5, none⟩) HGL.out).trans HU0.out
            have a1 : ∀ X : LaterOf w3, X.w.cell? ⟨g, off + k * 5 + 1, none⟩ = some (.int .i64 ty.n) := fun X => ((HL.out.later X.h).below.cell (p := ⟨g, off + k * 5 + 1, none⟩) HGL.out).trans HU1.out
            have a2 : ∀ X : LaterOf w3, X.w.cell? ⟨g, off + k * 5 + 2, none⟩ = some (.string ty.id) := fun X => ((HL.out.later X.h).below.cell (p := ⟨g, off + k * 5 + 2, none⟩) HGL.out).trans HU2.out
            have a3 : ∀ X : LaterOf w3, X.w.cell? ⟨g, off + k * 5 + 3, none⟩ = some (.slice yp3 yl3 ym3) := fun X => ((HL.out.later X.h).below.cell (p := ⟨g, off + k * 5 + 3, none⟩) HGL.out).trans HU3.out
            have a4 : ∀ X : LaterOf w3, X.w.cell? ⟨g, off + k * 5 + 4, none⟩ = some (.slice yp4 yl4 ym4) := fun X => ((HL.out.later X.h).below.cell (p := ⟨g, off + k * 5 + 4, none⟩) HGL.out).trans HU4.out
            have b0 : ∀ X : LaterOf w3, X.w.cell? ⟨w.heap.size, 0, none⟩ = some (.int .i64 tx.node) := fun X => (HL.out.later X.h).bx.cell 0
            have b1 : ∀ X : LaterOf w3, X.w.cell? ⟨w.heap.size, 1, none⟩ = some (.int .i64 tx.n) := fun X => (HL.out.later X.h).bx.cell 1
            have b2 : ∀ X : LaterOf w3, X.w.cell? ⟨w.heap.size, 2, none⟩ = some (.string tx.id) := fun X => (HL.out.later X.h).bx.cell 2
            have b3 : ∀ X : LaterOf w3, X.w.cell? ⟨w.heap.size, 3, none⟩ = some (.slice xp3 xl3 xm3) := fun X => (HL.out.later X.h).bx.cell 3
            have b4 : ∀ X : LaterOf w3, X.w.cell? ⟨w.heap.size, 4, none⟩ = some (.slice xp4 xl4 xm4) := fun X => (HL.out.later X.h).bx.cell 4
            refine wp_region_all (fun w' => ∃ X : LaterOf w3, w' = X.w) (by kernel_rfl) (by kernel_rfl) ⟨LaterOf.start w3, rfl⟩ ?_
            repeat (go_big_quiet_step (first | with_reducible rfl | with_reducible exact LaterOf.call _ (T.out _)))
            refine wpQuiet_nil ?_
            intro ww hw
            obtain ⟨X, rfl⟩ := hw
            have HL := Lib.hid (HL.out.later X.h)
            obtain ⟨w4, hx⟩ := X
            dsimp only at HL
            clear a0 a1 a2 a3 a4 b0 b1 b2 b3 b4
            clear T
            cases q2 with
            | true =>
              have HLT := Lib.hid (show El.lt (kTb tx) (kTb (l.map (·.t))[k]) from by
                rw [← HY.out]
                exact ahB_iff.1 HQ2.out.symm)
              have HP := Lib.hid (PutAt.new HH.out.2 HP.out hkl2 HLT.out)
              rw [← HY.out] at HP
              have x0 : w4.cell? ⟨w.heap.size, 0, none⟩ = some (.int .i64 tx.node) := HL.out.bx.cell 0
              have x1 : w4.cell? ⟨w.heap.size, 1, none⟩ = some (.int .i64 tx.n) := HL.out.bx.cell 1
              have x2 : w4.cell? ⟨w.heap.size, 2, none⟩ = some (.string tx.id) := HL.out.bx.cell 2
              have x3 : w4.cell? ⟨w.heap.size, 3, none⟩ = some (.slice xp3 xl3 xm3) := HL.out.bx.cell 3
              have x4 : w4.cell? ⟨w.heap.size, 4, none⟩ = some (.slice xp4 xl4 xm4) := HL.out.bx.cell 4
              go_wp2_with (at_builtin; refine wpList_append_sl rfl _ _ _ 24 (by rfl) el_tb (base := w.heap.size + 1) (.slice ao (n) c) (n) (rowCells vTb (o)) (by rfl) (HL.out.sl.alloc _) _ 1 [.int .i64 tx.node, .int .i64 tx.n, .string tx.id, .slice xp3 xl3 xm3, .slice xp4 xl4 xm4] (by rfl) (SrcIs.own Tryz.underlying24 (SlIs.made (base := 0) (BlkIs.new _ _ _) (Nat.zero_le _) rfl (by decide))) (by intro u hu; simp at hu; rcases hu with rfl | rfl | rfl | rfl | rfl <;> rfl) (by unfold maxLen; omega) (by omega) (by have := HL.out.bx.lt; simp; omega) ?_)
              intro v5 w5 hs hg hat
              have HL := Lib.hid (HL.out.app (y := ⟨tx, .slice xp3 xl3 xm3, .slice xp4 xl4 xm4⟩) (HKX.out _ HL.out.below) hs hg)
              obtain ⟨ao5, c5, rfl, -, -, -⟩ := hs.form
              clear hs hg hat
              clear x0 x1 x2 x3 x4
              have u0 : w5.cell? ⟨g, off + k * 5, none⟩ = some (.int .i64 ty.node) := (HL.out.below.cell (p := ⟨g, off + k * 5, none⟩) HGL.out).trans HU0.out
              have u1 : w5.cell? ⟨g, off + k * 5 + 1, none⟩ = some (.int .i64 ty.n) := (HL.out.below.cell (p := ⟨g, off + k * 5 + 1, none⟩) HGL.out).trans HU1.out
              have u2 : w5.cell? ⟨g, off + k * 5 + 2, none⟩ = some (.string ty.id) := (HL.out.below.cell (p := ⟨g, off + k * 5 + 2, none⟩) HGL.out).trans HU2.out
              have u3 : w5.cell? ⟨g, off + k * 5 + 3, none⟩ = some (.slice yp3 yl3 ym3) := (HL.out.below.cell (p := ⟨g, off + k * 5 + 3, none⟩) HGL.out).trans HU3.out
              have u4 : w5.cell? ⟨g, off + k * 5 + 4, none⟩ = some (.slice yp4 yl4 ym4) := (HL.out.below.cell (p := ⟨g, off + k * 5 + 4, none⟩) HGL.out).trans HU4.out
              go_wp2_with (at_builtin; refine wpList_append_sl rfl _ _ _ 24 (by rfl) el_tb (base := w.heap.size + 1) (.slice ao5 (n + 1) c5) (n + 1) (rowCells vTb (o ++ [⟨tx, .slice xp3 xl3 xm3, .slice xp4 xl4 xm4⟩])) (by rfl) (HL.out.sl.alloc _) _ 1 [.int .i64 ty.node, .int .i64 ty.n, .string ty.id, .slice yp3 yl3 ym3, .slice yp4 yl4 ym4] (by rfl) (SrcIs.own Tryz.underlying24 (SlIs.made (base := 0) (BlkIs.new _ _ _) (Nat.zero_le _) rfl (by decide))) (by intro u hu; simp at hu; rcases hu with rfl | rfl | rfl | rfl | rfl <;> rfl) (by unfold maxLen; omega) (by omega) (by have := HL.out.bx.lt; simp; omega) ?_)
              intro v6 w6 hs hg hat
              have HL := Lib.hid (HL.out.app (y := ⟨ty, .slice yp3 yl3 ym3, .slice yp4 yl4 ym4⟩) (HKY.out _ HL.out.below) hs hg)
              obtain ⟨ao6, c6, rfl, -, -, -⟩ := hs.form
              clear hs hg hat
              clear u0 u1 u2 u3 u4
              go_wp2_with fail
              exact ⟨⟨k + 1, n + 1 + 1, c6, true, ao6, o ++ [⟨tx, .slice xp3 xl3 xm3, .slice xp4 xl4 xm4⟩] ++ [⟨ty, .slice yp3 yl3 ym3, .slice yp4 yl4 ym4⟩], rfl, rfl, by simp, by omega, (fun h => by cases h), by omega, HL, mapd2 HP⟩, by simp [intOf]; omega⟩
            | false =>
              have HLT := Lib.hid (show ¬ El.lt (kTb tx) (kTb (l.map (·.t))[k]) from by
                rw [← HY.out]
                exact fun h => by have h1 := HQ2.out; rw [ahB_iff.2 h] at h1; cases h1)
              have HP := Lib.hid (PutAt.low HP.out hkl2 HNE.out HLT.out)
              rw [← HY.out] at HP
              have u0 : w4.cell? ⟨g, off + k * 5, none⟩ = some (.int .i64 ty.node) := (HL.out.below.cell (p := ⟨g, off + k * 5, none⟩) HGL.out).trans HU0.out
              have u1 : w4.cell? ⟨g, off + k * 5 + 1, none⟩ = some (.int .i64 ty.n) := (HL.out.below.cell (p := ⟨g, off + k * 5 + 1, none⟩) HGL.out).trans HU1.out
              have u2 : w4.cell? ⟨g, off + k * 5 + 2, none⟩ = some (.string ty.id) := (HL.out.below.cell (p := ⟨g, off + k * 5 + 2, none⟩) HGL.out).trans HU2.out
              have u3 : w4.cell? ⟨g, off + k * 5 + 3, none⟩ = some (.slice yp3 yl3 ym3) := (HL.out.below.cell (p := ⟨g, off + k * 5 + 3, none⟩) HGL.out).trans HU3.out
              have u4 : w4.cell? ⟨g, off + k * 5 + 4, none⟩ = some (.slice yp4 yl4 ym4) := (HL.out.below.cell (p := ⟨g, off + k * 5 + 4, none⟩) HGL.out).trans HU4.out
              go_wp2_with (at_builtin; refine wpList_append_sl rfl _ _ _ 24 (by rfl) el_tb (base := w.heap.size + 1) (.slice ao (n) c) (n) (rowCells vTb (o)) (by rfl) (HL.out.sl.alloc _) _ 1 [.int .i64 ty.node, .int .i64 ty.n, .string ty.id, .slice yp3 yl3 ym3, .slice yp4 yl4 ym4] (by rfl) (SrcIs.own Tryz.underlying24 (SlIs.made (base := 0) (BlkIs.new _ _ _) (Nat.zero_le _) rfl (by decide))) (by intro u hu; simp at hu; rcases hu with rfl | rfl | rfl | rfl | rfl <;> rfl) (by unfold maxLen; omega) (by omega) (by have := HL.out.bx.lt; simp; omega) ?_)
              intro v5 w5 hs hg hat
              have HL := Lib.hid (HL.out.app (y := ⟨ty, .slice yp3 yl3 ym3, .slice yp4 yl4 ym4⟩) (HKY.out _ HL.out.below) hs hg)
              obtain ⟨ao5, c5, rfl, -, -, -⟩ := hs.form
              clear hs hg hat
              clear u0 u1 u2 u3 u4
              go_wp2_with fail
              exact ⟨⟨k + 1, n + 1, c5, false, ao5, o ++ [⟨ty, .slice yp3 yl3 ym3, .slice yp4 yl4 ym4⟩], rfl, rfl, by simp, by omega, (fun _ => by omega), by omega, HL, mapd HP⟩, by simp [intOf]; omega⟩
        | true =>
          go_upto_region 6 with (fail)
          have a0 : ∀ X : LaterOf wr, X.w.cell? ⟨g, off + k * 5, none⟩ = some (.int .i64 ty.node) := fun X => ((HL.out.later X.h).below.cell (p := ⟨g, off + k * 5, none⟩) HGL.out).trans HU0.out
          have a1 : ∀ X : LaterOf wr, X.w.cell? ⟨g, off + k * 5 + 1, none⟩ = some (.int .i64 ty.n) := fun X => ((HL.out.later X.h).below.cell (p := ⟨g, off + k * 5 + 1, none⟩) HGL.out).trans HU1.out
          have a2 : ∀ X : LaterOf wr, X.w.cell? ⟨g, off + k * 5 + 2, none⟩ = some (.string ty.id) := fun X => ((HL.out.later X.h).below.cell (p := ⟨g, off + k * 5 + 2, none⟩) HGL.out).trans HU2.out
          have a3 : ∀ X : LaterOf wr, X.w.cell? ⟨g, off + k * 5 + 3, none⟩ = some (.slice yp3 yl3 ym3) := fun X => ((HL.out.later X.h).below.cell (p := ⟨g, off + k * 5 + 3, none⟩) HGL.out).trans HU3.out
          have a4 : ∀ X : LaterOf wr, X.w.cell? ⟨g, off + k * 5 + 4, none⟩ = some (.slice yp4 yl4 ym4) := fun X => ((HL.out.later X.h).below.cell (p := ⟨g, off + k * 5 + 4, none⟩) HGL.out).trans HU4.out
          have b0 : ∀ X : LaterOf wr, X.w.cell? ⟨w.heap.size, 0, none⟩ = some (.int .i64 tx.node) := fun X => (HL.out.later X.h).bx.cell 0
          have b1 : ∀ X : LaterOf wr, X.w.cell? ⟨w.heap.size, 1, none⟩ = some (.int .i64 tx.n) := fun X => (HL.out.later X.h).bx.cell 1
          have b2 : ∀ X : LaterOf wr, X.w.cell? ⟨w.heap.size, 2, none⟩ = some (.string tx.id) := fun X => (HL.out.later X.h).bx.cell 2
          have b3 : ∀ X : LaterOf wr, X.w.cell? ⟨w.heap.size, 3, none⟩ = some (.slice xp3 xl3 xm3) := fun X => (HL.out.later X.h).bx.cell 3
          have b4 : ∀ X : LaterOf wr, X.w.cell? ⟨w.heap.size, 4, none⟩ = some (.slice xp4 xl4 xm4) := fun X => (HL.out.later X.h).bx.cell 4
          refine wp_region_all (fun w' => ∃ X : LaterOf wr, w' = X.w) (by kernel_rfl) (by kernel_rfl) ⟨LaterOf.start wr, rfl⟩ ?_
          repeat (go_big_quiet_step (first | with_reducible rfl))
          refine wpQuiet_nil ?_
          intro ww hw
          obtain ⟨X, rfl⟩ := hw
          have HL := Lib.hid (HL.out.later X.h)
          obtain ⟨w3, hx⟩ := X
          dsimp only at HL
          clear a0 a1 a2 a3 a4 b0 b1 b2 b3 b4
          clear hq' hp'
          have n1 : ty.node = tx.node := by simpa using HQ.out.1.symm
          have n2 : ty.n = tx.n := by simpa using HQ.out.2.symm
          have HKE := Lib.hid (show kTb ty = kTb tx from Prod.ext n1 n2)
          clear n1 n2
          have HCL := Lib.hid (show mTb ty tx = none → Clash kTb mTb (l.map (·.t)) [tx] from fun h => ⟨kTb tx, ty, tx, by
            rw [← HKE.out]
            exact gk_mem (rk_uk HH.out.2) (by rw [HY.out]; exact List.getElem_mem hkl2), by rw [gk_one, if_pos rfl], h⟩)
          obtain ⟨q2, hq2⟩ : ∃ q, q = (ty.id.toList == tx.id.toList) := ⟨_, rfl⟩
          have hq2' := hq2.symm
          have HQ2 := Lib.hid hq2
          clear hq2
          cases q2 with
          | false =>
            go_upto_region 7 with (fail)
            have a0 : ∀ X : LaterOf w3, X.w.cell? ⟨g, off + k * 5, none⟩ = some (.int .i64 ty.node) := fun X => ((HL.out.later X.h).below.cell (p := ⟨g, off + k * 5, none⟩) HGL.out).trans HU0.out
            have a1 : ∀ X : LaterOf w3, X.w.cell? ⟨g, off + k * 5 + 1, none⟩ = some (.int .i64 ty.n) := fun X => ((HL.out.later X.h).below.cell (p := ⟨g, off + k * 5 + 1, none⟩) HGL.out).trans HU1.out
            have a2 : ∀ X : LaterOf w3, X.w.cell? ⟨g, off + k * 5 + 2, none⟩ = some (.string ty.id) := fun X => ((HL.out.later X.h).below.cell (p := ⟨g, off + k * 5 + 2, none⟩) HGL.out).trans HU2.out
            have a3 : ∀ X : LaterOf w3, X.w.cell? ⟨g, off + k * 5 + 3, none⟩ = some (.slice yp3 yl3 ym3) := fun X => ((HL.out.later X.h).below.cell (p := ⟨g, off + k * 5 + 3, none⟩) HGL.out).trans HU3.out
            have a4 : ∀ X : LaterOf w3, X.w.cell? ⟨g, off + k * 5 + 4, none⟩ = some (.slice yp4 yl4 ym4) := fun X => ((HL.out.later X.h).below.cell (p := ⟨g, off + k * 5 + 4, none⟩) HGL.out).trans HU4.out
            have b0 : ∀ X : LaterOf w3, X.w.cell? ⟨w.heap.size, 0, none⟩ = some (.int .i64 tx.node) := fun X => (HL.out.later X.h).bx.cell 0
            have b1 : ∀ X : LaterOf w3, X.w.cell? ⟨w.heap.size, 1, none⟩ = some (.int .i64 tx.n) := fun X => (HL.out.later X.h).bx.cell 1
            have b2 : ∀ X : LaterOf w3, X.w.cell? ⟨w.heap.size, 2, none⟩ = some (.string tx.id) := fun X => (HL.out.later X.h).bx.cell 2
            have b3 : ∀ X : LaterOf w3, X.w.cell? ⟨w.heap.size, 3, none⟩ = some (.slice xp3 xl3 xm3) := fun X => (HL.out.later X.h).bx.cell 3
            have b4 : ∀ X : LaterOf w3, X.w.cell? ⟨w.heap.size, 4, none⟩ = some (.slice xp4 xl4 xm4) := fun X => (HL.out.later X.h).bx.cell 4
            refine wp_region_all (fun w' => ∃ X : LaterOf w3, w' = X.w) (by kernel_rfl) (by kernel_rfl) ⟨LaterOf.start w3, rfl⟩ ?_
            repeat (go_big_quiet_step (first | with_reducible rfl))
            refine wpQuiet_nil ?_
            intro ww hw
            obtain ⟨X, rfl⟩ := hw
            have HL := Lib.hid (HL.out.later X.h)
            obtain ⟨w4, hx⟩ := X
            dsimp only at HL
            clear a0 a1 a2 a3 a4 b0 b1 b2 b3 b4
            clear hq2'
            go_wp2_with fail
            refine bodyPost_ret (v := .tuple #[.slice (some ⟨g, off, none⟩) n0 lc, .bool false]) (by simp [results, Tryz.results27, go_sem]) rfl ?_
            refine ⟨_, l, false, rfl, HH.out.1.later HL.out.below, .inr ⟨rfl, HCL.out ?_⟩, HL.out.below⟩
            unfold mTb
            rw [if_neg]
            rintro ⟨h, -⟩
            have h1 := HQ2.out
            rw [bytes_eq.2 h] at h1
            cases h1
          | true =>
            obtain ⟨q3, hq3⟩ : ∃ q, q = eqB ty.cov tx.cov := ⟨_, rfl⟩
            have T := Lib.hid (show ∀ X : LaterOf w3, Calls Tryz.prog 28 #[.slice yp3 yl3 ym3, .slice xp3 xl3 xm3] X.w fun e w' => e = .returned (.bool q3) ∧ Below X.w.heap.size X.w w' from fun X => by
              rw [hq3]
              have hb := (HL.out.later X.h).below
              exact tokens_same _ _ _ _ _ (HYR.out.1.1.later hb) (HX.out.1.later hb) (by have := HYR.out.2.2.1; omega) (by have := HFX.out.1; omega))
            have HQ3 := Lib.hid hq3
            clear hq3
            go_upto_region 7 with (fail)
            have a0 : ∀ X : LaterOf w3, X.w.cell? ⟨g, off + k * 5, none⟩ = some (.int .i64 ty.node) := fun X => ((HL.out.later X.h).below.cell (p := ⟨g, off + k * 5, none⟩) HGL.out).trans HU0.out
            have a1 : ∀ X : LaterOf w3, X.w.cell? ⟨g, off + k * 5 + 1, none⟩ = some (.int .i64 ty.n) := fun X => ((HL.out.later X.h).below.cell (p := ⟨g, off + k * 5 + 1, none⟩) HGL.out).trans HU1.out
            have a2 : ∀ X : LaterOf w3, X.w.cell? ⟨g, off + k * 5 + 2, none⟩ = some (.string ty.id) := fun X => ((HL.out.later X.h).below.cell (p := ⟨g, off + k * 5 + 2, none⟩) HGL.out).trans HU2.out
            have a3 : ∀ X : LaterOf w3, X.w.cell? ⟨g, off + k * 5 + 3, none⟩ = some (.slice yp3 yl3 ym3) := fun X => ((HL.out.later X.h).below.cell (p := ⟨g, off + k * 5 + 3, none⟩) HGL.out).trans HU3.out
            have a4 : ∀ X : LaterOf w3, X.w.cell? ⟨g, off + k * 5 + 4, none⟩ = some (.slice yp4 yl4 ym4) := fun X => ((HL.out.later X.h).below.cell (p := ⟨g, off + k * 5 + 4, none⟩) HGL.out).trans HU4.out
            have b0 : ∀ X : LaterOf w3, X.w.cell? ⟨w.heap.size, 0, none⟩ = some (.int .i64 tx.node) := fun X => (HL.out.later X.h).bx.cell 0
            have b1 : ∀ X : LaterOf w3, X.w.cell? ⟨w.heap.size, 1, none⟩ = some (.int .i64 tx.n) := fun X => (HL.out.later X.h).bx.cell 1
            have b2 : ∀ X : LaterOf w3, X.w.cell? ⟨w.heap.size, 2, none⟩ = some (.string tx.id) := fun X => (HL.out.later X.h).bx.cell 2
            have b3 : ∀ X : LaterOf w3, X.w.cell? ⟨w.heap.size, 3, none⟩ = some (.slice xp3 xl3 xm3) := fun X => (HL.out.later X.h).bx.cell 3
            have b4 : ∀ X : LaterOf w3, X.w.cell? ⟨w.heap.size, 4, none⟩ = some (.slice xp4 xl4 xm4) := fun X => (HL.out.later X.h).bx.cell 4
            refine wp_region_all (fun w' => ∃ X : LaterOf w3, w' = X.w) (by kernel_rfl) (by kernel_rfl) ⟨LaterOf.start w3, rfl⟩ ?_
            repeat (go_big_quiet_step (first | with_reducible rfl | with_reducible exact LaterOf.call _ (T.out _)))
            refine wpQuiet_nil ?_
            intro ww hw
            obtain ⟨X, rfl⟩ := hw
            have HL := Lib.hid (HL.out.later X.h)
            obtain ⟨w4, hx⟩ := X
            dsimp only at HL
            clear a0 a1 a2 a3 a4 b0 b1 b2 b3 b4
            clear hq2' T
            cases q3 with
            | false =>
              go_wp2_with fail
              refine bodyPost_ret (v := .tuple #[.slice (some ⟨g, off, none⟩) n0 lc, .bool false]) (by simp [results, Tryz.results27, go_sem]) rfl ?_
              refine ⟨_, l, false, rfl, HH.out.1.later HL.out.below, .inr ⟨rfl, HCL.out ?_⟩, HL.out.below⟩
              unfold mTb
              rw [if_neg]
              rintro ⟨-, h⟩
              have h1 := HQ3.out
              rw [eqB_yes h] at h1
              cases h1
            | true =>
              have HM := Lib.hid (show mTb (l.map (·.t))[k] tx = some (plus ty tx.acks) from by
                rw [← HY.out]
                unfold mTb
                rw [if_pos ⟨bytes_eq.1 HQ2.out.symm, eqB_iff.1 HQ3.out.symm⟩])
              have HP := Lib.hid (PutAt.meet (z := plus ty tx.acks) mTb_key HH.out.2 HP.out hkl2 (by rw [← HY.out]; exact HKE.out) HM.out)
              obtain ⟨G, hG⟩ : ∃ G, G = w4.heap.size := ⟨_, rfl⟩
              obtain ⟨W5, hW5⟩ : ∃ W5, W5 = w4.alloc (.cells #[.int .i64 ty.node, .int .i64 ty.n, .string ty.id, .slice yp3 yl3 ym3, .slice yp4 yl4 ym4] 43) := ⟨_, rfl⟩
              have hb5 : Below w4.heap.size w4 W5 := by rw [hW5]; exact (Below.refl _ _).alloc (Nat.le_refl _) _
              have S5 := Lib.hid (show RbSt w #[.int .i64 tx.node, .int .i64 tx.n, .string tx.id, .slice xp3 xl3 xm3, .slice xp4 xl4 xm4] (.slice ao n c) n o W5 ∧ BlkIs W5 G 43 #[.int .i64 ty.node, .int .i64 ty.n, .string ty.id, .slice yp3 yl3 ym3, .slice yp4 yl4 ym4] ∧ Kept w W5 ⟨plus ty (tx.acks.take 0), .slice yp3 yl3 ym3, .slice yp4 yl4 ym4⟩ from by
                refine ⟨HL.out.later hb5, by rw [hW5, hG]; exact BlkIs.new _ _ _, ?_⟩
                rw [show plus ty (tx.acks.take 0) = ty from plus_none (tomb_rise HYR.out.2.1)]
                exact Kept.old HYR.out.1)
              have HO := Lib.hid (show (Value.slice ao n c).ownBlock ≠ some G ∧ w.heap.size < G from ⟨fun h => by have := (HL.out.sl.lt _ h).2; omega, by rw [hG]; exact HL.out.bx.lt⟩)
              have HW5 := Lib.hid (And.intro hW5 hG)
              clear hb5 hW5 hG
              go_upto_region 9 with (fail)
              have u0 : w4.cell? ⟨g, off + k * 5, none⟩ = some (.int .i64 ty.node) := (HL.out.below.cell (p := ⟨g, off + k * 5, none⟩) HGL.out).trans HU0.out
              have u1 : w4.cell? ⟨g, off + k * 5 + 1, none⟩ = some (.int .i64 ty.n) := (HL.out.below.cell (p := ⟨g, off + k * 5 + 1, none⟩) HGL.out).trans HU1.out
              have u2 : w4.cell? ⟨g, off + k * 5 + 2, none⟩ = some (.string ty.id) := (HL.out.below.cell (p := ⟨g, off + k * 5 + 2, none⟩) HGL.out).trans HU2.out
              have u3 : w4.cell? ⟨g, off + k * 5 + 3, none⟩ = some (.slice yp3 yl3 ym3) := (HL.out.below.cell (p := ⟨g, off + k * 5 + 3, none⟩) HGL.out).trans HU3.out
              have u4 : w4.cell? ⟨g, off + k * 5 + 4, none⟩ = some (.slice yp4 yl4 ym4) := (HL.out.below.cell (p := ⟨g, off + k * 5 + 4, none⟩) HGL.out).trans HU4.out
              go_upto_region 10 with (fail)
              rw [← HW5.out.1, ← HW5.out.2]
              clear u0 u1 u2 u3 u4
              go_wp2_with fail
              go_loopw [10] (fun i wr => ∃ (j l4 m4 : Nat) (p4 : Option Addr), i = .int .i64 (j : Int) ∧ j ≤ xl4 ∧ Hid (RbSt w #[.int .i64 tx.node, .int .i64 tx.n, .string tx.id, .slice xp3 xl3 xm3, .slice xp4 xl4 xm4] (.slice ao n c) n o wr ∧ BlkIs wr G 43 #[.int .i64 ty.node, .int .i64 ty.n, .string ty.id, .slice yp3 yl3 ym3, .slice p4 l4 m4] ∧ Kept w wr ⟨plus ty (tx.acks.take j), .slice yp3 yl3 ym3, .slice p4 l4 m4⟩)) (fun i _ => ((xl4 : Int) - intOf i).toNat)
              case atStart => exact ⟨0, _, _, _, rfl, Nat.zero_le _, S5⟩
              case round =>
                obtain ⟨j, l4, m4, p4, rfl, hjn, HJ⟩ := hrel
                clear S5
                rcases Nat.lt_or_ge j xl4 with hjl | hjg
                · have ji : (j : Int) < xl4 := by omega
                  have jw : IntKind.i64.wrap ((j : Int) + 1) = ((j + 1 : Nat) : Int) := IntWalk.i64_in _ (by omega)
                  have hja : j < tx.acks.length := by have := HFX.out.2; omega
                  obtain ⟨gx, offx, hagx, hglx, hcx⟩ := HX.out.2.at_ (by omega)
                  subst hagx
                  obtain ⟨nv, hnv⟩ : ∃ nv, nv = tx.acks[j] := ⟨_, rfl⟩
                  have HUX := Lib.hid (show w.cell? ⟨gx, offx + j, none⟩ = some (.int .i64 nv) from by rw [hnv]; have h1 := hcx j hja 0 _ rfl; rwa [Nat.mul_one, Nat.add_zero] at h1)
                  have HGX := Lib.hid hglx
                  have HNV := Lib.hid hnv
                  clear hnv hglx hcx
                  have x4 : wr.cell? ⟨w.heap.size, 4, none⟩ = some (.slice (some ⟨gx, offx, none⟩) xl4 xm4) := HJ.out.1.bx.cell 4
                  go_upto_region 13 with (fail)
                  clear x4
                  have hbd : Below wr.heap.size wr wr.drew := ⟨rfl, rfl, rfl, Nat.le_refl _, fun _ _ => rfl⟩
                  have e4 : wr.drew.cell? ⟨G, 4, none⟩ = some (.slice p4 l4 m4) := HJ.out.2.1.cell 4
                  have HK := Lib.hid (show ∀ W, RbSt w #[.int .i64 tx.node, .int .i64 tx.n, .string tx.id, .slice xp3 xl3 xm3, .slice (some ⟨gx, offx, none⟩) xl4 xm4] (.slice ao n c) n o W → W.cell? ⟨w.heap.size, 4, none⟩ = some (.slice (some ⟨gx, offx, none⟩) xl4 xm4) ∧ W.cell? ⟨gx, offx + j, none⟩ = some (.int .i64 nv) from fun W hb => ⟨hb.bx.cell 4, (hb.below.cell (p := ⟨gx, offx + j, none⟩) HGX.out).trans HUX.out⟩)
                  obtain ⟨z2, hz2⟩ : ∃ z2, z2 = sortU (ty.acks ++ tx.acks.take j) := ⟨_, rfl⟩
                  have R := Lib.hid (racks_any (.slice p4 l4 m4) (sortU (ty.acks ++ tx.acks.take j)) nv wr.drew ((HJ.out.2.2.reads HJ.out.1.below).2.later hbd) (sortU_rise _) (by have h1 := HJ.out.2.2.short HYR.out.2.1 HGD.out.2 (j := j); omega))
                  refine wp_region_held_drew (S := fun W => W.cell? ⟨w.heap.size, 4, none⟩ = some (.slice (some ⟨gx, offx, none⟩) xl4 xm4) ∧ W.cell? ⟨gx, offx + j, none⟩ = some (.int .i64 nv)) (by kernel_rfl) (HK.out _ (HJ.out.1.later hbd)) (fun hHeld => ?_)
                  refine wpAnyH_take (i := 0) (v := .pointer (some ⟨G, 4, none⟩)) rfl (by kernel_rfl) (by kernel_rfl) (by kernel_rfl) (fun _ _ _ h => h) (Or.inl ⟨by kernel_rfl, fun w hSw => ?_⟩) (by assumption) ?_
                  · dsimp only at hSw
                    go_simp
                  simp only [Act.put, List.setIfInBounds_toArray, List.set_cons_zero, List.set_cons_succ]
                  refine wpAnyH_take (i := 2) (v := .pointer (some ⟨w.heap.size, 4, none⟩)) rfl (by kernel_rfl) (by kernel_rfl) (by kernel_rfl) (fun _ _ _ h => h) (Or.inl ⟨by kernel_rfl, fun w hSw => ?_⟩) (by assumption) ?_
                  · dsimp only at hSw
                    go_simp
                  simp only [Act.put, List.setIfInBounds_toArray, List.set_cons_zero, List.set_cons_succ]
                  refine wpAnyH_take (i := 3) (v := .slice (some ⟨gx, offx, none⟩) xl4 xm4) rfl (by kernel_rfl) (by kernel_rfl) (by kernel_rfl) (fun _ _ _ h => h) (Or.inl ⟨by kernel_rfl, fun w hSw => ?_⟩) (by assumption) ?_
                  · dsimp only at hSw
                    go_simp
                  simp only [Act.put, List.setIfInBounds_toArray, List.set_cons_zero, List.set_cons_succ]
                  refine wpAnyH_take (i := 4) (v := .int .i64 (j : Int)) rfl (by kernel_rfl) (by kernel_rfl) (by kernel_rfl) (fun _ _ _ h => h) (Or.inl ⟨by kernel_rfl, fun w hSw => ?_⟩) (by assumption) ?_
                  · dsimp only at hSw
                    go_simp
                  simp only [Act.put, List.setIfInBounds_toArray, List.set_cons_zero, List.set_cons_succ]
                  refine wpAnyH_take (i := 5) (v := .pointer (some ⟨gx, offx + j, none⟩)) rfl (by kernel_rfl) (by kernel_rfl) (by kernel_rfl) (fun _ _ _ h => h) (Or.inl ⟨by kernel_rfl, fun w hSw => ?_⟩) (by assumption) ?_
                  · dsimp only at hSw
                    go_simp
                  simp only [Act.put, List.setIfInBounds_toArray, List.set_cons_zero, List.set_cons_succ]
                  refine wpAnyH_take (i := 6) (v := .int .i64 nv) rfl (by kernel_rfl) (by kernel_rfl) (by kernel_rfl) (fun _ _ _ h => h) (Or.inl ⟨by kernel_rfl, fun w hSw => ?_⟩) (by assumption) ?_
                  · dsimp only at hSw
                    go_simp
                  simp only [Act.put, List.setIfInBounds_toArray, List.set_cons_zero, List.set_cons_succ]
                  refine wpAnyH_ready (rs := [1]) (by kernel_rfl) (by simp) ?_
                  refine AllReadyH.cons rfl (fun K hK => ?_) AllReadyH.nil
                  go_simp
                  refine hK.out _ _ ?_ (fun hHeld2 => ?_)
                  · exact hHeld
                  clear hK K e4
                  refine wpAnyH_ready (rs := [7]) (by kernel_rfl) (by simp) ?_
                  refine AllReadyH.cons rfl (fun K hK => ?_) AllReadyH.nil
                  go_simp
                  go_wp2_with (
                    go_at_call 46
                    refine R.out.mono ?_
                    rintro e w6 ⟨v6, rfl, hv, hb⟩
                    have hform : ∃ zp4 zl4 zm4, v6 = .slice zp4 zl4 zm4 := by
                      rcases hv with ⟨rfl, -⟩ | hv
                      · exact ⟨_, _, _, rfl⟩
                      · obtain ⟨p, m0, rfl, -, -, -⟩ := hv.form
                        exact ⟨_, _, _, rfl⟩
                    obtain ⟨zp4, zl4, zm4, rfl⟩ := hform
                    have HV := Lib.hid hv
                    clear hv)
                  have hb6 : Below wr.heap.size wr w6 := hbd.trans (hb.mono hbd.size)
                  have HJ6 := Lib.hid (show RbSt w #[.int .i64 tx.node, .int .i64 tx.n, .string tx.id, .slice xp3 xl3 xm3, .slice (some ⟨gx, offx, none⟩) xl4 xm4] (.slice ao n c) n o w6 ∧ BlkIs w6 G 43 #[.int .i64 ty.node, .int .i64 ty.n, .string ty.id, .slice yp3 yl3 ym3, .slice p4 l4 m4] ∧ Kept w w6 ⟨plus ty (tx.acks.take (j + 1)), .slice yp3 yl3 ym3, .slice zp4 zl4 zm4⟩ from
                    ⟨HJ.out.1.later hb6, HJ.out.2.1.below hb6 HJ.out.2.1.lt, (HJ.out.2.2.later hb6).one_more (by have := HJ.out.1.bx.lt; show _ ≤ wr.drew.heap.size; exact this) hja HNV.out HV.out⟩)
                  refine hK.out _ _ ?_ (fun hHeld3 => ?_)
                  · exact HK.out _ HJ6.out.1
                  clear hK K hb hb6 R HV
                  have f4 : w6.cell? ⟨G, 4, none⟩ = some (.slice p4 l4 m4) := HJ6.out.2.1.cell 4
                  have ff : w6.frozen? ⟨G, 4, none⟩ = false := HJ6.out.2.1.free 4
                  refine wpAnyH_take (i := 8) (v := .pointer (some ⟨G, 4, none⟩)) rfl (by kernel_rfl) (by kernel_rfl) (by kernel_rfl) (fun _ _ _ h => h) (Or.inl ⟨by kernel_rfl, fun w hSw => ?_⟩) (by assumption) ?_
                  · dsimp only at hSw
                    go_simp
                  simp only [Act.put, List.setIfInBounds_toArray, List.set_cons_zero, List.set_cons_succ]
                  refine wpAnyH_ready (rs := [9]) (by kernel_rfl) (by simp) ?_
                  refine AllReadyH.cons rfl (fun K hK => ?_) AllReadyH.nil
                  go_simp
                  have HJ7 := Lib.hid (show RbSt w #[.int .i64 tx.node, .int .i64 tx.n, .string tx.id, .slice xp3 xl3 xm3, .slice (some ⟨gx, offx, none⟩) xl4 xm4] (.slice ao n c) n o (w6.setCell ⟨G, 4, none⟩ (.slice zp4 zl4 zm4)) ∧ BlkIs (w6.setCell ⟨G, 4, none⟩ (.slice zp4 zl4 zm4)) G 43 #[.int .i64 ty.node, .int .i64 ty.n, .string ty.id, .slice yp3 yl3 ym3, .slice zp4 zl4 zm4] ∧ Kept w (w6.setCell ⟨G, 4, none⟩ (.slice zp4 zl4 zm4)) ⟨plus ty (tx.acks.take (j + 1)), .slice yp3 yl3 ym3, .slice zp4 zl4 zm4⟩ from
                    ⟨HJ6.out.1.cell4 HJ6.out.2.1 HO.out.1 HO.out.2 _, HJ6.out.2.1.put 4 _, HJ6.out.2.2.put HJ6.out.2.1 (by decide) (by decide) _ _⟩)
                  refine hK.out _ _ ?_ (fun hHeld4 => ?_)
                  · exact HK.out _ HJ7.out.1
                  clear hK K f4 ff hHeld hHeld2 hHeld3 hHeld4
                  refine wpAnyH_done (by kernel_rfl) ?_ _
                  obtain ⟨W7, hW7⟩ : ∃ W7, W7 = w6.setCell ⟨G, 4, none⟩ (.slice zp4 zl4 zm4) := ⟨_, rfl⟩
                  rw [← hW7] at HJ7 ⊢
                  clear hW7 HJ HJ6 hbd HK
                  go_wp2_with fail
                  exact ⟨⟨j + 1, _, _, _, by simp, by omega, HJ7⟩, by simp [intOf]; omega⟩
                · have ji : ¬ ((j : Int) < xl4) := by omega
                  have ji2 : decide ((j : Int) < xl4) = false := decide_eq_false ji
                  obtain rfl : j = xl4 := Nat.le_antisymm hjn hjg
                  clear ji
                  have x4 : wr.cell? ⟨w.heap.size, 4, none⟩ = some (.slice xp4 j xm4) := HJ.out.1.bx.cell 4
                  go_upto_region 14 with (fail)
                  clear x4 ji2
                  have HL := Lib.hid HJ.out.1
                  have HKZ := Lib.hid (show Kept w wr ⟨plus ty tx.acks, .slice yp3 yl3 ym3, .slice p4 l4 m4⟩ from by
                    have h1 := HJ.out.2.2
                    rwa [HFX.out.2, List.take_length] at h1)
                  have e0 : wr.cell? ⟨G, 0, none⟩ = some (.int .i64 ty.node) := HJ.out.2.1.cell 0
                  have e1 : wr.cell? ⟨G, 1, none⟩ = some (.int .i64 ty.n) := HJ.out.2.1.cell 1
                  have e2 : wr.cell? ⟨G, 2, none⟩ = some (.string ty.id) := HJ.out.2.1.cell 2
                  have e3 : wr.cell? ⟨G, 3, none⟩ = some (.slice yp3 yl3 ym3) := HJ.out.2.1.cell 3
                  have e4 : wr.cell? ⟨G, 4, none⟩ = some (.slice p4 l4 m4) := HJ.out.2.1.cell 4
                  go_wp2_with (at_builtin; refine wpList_append_sl rfl _ _ _ 24 (by rfl) el_tb (base := w.heap.size + 1) (.slice ao (n) c) (n) (rowCells vTb (o)) (by rfl) (HL.out.sl.alloc _) _ 1 [.int .i64 ty.node, .int .i64 ty.n, .string ty.id, .slice yp3 yl3 ym3, .slice p4 l4 m4] (by rfl) (SrcIs.own Tryz.underlying24 (SlIs.made (base := 0) (BlkIs.new _ _ _) (Nat.zero_le _) rfl (by decide))) (by intro u hu; simp at hu; rcases hu with rfl | rfl | rfl | rfl | rfl <;> rfl) (by unfold maxLen; omega) (by omega) (by have := HL.out.bx.lt; simp; omega) ?_)
                  intro v5 w5 hs hg hat
                  have HL := Lib.hid (HL.out.app (y := ⟨plus ty tx.acks, .slice yp3 yl3 ym3, .slice p4 l4 m4⟩) HKZ.out hs hg)
                  obtain ⟨ao5, c5, rfl, -, -, -⟩ := hs.form
                  clear hs hg hat
                  clear e0 e1 e2 e3 e4
                  go_wp2_with fail
                  exact ⟨⟨k + 1, n + 1, c5, true, ao5, o ++ [⟨plus ty tx.acks, .slice yp3 yl3 ym3, .slice p4 l4 m4⟩], rfl, rfl, by simp, by omega, (fun h => by cases h), by omega, HL, mapd HP⟩, by simp [intOf]; omega⟩
    · have ki : ¬ ((k : Int) < n0) := by omega
      have ki2 : decide ((k : Int) < n0) = false := decide_eq_false ki
      obtain rfl : k = n0 := Nat.le_antisymm hkn hge
      have hp1 := HP.out
      rw [HN.out, show l.length = (l.map (·.t)).length by rw [List.length_map]] at hp1
      have HP := Lib.hid hp1
      clear ki hp1
      cases put with
      | true =>
        go_wp2_with fail
        refine bodyPost_ret (v := .tuple #[.slice ao n c, .bool true]) (by simp [results, Tryz.results27, go_sem]) rfl ?_
        refine ⟨_, o, true, rfl, HL.out.tombs, .inl ⟨rfl, PutAt.done HP.out⟩, HL.out.below⟩
      | false =>
        have x0 : wr.cell? ⟨w.heap.size, 0, none⟩ = some (.int .i64 tx.node) := HL.out.bx.cell 0
        have x1 : wr.cell? ⟨w.heap.size, 1, none⟩ = some (.int .i64 tx.n) := HL.out.bx.cell 1
        have x2 : wr.cell? ⟨w.heap.size, 2, none⟩ = some (.string tx.id) := HL.out.bx.cell 2
        have x3 : wr.cell? ⟨w.heap.size, 3, none⟩ = some (.slice xp3 xl3 xm3) := HL.out.bx.cell 3
        have x4 : wr.cell? ⟨w.heap.size, 4, none⟩ = some (.slice xp4 xl4 xm4) := HL.out.bx.cell 4
        go_wp2_with (at_builtin; refine wpList_append_sl rfl _ _ _ 24 (by rfl) el_tb (base := w.heap.size + 1) (.slice ao (n) c) (n) (rowCells vTb (o)) (by rfl) (HL.out.sl.alloc _) _ 1 [.int .i64 tx.node, .int .i64 tx.n, .string tx.id, .slice xp3 xl3 xm3, .slice xp4 xl4 xm4] (by rfl) (SrcIs.own Tryz.underlying24 (SlIs.made (base := 0) (BlkIs.new _ _ _) (Nat.zero_le _) rfl (by decide))) (by intro u hu; simp at hu; rcases hu with rfl | rfl | rfl | rfl | rfl <;> rfl) (by unfold maxLen; omega) (by omega) (by have := HL.out.bx.lt; simp; omega) ?_)
        intro v5 w5 hs hg hat
        have HL := Lib.hid (HL.out.app (y := ⟨tx, .slice xp3 xl3 xm3, .slice xp4 xl4 xm4⟩) (HKX.out _ HL.out.below) hs hg)
        obtain ⟨ao5, c5, rfl, -, -, -⟩ := hs.form
        clear hs hg hat
        clear x0 x1 x2 x3 x4
        go_wp2_with fail
        refine bodyPost_ret (v := .tuple #[.slice ao5 (n + 1) c5, .bool true]) (by simp [results, Tryz.results27, go_sem]) rfl ?_
        refine ⟨_, o ++ [⟨tx, .slice xp3 xl3 xm3, .slice xp4 xl4 xm4⟩], true, rfl, HL.out.tombs, .inl ⟨rfl, ?_⟩, HL.out.below⟩
        have h1 := PutAt.last HH.out.2 HP.out
        rw [List.map_append]
        exact h1
end Go.Proofs.YtbmknmjcoeinkaaGreat.Mg

