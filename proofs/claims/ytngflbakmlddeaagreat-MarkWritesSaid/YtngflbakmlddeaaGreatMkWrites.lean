/- The law MarkWrites, walked. (Layer 12.) -/
import Derived.Test.YtngflbakmlddeaaGreatMk9
import Derived.Test.YtngflbakmlddeaaGreatMk14
import Derived.Test.YtngflbakmlddeaaGreatMk27
import Derived.Test.YtngflbakmlddeaaGreatMk28
namespace Go.Proofs.YtngflbakmlddeaaGreat.Mk
set_option linter.unusedVariables false
open Go.RowKit
/-- The bytes that both hand back. -/
theorem both_encode (m : MkR) (hs : m.Small) : ∃ (S : ByteArray) (k : Int), (∀ W, m.Reads W → Calls Tryz.prog 12 #[aMk m] W fun e w' => e = .returned (.tuple #[.string S, .int .i64 k]) ∧ Below W.heap.size W w') ∧
    ∀ W, m.Reads W → Calls Tryz.prog 13 #[aMk m] W fun e w' => e = .returned (.tuple #[.string S, .int .i64 k]) ∧ Below W.heap.size W w' := by
  cases hg : goodB m.mk_
  · exact ⟨⟨#[]⟩, 1, fun W h => encode_bad m W h hs.2.2.2 hg, fun W h => rencode_bad m W h hs.2.2.2 hs.2.1 hg⟩
  · exact ⟨enMk m.mk_, 0, fun W h => encode_good m W h hs.2.2.2 hg, fun W h => rencode_good m W h hs.2.2.2 hs.2.1 hg⟩
set_option maxRecDepth 100000 in
set_option maxHeartbeats 2000000 in
theorem writes_any (m : MkR) (w : World) (h : m.Reads w) : Calls Tryz.prog 3 #[aMk m] w fun e w' => e = .returned (.bool true) ∧ Below w.heap.size w w' := by
  have GR := fun W hW => great_any m W hW
  have BE := both_encode m
  have GG := fun (hs : m.Small) W hW => good_any m W hW hs.2.2.2
  have RG := fun (hs : m.Small) W hW => rgood_any m W hW hs.2.2.2 hs.2.1
  obtain ⟨M, hM⟩ : ∃ M, M = m := ⟨_, rfl⟩
  rw [← hM] at GR BE GG RG h
  obtain ⟨V, hV⟩ : ∃ V, V = aMk m := ⟨_, rfl⟩
  have hVM : aMk M = V := by rw [hM, hV]
  obtain ⟨a, b, c, hf⟩ : ∃ a b c, V = .agg #[a, b, c] := ⟨_, _, _, hV⟩
  obtain ⟨o1, f1, g1, -, -⟩ := h.1.form
  obtain ⟨o2, f2, g2, -, -⟩ := h.2.1.form
  obtain ⟨o3, f3, g3, -, -⟩ := h.2.2.1.form
  obtain ⟨n1, hn1⟩ : ∃ k, k = M.refs.length := ⟨_, rfl⟩
  obtain ⟨n2, hn2⟩ : ∃ k, k = M.toks.length := ⟨_, rfl⟩
  obtain ⟨n3, hn3⟩ : ∃ k, k = M.tombs.length := ⟨_, rfl⟩
  rw [← hn1] at g1
  rw [← hn2] at g2
  rw [← hn3] at g3
  have hA : aMk M = .agg #[.slice o1 n1 f1, .slice o2 n2 f2, .slice o3 n3 f3] := by unfold aMk; rw [g1, g2, g3]
  rw [show aMk m = .agg #[.slice o1 n1 f1, .slice o2 n2 f2, .slice o3 n3 f3] by rw [← hM]; exact hA]
  rw [hA] at GR BE GG RG
  obtain ⟨W1, hW1⟩ : ∃ W1, W1 = w.alloc (.cells #[.slice o1 n1 f1, .slice o2 n2 f2, .slice o3 n3 f3] 26) := ⟨_, rfl⟩
  have hb1 : Below w.heap.size w W1 := by rw [hW1]; exact (Below.refl _ _).alloc (Nat.le_refl _) _
  have k1 : BlkIs W1 w.heap.size 26 #[.slice o1 n1 f1, .slice o2 n2 f2, .slice o3 n3 f3] := by rw [hW1]; exact BlkIs.new _ _ _
  have AW := Lib.hid (awake_any W1)
  have H := Lib.hid (And.intro (h.later hb1) (And.intro hb1 k1))
  have HGR := Lib.hid GR
  have HBE := Lib.hid BE
  have HGG := Lib.hid GG
  have HRG := Lib.hid RG
  have HW := Lib.hid hW1
  clear GR BE GG RG hV hVM hf hn1 hn2 hn3 g1 g2 g3 hA hW1 hb1 k1 hM
  go_enter Tryz.func3, Tryz.ntmps3
  go_wp2_with fail
  rw [← HW.out]
  refine AW.out.mono ?_
  rintro e w2 ⟨rfl, hb2⟩
  have k2 := BlkIs.below H.out.2.2 hb2 H.out.2.2.lt
  have H2 := Lib.hid (And.intro (H.out.1.later hb2) (And.intro (H.out.2.1.trans (hb2.mono H.out.2.1.size)) k2))
  have c0 : w2.cell? ⟨w.heap.size, 0, none⟩ = some (.slice o1 n1 f1) := k2.cell 0
  have c1 : w2.cell? ⟨w.heap.size, 1, none⟩ = some (.slice o2 n2 f2) := k2.cell 1
  have c2 : w2.cell? ⟨w.heap.size, 2, none⟩ = some (.slice o3 n3 f3) := k2.cell 2
  clear k2 hb2 AW HW
  go_wp2_with fail
  clear c0 c1 c2
  refine (HGR.out w2 H2.out.1).mono ?_
  rintro e w3 ⟨⟨v, rfl, hlow⟩, hb⟩
  have k3 := BlkIs.below H2.out.2.2 hb H2.out.2.2.lt
  have H3 := Lib.hid (And.intro (H2.out.1.later hb) (And.intro (H2.out.2.1.trans (hb.mono H2.out.2.1.size)) k3))
  have c0 : w3.cell? ⟨w.heap.size, 0, none⟩ = some (.slice o1 n1 f1) := k3.cell 0
  have c1 : w3.cell? ⟨w.heap.size, 1, none⟩ = some (.slice o2 n2 f2) := k3.cell 1
  have c2 : w3.cell? ⟨w.heap.size, 2, none⟩ = some (.slice o3 n3 f3) := k3.cell 2
  clear k3 hb
  cases v
  case true =>
    clear hlow
    go_wp2_with fail
    go_ret
    exact ⟨rfl, H3.out.2.1⟩
  have hs := (hlow rfl).small
  obtain ⟨S, kk, BE1, BE2⟩ := HBE.out hs
  have B1 := Lib.hid (BE1 w3 H3.out.1)
  have B2 := Lib.hid BE2
  have GG := Lib.hid (HGG.out hs)
  have RG := Lib.hid (HRG.out hs)
  clear hlow hs BE1 BE2 HGR HBE HGG HRG
  go_wp2_with fail
  clear c0 c1 c2
  refine B1.out.mono ?_
  rintro e w4 ⟨rfl, hb⟩
  have k4 := BlkIs.below H3.out.2.2 hb H3.out.2.2.lt
  have H4 := Lib.hid (And.intro (H3.out.1.later hb) (And.intro (H3.out.2.1.trans (hb.mono H3.out.2.1.size)) k4))
  have c0 : w4.cell? ⟨w.heap.size, 0, none⟩ = some (.slice o1 n1 f1) := k4.cell 0
  have c1 : w4.cell? ⟨w.heap.size, 1, none⟩ = some (.slice o2 n2 f2) := k4.cell 1
  have c2 : w4.cell? ⟨w.heap.size, 2, none⟩ = some (.slice o3 n3 f3) := k4.cell 2
  clear k4 hb
  go_wp2_with fail
  clear c0 c1 c2
  refine (B2.out w4 H4.out.1).mono ?_
  rintro e w5 ⟨rfl, hb⟩
  have k5 := BlkIs.below H4.out.2.2 hb H4.out.2.2.lt
  have H5 := Lib.hid (And.intro (H4.out.1.later hb) (And.intro (H4.out.2.1.trans (hb.mono H4.out.2.1.size)) k5))
  have c0 : w5.cell? ⟨w.heap.size, 0, none⟩ = some (.slice o1 n1 f1) := k5.cell 0
  have c1 : w5.cell? ⟨w.heap.size, 1, none⟩ = some (.slice o2 n2 f2) := k5.cell 1
  have c2 : w5.cell? ⟨w.heap.size, 2, none⟩ = some (.slice o3 n3 f3) := k5.cell 2
  clear k5 hb
  have s1 : (S.toList == S.toList) = true := by simp
  have u0 : ∀ X : LaterOf w5, X.w.cell? ⟨w.heap.size, 0, none⟩ = some (.slice o1 n1 f1) := fun X => (X.blk H5.out.2.2).cell 0
  have u1 : ∀ X : LaterOf w5, X.w.cell? ⟨w.heap.size, 1, none⟩ = some (.slice o2 n2 f2) := fun X => (X.blk H5.out.2.2).cell 1
  have u2 : ∀ X : LaterOf w5, X.w.cell? ⟨w.heap.size, 2, none⟩ = some (.slice o3 n3 f3) := fun X => (X.blk H5.out.2.2).cell 2
  obtain ⟨q, hq⟩ : ∃ q, q = goodB M.mk_ := ⟨_, rfl⟩
  have T1 := Lib.hid (fun X : LaterOf w5 => GG.out X.w (H5.out.1.later X.h))
  have T2 := Lib.hid (fun X : LaterOf w5 => RG.out X.w (H5.out.1.later X.h))
  rw [← hq] at T1 T2
  clear hq GG RG B1 B2
  go_wp2_with fail
  refine wp_region_all (fun w' => ∃ x : LaterOf w5, w' = x.w) (by kernel_rfl) (by kernel_rfl) ⟨LaterOf.start w5, rfl⟩ ?_
  repeat (go_big_quiet_step (first | with_reducible exact LaterOf.call _ (T1.out _) | with_reducible exact LaterOf.call _ (T2.out _)))
  refine wpQuiet_nil ?_
  intro w6 hw6
  obtain ⟨X, rfl⟩ := hw6
  have HB := Lib.hid (H5.out.2.1.trans (X.h.mono H5.out.2.1.size))
  clear u0 u1 u2 c0 c1 c2 T1 T2
  go_wp2_with fail
  go_ret
  exact ⟨by simp, HB.out⟩
end Go.Proofs.YtngflbakmlddeaaGreat.Mk
