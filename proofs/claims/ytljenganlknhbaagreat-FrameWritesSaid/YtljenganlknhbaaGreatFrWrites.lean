/- The law FrameWrites, walked: both Encodes give the same bytes and number, both Goods the same answer. Printed by gen_frwrites.py. (Layer 19.) -/
import Derived.Test.YtljenganlknhbaaGreatFrV
import Derived.Test.YtljenganlknhbaaGreatFrR7
import Derived.BigQuiet
namespace Go.Proofs.YtljenganlknhbaaGreat.Fr
set_option linter.unusedVariables false
set_option linter.unusedSimpArgs false
open Go.RowKit Go.Lib Oct
set_option maxRecDepth 100000 in
set_option maxHeartbeats 8000000 in
theorem writes_any (m : MsgR) (w : World) (h : m.Reads w) (hz : m.Sized) : Calls Tryz.prog 3 #[aMsg m] w fun e w' => e = .returned (.bool true) ∧ Below w.heap.size w w' := by
  obtain ⟨akk, asc, ads, ase, ast, ao1, an1, af1, ao2, an2, af2, ao3, an3, af3, ao4, an4, af4, ao5, an5, af5, ao6, an6, af6, ao7, an7, af7, hA⟩ := MsgR.agg h
  have EC := enc_cases m
  obtain ⟨W1, hW1⟩ : ∃ W1, W1 = w.alloc (.cells #[.int .i64 akk, .int .i64 asc, .int .i64 ads, .int .i64 ase, .int .i64 ast, .slice ao1 an1 af1, .slice ao2 an2 af2, .slice ao3 an3 af3, .slice ao4 an4 af4, .slice ao5 an5 af5, .slice ao6 an6 af6, .slice ao7 an7 af7] 30) := ⟨_, rfl⟩
  have hb1 : Below w.heap.size w W1 := by rw [hW1]; exact (Below.refl _ _).alloc (Nat.le_refl _) _
  have k1 : BlkIs W1 w.heap.size 30 #[.int .i64 akk, .int .i64 asc, .int .i64 ads, .int .i64 ase, .int .i64 ast, .slice ao1 an1 af1, .slice ao2 an2 af2, .slice ao3 an3 af3, .slice ao4 an4 af4, .slice ao5 an5 af5, .slice ao6 an6 af6, .slice ao7 an7 af7] := by rw [hW1]; exact BlkIs.new _ _ _
  have hr := h.later hb1
  have GR := Lib.hid (fun X : LaterOf W1 => great_any m X.w (hr.later X.h) hz)
  have HEC := Lib.hid (fun hs => (EC hs).imp (fun p => And.intro p.1 (fun X : LaterOf W1 => p.2 X.w (hr.later X.h))) (fun p => And.intro p.1 (fun X : LaterOf W1 => p.2 X.w (hr.later X.h))))
  have RB := Lib.hid (fun (hs : m.Small) (hg : goodM m.msg = false) (X : LaterOf W1) => rencode_bad m X.w (hr.later X.h) hs hg)
  have RG := Lib.hid (fun (hs : m.Small) (hg : goodM m.msg = true) (X : LaterOf W1) => rencode_good m X.w (hr.later X.h) hs hg)
  have GD := Lib.hid (fun (hs : m.Small) (X : LaterOf W1) => good_any m X.w (hr.later X.h) hs)
  have RD := Lib.hid (fun (hs : m.Small) (X : LaterOf W1) => rgood_any m X.w (hr.later X.h) hs)
  have u0 : ∀ X : LaterOf W1, X.w.cell? ⟨w.heap.size, 0, none⟩ = some (.int .i64 akk) := fun X => (X.blk k1).cell 0
  have u1 : ∀ X : LaterOf W1, X.w.cell? ⟨w.heap.size, 1, none⟩ = some (.int .i64 asc) := fun X => (X.blk k1).cell 1
  have u2 : ∀ X : LaterOf W1, X.w.cell? ⟨w.heap.size, 2, none⟩ = some (.int .i64 ads) := fun X => (X.blk k1).cell 2
  have u3 : ∀ X : LaterOf W1, X.w.cell? ⟨w.heap.size, 3, none⟩ = some (.int .i64 ase) := fun X => (X.blk k1).cell 3
  have u4 : ∀ X : LaterOf W1, X.w.cell? ⟨w.heap.size, 4, none⟩ = some (.int .i64 ast) := fun X => (X.blk k1).cell 4
  have u5 : ∀ X : LaterOf W1, X.w.cell? ⟨w.heap.size, 5, none⟩ = some (.slice ao1 an1 af1) := fun X => (X.blk k1).cell 5
  have u6 : ∀ X : LaterOf W1, X.w.cell? ⟨w.heap.size, 6, none⟩ = some (.slice ao2 an2 af2) := fun X => (X.blk k1).cell 6
  have u7 : ∀ X : LaterOf W1, X.w.cell? ⟨w.heap.size, 7, none⟩ = some (.slice ao3 an3 af3) := fun X => (X.blk k1).cell 7
  have u8 : ∀ X : LaterOf W1, X.w.cell? ⟨w.heap.size, 8, none⟩ = some (.slice ao4 an4 af4) := fun X => (X.blk k1).cell 8
  have u9 : ∀ X : LaterOf W1, X.w.cell? ⟨w.heap.size, 9, none⟩ = some (.slice ao5 an5 af5) := fun X => (X.blk k1).cell 9
  have u10 : ∀ X : LaterOf W1, X.w.cell? ⟨w.heap.size, 10, none⟩ = some (.slice ao6 an6 af6) := fun X => (X.blk k1).cell 10
  have u11 : ∀ X : LaterOf W1, X.w.cell? ⟨w.heap.size, 11, none⟩ = some (.slice ao7 an7 af7) := fun X => (X.blk k1).cell 11
  have HB := Lib.hid (fun X : LaterOf W1 => hb1.trans (X.h.mono hb1.size))
  have HW := Lib.hid hW1
  rw [hA] at GR HEC RB RG GD RD ⊢
  clear EC hA h hr k1 hb1 hW1 hz
  go_enter Tryz.func3, Tryz.ntmps3
  go_wp2_with fail
  rw [← HW.out]
  clear HW
  obtain ⟨X, hX⟩ := later_at W1
  rw [hX]
  refine (LaterOf.call X (awake_any X.w)).mono ?_
  clear hX
  rintro e _ ⟨rfl, X, rfl⟩
  go_wp2_with fail
  refine (GR.out X).mono ?_
  rintro e w' ⟨⟨v, rfl, hlow⟩, hb⟩
  obtain ⟨X, rfl⟩ := lat_next X hb
  clear hb GR
  cases v
  case true =>
    clear hlow
    go_wp2_with fail
    go_ret
    exact ⟨rfl, HB.out X⟩
  have hs := Lib.hid (hlow rfl)
  clear hlow
  have GD := Lib.hid (GD.out hs.out)
  have RD := Lib.hid (RD.out hs.out)
  rcases HEC.out hs.out with ⟨hg, EN⟩ | ⟨hg, EN⟩
  · have RN := Lib.hid (RB.out hs.out hg)
    have EN := Lib.hid EN
    rw [hg] at GD RD
    skip
    clear hg HEC RB RG
    go_wp2_with fail
    refine (LaterOf.call X (EN.out X)).mono ?_
    rintro e _ ⟨rfl, X, rfl⟩
    go_wp2_with fail
    refine (LaterOf.call X (RN.out X)).mono ?_
    rintro e _ ⟨rfl, X, rfl⟩
    obtain ⟨w5, h5⟩ := X
    have HB5 := Lib.hid (HB.out ⟨w5, h5⟩)
    have T1 := Lib.hid (fun Y : LaterOf w5 => (show Calls Tryz.prog 12 #[.agg #[.int .i64 akk, .int .i64 asc, .int .i64 ads, .int .i64 ase, .int .i64 ast, .slice ao1 an1 af1, .slice ao2 an2 af2, .slice ao3 an3 af3, .slice ao4 an4 af4, .slice ao5 an5 af5, .slice ao6 an6 af6, .slice ao7 an7 af7]] Y.w fun e w' => e = .returned (.bool false) ∧ Below Y.w.heap.size Y.w w' from GD.out ⟨Y.w, h5.trans (Y.h.mono h5.size)⟩))
    have T2 := Lib.hid (fun Y : LaterOf w5 => (show Calls Tryz.prog 13 #[.agg #[.int .i64 akk, .int .i64 asc, .int .i64 ads, .int .i64 ase, .int .i64 ast, .slice ao1 an1 af1, .slice ao2 an2 af2, .slice ao3 an3 af3, .slice ao4 an4 af4, .slice ao5 an5 af5, .slice ao6 an6 af6, .slice ao7 an7 af7]] Y.w fun e w' => e = .returned (.bool false) ∧ Below Y.w.heap.size Y.w w' from RD.out ⟨Y.w, h5.trans (Y.h.mono h5.size)⟩))
    have v0 : ∀ Y : LaterOf w5, Y.w.cell? ⟨w.heap.size, 0, none⟩ = some (.int .i64 akk) := fun Y => u0 ⟨Y.w, h5.trans (Y.h.mono h5.size)⟩
    have v1 : ∀ Y : LaterOf w5, Y.w.cell? ⟨w.heap.size, 1, none⟩ = some (.int .i64 asc) := fun Y => u1 ⟨Y.w, h5.trans (Y.h.mono h5.size)⟩
    have v2 : ∀ Y : LaterOf w5, Y.w.cell? ⟨w.heap.size, 2, none⟩ = some (.int .i64 ads) := fun Y => u2 ⟨Y.w, h5.trans (Y.h.mono h5.size)⟩
    have v3 : ∀ Y : LaterOf w5, Y.w.cell? ⟨w.heap.size, 3, none⟩ = some (.int .i64 ase) := fun Y => u3 ⟨Y.w, h5.trans (Y.h.mono h5.size)⟩
    have v4 : ∀ Y : LaterOf w5, Y.w.cell? ⟨w.heap.size, 4, none⟩ = some (.int .i64 ast) := fun Y => u4 ⟨Y.w, h5.trans (Y.h.mono h5.size)⟩
    have v5 : ∀ Y : LaterOf w5, Y.w.cell? ⟨w.heap.size, 5, none⟩ = some (.slice ao1 an1 af1) := fun Y => u5 ⟨Y.w, h5.trans (Y.h.mono h5.size)⟩
    have v6 : ∀ Y : LaterOf w5, Y.w.cell? ⟨w.heap.size, 6, none⟩ = some (.slice ao2 an2 af2) := fun Y => u6 ⟨Y.w, h5.trans (Y.h.mono h5.size)⟩
    have v7 : ∀ Y : LaterOf w5, Y.w.cell? ⟨w.heap.size, 7, none⟩ = some (.slice ao3 an3 af3) := fun Y => u7 ⟨Y.w, h5.trans (Y.h.mono h5.size)⟩
    have v8 : ∀ Y : LaterOf w5, Y.w.cell? ⟨w.heap.size, 8, none⟩ = some (.slice ao4 an4 af4) := fun Y => u8 ⟨Y.w, h5.trans (Y.h.mono h5.size)⟩
    have v9 : ∀ Y : LaterOf w5, Y.w.cell? ⟨w.heap.size, 9, none⟩ = some (.slice ao5 an5 af5) := fun Y => u9 ⟨Y.w, h5.trans (Y.h.mono h5.size)⟩
    have v10 : ∀ Y : LaterOf w5, Y.w.cell? ⟨w.heap.size, 10, none⟩ = some (.slice ao6 an6 af6) := fun Y => u10 ⟨Y.w, h5.trans (Y.h.mono h5.size)⟩
    have v11 : ∀ Y : LaterOf w5, Y.w.cell? ⟨w.heap.size, 11, none⟩ = some (.slice ao7 an7 af7) := fun Y => u11 ⟨Y.w, h5.trans (Y.h.mono h5.size)⟩
    clear u0 u1 u2 u3 u4 u5 u6 u7 u8 u9 u10 u11 GD RD EN RN
    have s1 : ((⟨#[]⟩ : ByteArray).toList == (⟨#[]⟩ : ByteArray).toList) = true := by simp
    go_wp2_with fail
    refine wp_region_all (fun w' => ∃ x : LaterOf w5, w' = x.w) (by kernel_rfl) (by kernel_rfl) ⟨LaterOf.start w5, rfl⟩ ?_
    repeat (go_big_quiet_step (first | with_reducible exact LaterOf.call _ (T1.out _) | with_reducible exact LaterOf.call _ (T2.out _)))
    refine wpQuiet_nil ?_
    intro w6 hw6
    obtain ⟨Y, rfl⟩ := hw6
    clear v0 v1 v2 v3 v4 v5 v6 v7 v8 v9 v10 v11 T1 T2
    go_wp2_with fail
    go_ret
    exact ⟨by simp, HB5.out.trans (Y.h.mono HB5.out.size)⟩
  · have RN := Lib.hid (RG.out hs.out hg)
    have EN := Lib.hid EN
    rw [hg] at GD RD
    obtain ⟨S, hS⟩ : ∃ S, S = encM m.msg := ⟨_, rfl⟩
    rw [← hS] at EN RN
    clear hS
    clear hg HEC RB RG
    go_wp2_with fail
    refine (LaterOf.call X (EN.out X)).mono ?_
    rintro e _ ⟨rfl, X, rfl⟩
    go_wp2_with fail
    refine (LaterOf.call X (RN.out X)).mono ?_
    rintro e _ ⟨rfl, X, rfl⟩
    obtain ⟨w5, h5⟩ := X
    have HB5 := Lib.hid (HB.out ⟨w5, h5⟩)
    have T1 := Lib.hid (fun Y : LaterOf w5 => (show Calls Tryz.prog 12 #[.agg #[.int .i64 akk, .int .i64 asc, .int .i64 ads, .int .i64 ase, .int .i64 ast, .slice ao1 an1 af1, .slice ao2 an2 af2, .slice ao3 an3 af3, .slice ao4 an4 af4, .slice ao5 an5 af5, .slice ao6 an6 af6, .slice ao7 an7 af7]] Y.w fun e w' => e = .returned (.bool true) ∧ Below Y.w.heap.size Y.w w' from GD.out ⟨Y.w, h5.trans (Y.h.mono h5.size)⟩))
    have T2 := Lib.hid (fun Y : LaterOf w5 => (show Calls Tryz.prog 13 #[.agg #[.int .i64 akk, .int .i64 asc, .int .i64 ads, .int .i64 ase, .int .i64 ast, .slice ao1 an1 af1, .slice ao2 an2 af2, .slice ao3 an3 af3, .slice ao4 an4 af4, .slice ao5 an5 af5, .slice ao6 an6 af6, .slice ao7 an7 af7]] Y.w fun e w' => e = .returned (.bool true) ∧ Below Y.w.heap.size Y.w w' from RD.out ⟨Y.w, h5.trans (Y.h.mono h5.size)⟩))
    have v0 : ∀ Y : LaterOf w5, Y.w.cell? ⟨w.heap.size, 0, none⟩ = some (.int .i64 akk) := fun Y => u0 ⟨Y.w, h5.trans (Y.h.mono h5.size)⟩
    have v1 : ∀ Y : LaterOf w5, Y.w.cell? ⟨w.heap.size, 1, none⟩ = some (.int .i64 asc) := fun Y => u1 ⟨Y.w, h5.trans (Y.h.mono h5.size)⟩
    have v2 : ∀ Y : LaterOf w5, Y.w.cell? ⟨w.heap.size, 2, none⟩ = some (.int .i64 ads) := fun Y => u2 ⟨Y.w, h5.trans (Y.h.mono h5.size)⟩
    have v3 : ∀ Y : LaterOf w5, Y.w.cell? ⟨w.heap.size, 3, none⟩ = some (.int .i64 ase) := fun Y => u3 ⟨Y.w, h5.trans (Y.h.mono h5.size)⟩
    have v4 : ∀ Y : LaterOf w5, Y.w.cell? ⟨w.heap.size, 4, none⟩ = some (.int .i64 ast) := fun Y => u4 ⟨Y.w, h5.trans (Y.h.mono h5.size)⟩
    have v5 : ∀ Y : LaterOf w5, Y.w.cell? ⟨w.heap.size, 5, none⟩ = some (.slice ao1 an1 af1) := fun Y => u5 ⟨Y.w, h5.trans (Y.h.mono h5.size)⟩
    have v6 : ∀ Y : LaterOf w5, Y.w.cell? ⟨w.heap.size, 6, none⟩ = some (.slice ao2 an2 af2) := fun Y => u6 ⟨Y.w, h5.trans (Y.h.mono h5.size)⟩
    have v7 : ∀ Y : LaterOf w5, Y.w.cell? ⟨w.heap.size, 7, none⟩ = some (.slice ao3 an3 af3) := fun Y => u7 ⟨Y.w, h5.trans (Y.h.mono h5.size)⟩
    have v8 : ∀ Y : LaterOf w5, Y.w.cell? ⟨w.heap.size, 8, none⟩ = some (.slice ao4 an4 af4) := fun Y => u8 ⟨Y.w, h5.trans (Y.h.mono h5.size)⟩
    have v9 : ∀ Y : LaterOf w5, Y.w.cell? ⟨w.heap.size, 9, none⟩ = some (.slice ao5 an5 af5) := fun Y => u9 ⟨Y.w, h5.trans (Y.h.mono h5.size)⟩
    have v10 : ∀ Y : LaterOf w5, Y.w.cell? ⟨w.heap.size, 10, none⟩ = some (.slice ao6 an6 af6) := fun Y => u10 ⟨Y.w, h5.trans (Y.h.mono h5.size)⟩
    have v11 : ∀ Y : LaterOf w5, Y.w.cell? ⟨w.heap.size, 11, none⟩ = some (.slice ao7 an7 af7) := fun Y => u11 ⟨Y.w, h5.trans (Y.h.mono h5.size)⟩
    clear u0 u1 u2 u3 u4 u5 u6 u7 u8 u9 u10 u11 GD RD EN RN
    have s1 : (S.toList == S.toList) = true := by simp
    go_wp2_with fail
    refine wp_region_all (fun w' => ∃ x : LaterOf w5, w' = x.w) (by kernel_rfl) (by kernel_rfl) ⟨LaterOf.start w5, rfl⟩ ?_
    repeat (go_big_quiet_step (first | with_reducible exact LaterOf.call _ (T1.out _) | with_reducible exact LaterOf.call _ (T2.out _)))
    refine wpQuiet_nil ?_
    intro w6 hw6
    obtain ⟨Y, rfl⟩ := hw6
    clear v0 v1 v2 v3 v4 v5 v6 v7 v8 v9 v10 v11 T1 T2
    go_wp2_with fail
    go_ret
    exact ⟨by simp, HB5.out.trans (Y.h.mono HB5.out.size)⟩
end Go.Proofs.YtljenganlknhbaaGreat.Fr
