/- The law MarkCuts, walked: right marks' bytes, cut off or with more behind them, are none's. (Layer 12.) -/
import Derived.Test.YtngflbakmlddeaaGreatMkLaw
import Derived.Test.YtngflbakmlddeaaGreatMk27
namespace Go.Proofs.YtngflbakmlddeaaGreat.Mk
set_option linter.unusedVariables false
open Go.RowKit
set_option maxRecDepth 100000 in
set_option maxHeartbeats 2000000 in
theorem cuts_any (m : MkR) (c : Int) (q : ByteArray) (w : World) (h : m.Reads w) : Calls Tryz.prog 8 #[aMk m, .int .i64 c, .string q] w fun e w' => e = .returned (.bool true) ∧ Below w.heap.size w w' := by
  obtain ⟨o1, n1, f1, o2, n2, f2, o3, n3, f3, hA⟩ := MkR.form h
  have EC := enc_cases m
  obtain ⟨W1, hW1⟩ : ∃ W1, W1 = w.alloc (.cells #[.slice o1 n1 f1, .slice o2 n2 f2, .slice o3 n3 f3] 26) := ⟨_, rfl⟩
  have hb1 : Below w.heap.size w W1 := by rw [hW1]; exact (Below.refl _ _).alloc (Nat.le_refl _) _
  have k1 : BlkIs W1 w.heap.size 26 #[.slice o1 n1 f1, .slice o2 n2 f2, .slice o3 n3 f3] := by rw [hW1]; exact BlkIs.new _ _ _
  have hr := h.later hb1
  have GR := Lib.hid (fun X : LaterOf W1 => great_any m X.w (hr.later X.h))
  have HEC := Lib.hid (fun hs => (EC hs).imp (fun p => And.intro p.1 (fun X : LaterOf W1 => p.2 X.w (hr.later X.h))) (fun p => And.intro p.1 (fun X : LaterOf W1 => p.2 X.w (hr.later X.h))))
  have u0 : ∀ X : LaterOf W1, X.w.cell? ⟨w.heap.size, 0, none⟩ = some (.slice o1 n1 f1) := fun X => (X.blk k1).cell 0
  have u1 : ∀ X : LaterOf W1, X.w.cell? ⟨w.heap.size, 1, none⟩ = some (.slice o2 n2 f2) := fun X => (X.blk k1).cell 1
  have u2 : ∀ X : LaterOf W1, X.w.cell? ⟨w.heap.size, 2, none⟩ = some (.slice o3 n3 f3) := fun X => (X.blk k1).cell 2
  have HB := Lib.hid (fun X : LaterOf W1 => hb1.trans (X.h.mono hb1.size))
  have HW := Lib.hid hW1
  rw [hA] at GR HEC ⊢
  clear EC hA h hr k1 hb1 hW1
  go_enter Tryz.func8, Tryz.ntmps8
  go_wp2_with fail
  rw [← HW.out]
  clear HW
  obtain ⟨X, hX⟩ := LaterOf.at_ W1
  rw [hX]
  refine (LaterOf.call X (awake_any X.w)).mono ?_
  clear hX
  rintro e _ ⟨rfl, X, rfl⟩
  go_wp2_with fail
  refine (GR.out X).mono ?_
  rintro e w' ⟨⟨v, rfl, hlow⟩, hb⟩
  obtain ⟨X, rfl⟩ := X.next hb
  clear hb GR
  cases v
  case true =>
    clear hlow
    go_wp2_with fail
    go_ret
    exact ⟨rfl, HB.out X⟩
  have hs := (hlow rfl).small
  by_cases h0 : q.size = 0
  case pos =>
    have hne : (q.toList == []) = true := by rw [Path.empty_iff]; exact decide_eq_true (by omega)
    clear hlow hs h0
    go_wp2_with fail
    go_ret
    exact ⟨rfl, HB.out X⟩
  have hne : (q.toList == []) = false := by rw [Path.empty_iff]; exact decide_eq_false (by omega)
  by_cases h1 : 1000 < (q.size : Int)
  case pos =>
    clear hlow hs h0
    go_wp2_with fail
    go_ret
    exact ⟨rfl, HB.out X⟩
  rcases HEC.out hs with ⟨hg, EN⟩ | ⟨hg, EN⟩
  case inr =>
    have EN := Lib.hid EN
    clear hlow hs h0 hg HEC
    go_wp2_with fail
    refine (LaterOf.call X (EN.out X)).mono ?_
    rintro e _ ⟨rfl, X, rfl⟩
    go_wp2_with fail
    go_ret
    exact ⟨rfl, HB.out X⟩
  obtain ⟨z0, z1⟩ := enMk_size hg
  have D1 := fun n (hn : n < (enMk m.mk_).size) W => dec_none_any ((enMk m.mk_).extract 0 n) (dec_cut (q := (enMk m.mk_).extract n (enMk m.mk_).size) hg (by rw [ByteArray.size_extract]; omega) (by rw [ByteArray.extract_append_extract]; simp)) W
  have D2 := Lib.hid (fun W => dec_none_any (enMk m.mk_ ++ q) (dec_more hg (by omega)) W)
  obtain ⟨S, hS⟩ : ∃ S, S = enMk m.mk_ := ⟨_, rfl⟩
  rw [← hS] at z0 z1 D1 D2 EN
  have EN := Lib.hid EN
  obtain ⟨u, hu, hu1⟩ : ∃ u : Nat, IntKind.u64.wrap c = (u : Int) ∧ u < 18446744073709551616 := by
    refine ⟨(IntKind.u64.wrap c).toNat, ?_, ?_⟩
    · rw [IntKind.wrap_u64]; omega
    · rw [IntKind.wrap_u64]; omega
  obtain ⟨v, hv, hv1⟩ : ∃ v : Nat, (u : Int) % (S.size : Int) = (v : Int) ∧ v < S.size := ⟨u % S.size, by omega, Nat.mod_lt _ (by omega)⟩
  have hwv : wrap64 (v : Int) = (v : Int) := by unfold wrap64; omega
  have hvi : (v : Int) ≤ S.size := by omega
  have D1 := Lib.hid (D1 v hv1)
  have hS1 : ¬ (9223372036854775807 < S.size + q.size) := by omega
  clear hlow hs h0 hg HEC hS
  go_wp2_with fail
  refine (LaterOf.call X (EN.out X)).mono ?_
  rintro e _ ⟨rfl, X, rfl⟩
  go_wp2_with fail
  refine (LaterOf.call X (D1.out X.w)).mono ?_
  rintro e _ ⟨rfl, X, rfl⟩
  go_wp2_with fail
  obtain ⟨Y, hY⟩ := X.allocs (.cells #[.slice none 0 0, .slice none 0 0, .slice none 0 0] 26)
  rw [hY]
  refine (LaterOf.call Y (D2.out Y.w)).mono ?_
  clear hY
  rintro e _ ⟨rfl, Y, rfl⟩
  go_wp2_with fail
  obtain ⟨Z, hZ⟩ := Y.allocs (.cells #[.slice none 0 0, .slice none 0 0, .slice none 0 0] 26)
  rw [hZ]
  go_ret
  exact ⟨rfl, HB.out Z⟩
end Go.Proofs.YtngflbakmlddeaaGreat.Mk
