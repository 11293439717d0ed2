/- The law MarkReads, walked: both read the same marks of every bytes. (Layer 12.) -/
import Derived.Test.YtngflbakmlddeaaGreatMkLaw
import Derived.Test.YtngflbakmlddeaaGreatMk27
import Derived.Test.YtngflbakmlddeaaGreatMk30
namespace Go.Proofs.YtngflbakmlddeaaGreat.Mk
set_option linter.unusedVariables false
open Go.RowKit
theorem decout_same {s : ByteArray} {m m' : MkR} {k k' : Int} (h : (dec s = some m.mk_ ∧ k = 0) ∨ (dec s = none ∧ m = MkR.none_ ∧ k = 4)) (h' : (dec s = some m'.mk_ ∧ k' = 0) ∨ (dec s = none ∧ m' = MkR.none_ ∧ k' = 4)) : m.mk_ = m'.mk_ ∧ k = k' := by
  rcases h with ⟨h, rfl⟩ | ⟨h, rfl, rfl⟩
  · rcases h' with ⟨h', rfl⟩ | ⟨h', rfl, rfl⟩
    · rw [h] at h'
      exact ⟨Option.some.inj h', rfl⟩
    · rw [h] at h'; cases h'
  · rcases h' with ⟨h', rfl⟩ | ⟨h', rfl, rfl⟩
    · rw [h] at h'; cases h'
    · exact ⟨rfl, rfl⟩
set_option maxRecDepth 100000 in
set_option maxHeartbeats 2000000 in
theorem reads_any (s : ByteArray) (w : World) : Calls Tryz.prog 4 #[.string s] w fun e w' => e = .returned (.bool true) ∧ Below w.heap.size w w' := by
  go_enter Tryz.func4, Tryz.ntmps4
  go_wp2_with fail
  refine (awake_any w).mono ?_
  rintro e w1 ⟨rfl, hb⟩
  obtain ⟨X, rfl⟩ : ∃ X : LaterOf w, w1 = X.w := ⟨⟨w1, hb⟩, rfl⟩
  clear hb
  by_cases hl : 131072 < (s.size : Int)
  case pos =>
    go_wp2_with fail
    go_ret
    exact ⟨rfl, X.h⟩
  have hs : (s.size : Int) ≤ 140737488355328 := by omega
  have D1 := Lib.hid (fun W => decode_any s W)
  have D2 := Lib.hid (fun W => rdecode_any s W hs)
  clear hs
  go_wp2_with fail
  refine (D1.out X.w).mono ?_
  rintro e w' ⟨m, k, rfl, hr, hs, hb, hd⟩
  obtain ⟨o1, n1, f1, o2, n2, f2, o3, n3, f3, hA⟩ := MkR.form hr
  obtain ⟨X, rfl⟩ := X.next hb
  rw [hA]
  have HM := Lib.hid (And.intro hr (And.intro hs (And.intro hd hA)))
  clear hr hs hb hd hA D1
  go_wp2_with fail
  obtain ⟨Y, hY⟩ : ∃ Y, Y = X.w.alloc (.cells #[.slice o1 n1 f1, .slice o2 n2 f2, .slice o3 n3 f3] 26) := ⟨_, rfl⟩
  obtain ⟨p, hp⟩ : ∃ p, p = X.w.heap.size := ⟨_, rfl⟩
  have HY := Lib.hid (show Below w.heap.size w Y ∧ BlkIs Y p 26 #[.slice o1 n1 f1, .slice o2 n2 f2, .slice o3 n3 f3] ∧ m.Reads Y from by
    rw [hY, hp]
    exact ⟨X.h.alloc X.h.size _, BlkIs.new _ _ _, HM.out.1.later ((Below.refl _ _).alloc (Nat.le_refl _) _)⟩)
  rw [← hY, ← hp]
  clear hY hp
  refine (D2.out Y).mono ?_
  rintro e w' ⟨m', k', rfl, hr, hs, hb, hd⟩
  obtain ⟨p1, m1, g1, p2, m2, g2, p3, m3, g3, hA⟩ := MkR.form hr
  obtain ⟨hmm, rfl⟩ := decout_same HM.out.2.2.1 hd
  rw [hA]
  have SM := fun W (h : m.Reads W) (h' : m'.Reads W) => same_any' m m' W h h' HM.out.2.1 hs
  rw [HM.out.2.2.2, hA, eqB_yes hmm] at SM
  have SM := Lib.hid SM
  have c0 : w'.cell? ⟨p, 0, none⟩ = some (.slice o1 n1 f1) := (BlkIs.below HY.out.2.1 hb HY.out.2.1.lt).cell 0
  have c1 : w'.cell? ⟨p, 1, none⟩ = some (.slice o2 n2 f2) := (BlkIs.below HY.out.2.1 hb HY.out.2.1.lt).cell 1
  have c2 : w'.cell? ⟨p, 2, none⟩ = some (.slice o3 n3 f3) := (BlkIs.below HY.out.2.1 hb HY.out.2.1.lt).cell 2
  have hpl : p < w'.heap.size := (BlkIs.below HY.out.2.1 hb HY.out.2.1.lt).lt
  have HZ := Lib.hid (show Below w.heap.size w w' ∧ m.Reads w' ∧ m'.Reads w' from ⟨HY.out.1.trans (hb.mono HY.out.1.size), HY.out.2.2.later hb, hr⟩)
  clear hr hs hb hd hA hmm D2
  go_wp2_with fail
  obtain ⟨Z, hZ⟩ : ∃ Z, Z = w'.alloc (.cells #[.slice p1 m1 g1, .slice p2 m2 g2, .slice p3 m3 g3] 26) := ⟨_, rfl⟩
  have hbZ : Below w'.heap.size w' Z := by rw [hZ]; exact (Below.refl _ _).alloc (Nat.le_refl _) _
  rw [← hZ]
  refine (SM.out Z (HZ.out.2.1.later hbZ) (HZ.out.2.2.later hbZ)).mono ?_
  rintro e w9 ⟨rfl, hb⟩
  have HE := Lib.hid (HZ.out.1.trans ((hbZ.mono HZ.out.1.size).trans (hb.mono (Nat.le_trans HZ.out.1.size hbZ.size))))
  clear hZ hbZ hb
  go_wp2_with fail
  go_ret
  exact ⟨by simp, HE.out⟩
end Go.Proofs.YtngflbakmlddeaaGreat.Mk
