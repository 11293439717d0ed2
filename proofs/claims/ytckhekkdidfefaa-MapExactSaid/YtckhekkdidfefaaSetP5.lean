/- reliquaryref08.Set, walked: mput. (Layer 08.) -/
import Derived.Test.YtckhekkdidfefaaSetP3
import Derived.WalkLawsBesides
namespace Go.Proofs.Ytckhekkdidfefaa.Set
set_option linter.unusedVariables false
open Go.RowKit Go.Sort Go.Lib
/-- What has been made, where it lies. -/
def SetHas (w : World) (base : Nat) (L : Row) (x : ByteArray) (y : Int) (k : Nat) (b : Bool) (ao : Option Addr) (m c : Nat) : Prop :=
  ∃ M, M.length = m ∧ SetSt L x y k b M ∧ SlIs w base 50 2 (.slice ao m c) m (pcells M)
theorem eq_no {z x : ByteArray} (h : z ≠ x) : (z.toList == x.toList) = false := by
  rw [beq_eq_false_iff_ne]; intro e
  rw [ByteArray.toList_eq, ByteArray.toList_eq] at e
  exact h (bytes_inj e)
theorem neq_yes {z x : ByteArray} (h : z ≠ x) : (z.toList != x.toList) = true := by rw [bne, eq_no h]; rfl
theorem lt_ne {z x : ByteArray} (h : El.lt z x) : z ≠ x := fun e => El.irr x (e ▸ h)
theorem gt_ne {z x : ByteArray} (h : El.lt x z) : z ≠ x := fun e => El.irr z (e ▸ h)
theorem less_yes {z x : ByteArray} (h : El.lt z x) : Op.bytesLess z.toList x.toList = true := by rw [less_lt]; exact decide_eq_true h
theorem less_no {z x : ByteArray} (h : ¬ El.lt z x) : Op.bytesLess z.toList x.toList = false := by rw [less_lt]; exact decide_eq_false h
set_option maxRecDepth 100000 in
set_option maxHeartbeats 4000000 in
theorem ref_set (v : Value) (L : Row) (x : ByteArray) (y : Int) (w : World) (h : PairAt w v L) (hr : Rise (ks L)) (hn : L.length ≤ 1000000) :
    Calls Try.prog 23 #[v, .string x, .int .i64 y] w fun e w' => ∃ v', e = .returned v' ∧ PairOff (fun k => k < w.heap.size) w' v' (mput x y L) ∧ Below w.heap.size w w' := by
  obtain ⟨ao, cap, rfl, hlc, hcm, hcell⟩ := h
  have HC := Lib.hid hcell
  have HR := Lib.hid hr
  obtain ⟨n, hnn⟩ : ∃ n, n = L.length := ⟨_, rfl⟩
  rw [← hnn] at hn hlc ⊢
  have HL := Lib.hid hnn
  clear hcell hnn hr
  go_enter Try.func23, Try.ntmps23
  go_wp2_with fail
  have hz0 : SlIs (w.alloc (.cells #[] 50)) w.heap.size 50 2 (.slice (some ⟨w.heap.size, 0, none⟩) 0 0) 0 (pcells []) := SlIs.made (BlkIs.new _ _ _) (Nat.le_refl _) rfl (by decide)
  have H0 := Lib.hid (And.intro hz0 ((Below.refl w.heap.size w).alloc (Nat.le_refl _) (.cells #[] 50)))
  clear hz0
  go_loopw [7, 8, 9] (fun p q i wr => ∃ (k m c1 : Nat) (b : Bool) (ao1 : Option Addr), p = .slice ao1 m c1 ∧ q = .bool b ∧ i = .int .i64 (k : Int) ∧ k ≤ n ∧ m ≤ 1000001 ∧
      Hid (SetHas wr w.heap.size L x y k b ao1 m c1) ∧ Hid (Below w.heap.size w wr)) (fun _ _ i _ => n - (intOf i).toNat)
  case atStart => exact ⟨0, 0, 0, false, _, rfl, rfl, rfl, Nat.zero_le _, by omega, Lib.hid ⟨[], rfl, SetSt.start L x y, H0.out.1⟩, Lib.hid H0.out.2⟩
  case round =>
    obtain ⟨k, m, c1, b, ao1, rfl, rfl, rfl, hkl, hmk, HM, HB⟩ := hrel
    clear H0
    rcases Nat.lt_or_ge k n with hlt | hge
    · have ki : (k : Int) < n := by omega
      have hkL : k < L.length := by rw [← HL.out]; exact hlt
      obtain ⟨bb, off, rfl, hblt, hcell⟩ := HC.out (by omega)
      obtain ⟨q0, q1⟩ := hcell k hkL
      obtain ⟨z, hz⟩ : ∃ z, z = L[k].1 := ⟨_, rfl⟩
      obtain ⟨u, hu⟩ : ∃ u, u = L[k].2 := ⟨_, rfl⟩
      rw [← hz] at q0
      rw [← hu] at q1
      have HQ := Lib.hid (And.intro q0 q1)
      rw [← HB.out.cell hblt] at q0 q1
      have hzu : L[k] = (z, u) := by rw [hz, hu]
      have HF := Lib.hid hzu
      obtain ⟨M, hml, hst, hs⟩ := HM.out
      have HI := Lib.hid (And.intro hml hst)
      have HS := Lib.hid hs
      have hbw := HB.out
      have hzz := hbw.size
      clear hcell hz hu hzu hml hst hs HM
      cases b
      · rcases El.tri z x with h1 | h1 | h1
        · -- below: it goes over
          have d1 := less_no (z := x) (x := z) (fun h => El.irr z (El.tr h1 h))
          have d2 := eq_no (lt_ne h1)
          have d3 := eq_no (lt_ne h1).symm
          have d4 := neq_yes (lt_ne h1)
          have st := HI.out.2.low hkL (by rw [HF.out]; exact h1)
          rw [HF.out] at st
          have hl2 := st.len HR.out (by omega)
          rw [List.length_append, HI.out.1] at hl2
          have HP := Lib.hid st
          clear h1 st
          go_wp2_with (refine wpList_append_sl rfl _ _ _ 35 (by rfl) el_pair (base := w.heap.size) (.slice ao1 m c1) m (pcells M) (by rfl) (HS.out.alloc _) _ 1 [Value.string z, Value.int .i64 u] (by rfl) (SrcIs.own Try.underlying35 (SlIs.made (base := 0) (BlkIs.new _ _ _) (Nat.zero_le _) rfl (by decide))) (pcells_one z u) (by unfold maxLen; omega) (by omega) (by have := hbw.size; simp; omega) ?_)
          intro v3 w3 hs3 hg3 hat3
          obtain ⟨ao3, c3, rfl, -, -, -⟩ := hs3.form
          have hb3 := ((HB.out.alloc hzz (.cells #[.string z, .int .i64 u] 50)).grown hg3 (by simp; omega) fun j hj => ((HS.out.alloc (.cells #[.string z, .int .i64 u] 50)).lt j hj).1)
          rw [show [Value.string z, Value.int .i64 u] = pcells [(z, u)] from rfl, ← pcells_app] at hs3
          have H3 := Lib.hid (And.intro hs3 hb3)
          have HS3 := Lib.hid hs3
          have HB3 := Lib.hid hb3
          clear hs3 hg3 hat3 hb3 hbw hzz
          go_wp2_with fail
          simp only [List.length_singleton] at hl2
          exact ⟨⟨k + 1, m + 1, c3, false, ao3, rfl, rfl, by simp, by omega, by omega, Lib.hid ⟨_, by simp [HI.out.1], HP.out, HS3.out⟩, HB3⟩, by simp [intOf]; omega⟩
        · -- here
          subst h1
          have d1 := less_no (El.irr z)
          have d2 : (z.toList == z.toList) = true := by simp
          have d4 : (z.toList != z.toList) = false := by simp
          have st := HI.out.2.here HR.out hkL (by rw [HF.out]) (y := y)
          have hl2 := st.len HR.out (by omega)
          rw [List.length_append, HI.out.1] at hl2
          have HP := Lib.hid st
          clear st
          go_wp2_with (refine wpList_append_sl rfl _ _ _ 35 (by rfl) el_pair (base := w.heap.size) (.slice ao1 m c1) m (pcells M) (by rfl) (HS.out.alloc _) _ 1 [Value.string z, Value.int .i64 y] (by rfl) (SrcIs.own Try.underlying35 (SlIs.made (base := 0) (BlkIs.new _ _ _) (Nat.zero_le _) rfl (by decide))) (pcells_one z y) (by unfold maxLen; omega) (by omega) (by have := hbw.size; simp; omega) ?_)
          intro v3 w3 hs3 hg3 hat3
          obtain ⟨ao3, c3, rfl, -, -, -⟩ := hs3.form
          have hb3 := ((HB.out.alloc hzz (.cells #[.string z, .int .i64 y] 50)).grown hg3 (by simp; omega) fun j hj => ((HS.out.alloc (.cells #[.string z, .int .i64 y] 50)).lt j hj).1)
          rw [show [Value.string z, Value.int .i64 y] = pcells [(z, y)] from rfl, ← pcells_app] at hs3
          have H3 := Lib.hid (And.intro hs3 hb3)
          have HS3 := Lib.hid hs3
          have HB3 := Lib.hid hb3
          have q0 := HQ.out.1
          rw [← hb3.cell hblt] at q0
          clear hs3 hg3 hat3 hb3 hbw hzz
          go_wp2_with fail
          simp only [List.length_singleton] at hl2
          exact ⟨⟨k + 1, m + 1, c3, true, ao3, rfl, rfl, by simp, by omega, by omega, Lib.hid ⟨_, by simp [HI.out.1], HP.out, HS3.out⟩, HB3⟩, by simp [intOf]; omega⟩
        · -- above: both
          have d1 := less_yes h1
          have d2 := eq_no (gt_ne h1)
          have d4 := neq_yes (gt_ne h1)
          have st := HI.out.2.new HR.out hkL (by rw [HF.out]; exact h1) (y := y)
          rw [HF.out] at st
          have hl2 := st.len HR.out (by omega)
          rw [List.length_append, List.length_append, HI.out.1] at hl2
          simp only [List.length_singleton] at hl2
          have HP := Lib.hid st
          clear h1 st
          go_wp2_with (refine wpList_append_sl rfl _ _ _ 35 (by rfl) el_pair (base := w.heap.size) (.slice ao1 m c1) m (pcells M) (by rfl) (HS.out.alloc _) _ 1 [Value.string x, Value.int .i64 y] (by rfl) (SrcIs.own Try.underlying35 (SlIs.made (base := 0) (BlkIs.new _ _ _) (Nat.zero_le _) rfl (by decide))) (pcells_one x y) (by unfold maxLen; omega) (by omega) (by have := hbw.size; simp; omega) ?_)
          intro v3 w3 hs3 hg3 hat3
          obtain ⟨ao3, c3, rfl, -, -, -⟩ := hs3.form
          have hb3 := ((HB.out.alloc hzz (.cells #[.string x, .int .i64 y] 50)).grown hg3 (by simp; omega) fun j hj => ((HS.out.alloc (.cells #[.string x, .int .i64 y] 50)).lt j hj).1)
          rw [show [Value.string x, Value.int .i64 y] = pcells [(x, y)] from rfl, ← pcells_app] at hs3
          have H3 := Lib.hid (And.intro hs3 hb3)
          have HS3 := Lib.hid hs3
          have HB3 := Lib.hid hb3
          have q0 := HQ.out.1
          have q1 := HQ.out.2
          rw [← hb3.cell hblt] at q0 q1
          have hbw3 := hb3
          have hzz3 := hb3.size
          clear hs3 hg3 hat3 hb3 hbw hzz
          go_wp2_with (refine wpList_append_sl rfl _ _ _ 35 (by rfl) el_pair (base := w.heap.size) (.slice ao3 (m + 1) c3) (m + 1) (pcells (M ++ [(x, y)])) (by rfl) (HS3.out.alloc _) _ 1 [Value.string z, Value.int .i64 u] (by rfl) (SrcIs.own Try.underlying35 (SlIs.made (base := 0) (BlkIs.new _ _ _) (Nat.zero_le _) rfl (by decide))) (pcells_one z u) (by unfold maxLen; omega) (by omega) (by have := hbw3.size; simp; omega) ?_)
          intro v4 w4 hs4 hg4 hat4
          obtain ⟨ao4, c4, rfl, -, -, -⟩ := hs4.form
          have hb4 := ((HB3.out.alloc hzz3 (.cells #[.string z, .int .i64 u] 50)).grown hg4 (by simp; omega) fun j hj => ((HS3.out.alloc (.cells #[.string z, .int .i64 u] 50)).lt j hj).1)
          rw [show [Value.string z, Value.int .i64 u] = pcells [(z, u)] from rfl, ← pcells_app] at hs4
          have H4 := Lib.hid (And.intro hs4 hb4)
          have HS4 := Lib.hid hs4
          have HB4 := Lib.hid hb4
          clear hs4 hg4 hat4 hb4 hbw3 hzz3
          go_wp2_with fail
          exact ⟨⟨k + 1, m + 1 + 1, c4, true, ao4, rfl, rfl, by simp, by omega, by omega, Lib.hid ⟨_, by simp [HI.out.1], HP.out, HS4.out⟩, HB4⟩, by simp [intOf]; omega⟩
      · -- it is in already
        obtain ⟨h1, st⟩ := HI.out.2.more HR.out hkL
        rw [HF.out] at h1 st
        have d2 := eq_no (gt_ne h1)
        have d4 := neq_yes (gt_ne h1)
        have hl2 := st.len HR.out (by omega)
        rw [List.length_append, HI.out.1] at hl2
        have HP := Lib.hid st
        clear h1 st
        go_wp2_with (refine wpList_append_sl rfl _ _ _ 35 (by rfl) el_pair (base := w.heap.size) (.slice ao1 m c1) m (pcells M) (by rfl) (HS.out.alloc _) _ 1 [Value.string z, Value.int .i64 u] (by rfl) (SrcIs.own Try.underlying35 (SlIs.made (base := 0) (BlkIs.new _ _ _) (Nat.zero_le _) rfl (by decide))) (pcells_one z u) (by unfold maxLen; omega) (by omega) (by have := hbw.size; simp; omega) ?_)
        intro v3 w3 hs3 hg3 hat3
        obtain ⟨ao3, c3, rfl, -, -, -⟩ := hs3.form
        have hb3 := ((HB.out.alloc hzz (.cells #[.string z, .int .i64 u] 50)).grown hg3 (by simp; omega) fun j hj => ((HS.out.alloc (.cells #[.string z, .int .i64 u] 50)).lt j hj).1)
        rw [show [Value.string z, Value.int .i64 u] = pcells [(z, u)] from rfl, ← pcells_app] at hs3
        have H3 := Lib.hid (And.intro hs3 hb3)
        have HS3 := Lib.hid hs3
        have HB3 := Lib.hid hb3
        clear hs3 hg3 hat3 hb3 hbw hzz
        go_wp2_with fail
        simp only [List.length_singleton] at hl2
        exact ⟨⟨k + 1, m + 1, c3, true, ao3, rfl, rfl, by simp, by omega, by omega, Lib.hid ⟨_, by simp [HI.out.1], HP.out, HS3.out⟩, HB3⟩, by simp [intOf]; omega⟩
    · have ki : decide ((k : Int) < n) = false := decide_eq_false (by omega)
      obtain rfl : k = n := by omega
      obtain ⟨M, hml, hst, hs⟩ := HM.out
      have HI := Lib.hid (And.intro hml hst)
      have HS := Lib.hid hs
      have hbw := HB.out
      have hzz := hbw.size
      clear hml hst hs HM
      cases b
      · go_wp2_with (refine wpList_append_sl rfl _ _ _ 35 (by rfl) el_pair (base := w.heap.size) (.slice ao1 m c1) m (pcells M) (by rfl) (HS.out.alloc _) _ 1 [Value.string x, Value.int .i64 y] (by rfl) (SrcIs.own Try.underlying35 (SlIs.made (base := 0) (BlkIs.new _ _ _) (Nat.zero_le _) rfl (by decide))) (pcells_one x y) (by unfold maxLen; omega) (by omega) (by have := hbw.size; simp; omega) ?_)
        intro v3 w3 hs3 hg3 hat3
        obtain ⟨ao3, c3, rfl, -, -, -⟩ := hs3.form
        have hb3 := ((HB.out.alloc hzz (.cells #[.string x, .int .i64 y] 50)).grown hg3 (by simp; omega) fun j hj => ((HS.out.alloc (.cells #[.string x, .int .i64 y] 50)).lt j hj).1)
        rw [show [Value.string x, Value.int .i64 y] = pcells [(x, y)] from rfl, ← pcells_app] at hs3
        have H3 := Lib.hid (And.intro hs3 hb3)
        have HS3 := Lib.hid hs3
        have HB3 := Lib.hid hb3
        clear hs3 hg3 hat3 hb3 hbw hzz
        go_wp2_with fail
        go_ret
        have st := HI.out.2
        rw [HL.out] at st
        have hm := st.last HR.out
        have hs := HS3.out
        rw [show m + 1 = (M ++ [(x, y)]).length from by simp [HI.out.1], hm] at hs ⊢
        exact ⟨_, rfl, PairOff.of_sl hs, HB3.out⟩
      · clear hbw hzz
        go_wp2_with fail
        go_ret
        have st := HI.out.2
        rw [HL.out] at st
        have hm := st.done
        have hs := HS.out
        rw [← HI.out.1, hm] at hs ⊢
        exact ⟨_, rfl, PairOff.of_sl hs, HB.out⟩
end Go.Proofs.Ytckhekkdidfefaa.Set
