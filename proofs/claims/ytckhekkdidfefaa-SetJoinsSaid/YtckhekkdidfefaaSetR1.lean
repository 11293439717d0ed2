/- reliquaryref08.Put, Has, Of, Union, Meet, Minus, Same, walked. (Layer 08.) -/
import Derived.Test.YtckhekkdidfefaaSetR0
import Derived.Test.YtckhekkdidfefaaSetI7
namespace Go.Proofs.Ytckhekkdidfefaa.Set
set_option linter.unusedVariables false
open Go.RowKit Go.Sort Go.Lib Go.Shelf
theorem icells_one_ (x : Int) : ∀ u ∈ [Value.int .i64 x], u.oneCell' = true := by intro u hu; rcases List.mem_singleton.1 hu with rfl; rfl
set_option maxRecDepth 100000 in
set_option maxHeartbeats 4000000 in
theorem ref_put (v : Value) (l : List Int) (x : Int) (w : World) (h : IntAt w v l) (hr : Rise l) (hn : l.length ≤ 1000000) :
    Calls Try.prog 37 #[v, .int .i64 x] w fun e w' => ∃ v', e = .returned v' ∧ IntAt w' v' (ins x l) ∧ Below w.heap.size w w' := by
  have HA := Lib.hid (And.intro h hr)
  obtain ⟨ao, cap, rfl, hlc, hcm, hcell⟩ := h
  have HC := Lib.hid hcell
  clear hcell hr
  go_enter Try.func37, Try.ntmps37
  go_wp2_with fail
  have hz0 : SlIs (w.alloc (.cells #[] 3)) w.heap.size 3 1 (.slice (some ⟨w.heap.size, 0, none⟩) 0 0) 0 (icells []) := SlIs.made (BlkIs.new _ _ _) (Nat.le_refl _) rfl (by decide)
  have H0 := Lib.hid (And.intro hz0 ((Below.refl w.heap.size w).alloc (Nat.le_refl _) (.cells #[] 3)))
  clear hz0
  go_loopw [5, 6, 7] (fun p q i wr => ∃ (k n c1 : Nat) (b : Bool) (ao1 : Option Addr), p = .slice ao1 n c1 ∧ q = .bool b ∧ i = .int .i64 (k : Int) ∧ k ≤ l.length ∧ n ≤ 1000001 ∧
      Hid (∃ m, m.length = n ∧ PutSt l x k b m ∧ SlIs wr w.heap.size 3 1 (.slice ao1 n c1) n (icells m)) ∧ Hid (Below w.heap.size w wr)) (fun _ _ i _ => l.length - (intOf i).toNat)
  case atStart => exact ⟨0, 0, 0, false, _, rfl, rfl, rfl, Nat.zero_le _, by omega, Lib.hid ⟨[], rfl, PutSt.start l x, H0.out.1⟩, Lib.hid H0.out.2⟩
  case round =>
    obtain ⟨k, n, c1, b, ao1, rfl, rfl, rfl, hkl, hnl, HM, HB⟩ := hrel
    clear H0
    rcases Nat.lt_or_ge k l.length with hlt | hge
    · have ki : (k : Int) < l.length := by omega
      obtain ⟨bb, off, rfl, hblt, hcell⟩ := HC.out (by omega)
      have c0 := hcell k hlt
      rw [← HB.out.cell hblt] at c0
      obtain ⟨y, hy⟩ : ∃ y, y = l[k] := ⟨_, rfl⟩
      rw [← hy] at c0
      have HY := Lib.hid hy
      clear hcell hy
      cases hxy : (y == x)
      · obtain ⟨m, hmn, hst, hs⟩ := HM.out
        have hne : l[k] ≠ x := by rw [← HY.out]; exact fun e => by simp [e] at hxy
        have HN := Lib.hid (And.intro hne (And.intro hst hmn))
        have HS := Lib.hid hs
        have hbw := HB.out
        have hzz := hbw.size
        cases b
        · cases d2 : decide (x < y)
          · have hx : ¬ El.lt x l[k] := by rw [← HY.out]; exact of_decide_eq_false d2
            have hst2 := hst.low_ hlt hne hx
            rw [← HY.out] at hst2
            have hl2 := hst2.len
            rw [List.length_append, hmn] at hl2
            have HP := Lib.hid hst2
            clear hne hst hs hx hst2 HM hmn
            go_wp2_with (refine wpList_append_sl rfl _ _ _ 22 (by rfl) el_int (base := w.heap.size) (.slice ao1 n c1) n (icells m) (by rfl) (HS.out.alloc _) _ 1 [Value.int .i64 y] (by rfl) (SrcIs.own Try.underlying22 (SlIs.made (base := 0) (BlkIs.new _ _ _) (Nat.zero_le _) rfl (by decide))) (icells_one_ y) (by unfold maxLen; omega) (by omega) (by have := hbw.size; simp; omega) ?_)
            intro v3 w3 hs3 hg3 hat3
            obtain ⟨ao2, c2, rfl, -, -, -⟩ := hs3.form
            have hb3 := ((HB.out.alloc hzz _).grown hg3 (by simp; omega) fun j hj => ((HS.out.alloc (.cells #[.int .i64 y] 3)).lt j hj).1)
            have H3 := Lib.hid (And.intro hs3 hb3)
            clear hs3 hg3 hat3 hb3 hbw hzz
            go_wp2_with fail
            have hs3 := H3.out.1
            rw [show [Value.int .i64 y] = icells [y] from rfl, ← icells_app] at hs3
            simp only [List.length_singleton] at hl2
            exact ⟨⟨k + 1, n + 1, c2, false, ao2, rfl, rfl, by simp, by omega, by omega, Lib.hid ⟨_, by simp [HN.out.2.2], HP.out, hs3⟩, Lib.hid H3.out.2⟩, by simp [intOf]; omega⟩
          · have hx : El.lt x l[k] := by rw [← HY.out]; exact of_decide_eq_true d2
            have hst2 := hst.new HA.out.2 hlt hx
            rw [← HY.out] at hst2
            have hl2 := hst2.len
            rw [List.length_append, List.length_append, hmn] at hl2
            have HP := Lib.hid hst2
            clear hne hst hs hx hst2 HM hmn
            go_wp2_with (refine wpList_append_sl rfl _ _ _ 22 (by rfl) el_int (base := w.heap.size) (.slice ao1 n c1) n (icells m) (by rfl) (HS.out.alloc _) _ 1 [Value.int .i64 x] (by rfl) (SrcIs.own Try.underlying22 (SlIs.made (base := 0) (BlkIs.new _ _ _) (Nat.zero_le _) rfl (by decide))) (icells_one_ x) (by unfold maxLen; omega) (by omega) (by have := hbw.size; simp; omega) ?_)
            intro v4 w4 hs4 hg4 hat4
            obtain ⟨ao4, c4, rfl, -, -, -⟩ := hs4.form
            have hb4 := ((HB.out.alloc hzz (.cells #[.int .i64 x] 3)).grown hg4 (by simp; omega) fun j hj => ((HS.out.alloc (.cells #[.int .i64 x] 3)).lt j hj).1)
            rw [show [Value.int .i64 x] = icells [x] from rfl, ← icells_app] at hs4
            have HS4 := Lib.hid hs4
            have HB4 := Lib.hid hb4
            have c0 : w4.cell? ⟨bb, off + k, none⟩ = some (.int .i64 y) := by rw [hb4.cell hblt, ← HB.out.cell hblt]; exact c0
            have hzz4 := hb4.size
            clear hs4 hg4 hat4 hb4 hbw hzz
            go_wp2_with (refine wpList_append_sl rfl _ _ _ 22 (by rfl) el_int (base := w.heap.size) (.slice ao4 (n + 1) c4) (n + 1) (icells (m ++ [x])) (by rfl) (HS4.out.alloc _) _ 1 [Value.int .i64 y] (by rfl) (SrcIs.own Try.underlying22 (SlIs.made (base := 0) (BlkIs.new _ _ _) (Nat.zero_le _) rfl (by decide))) (icells_one_ y) (by unfold maxLen; omega) (by omega) (by have := HB4.out.size; simp; omega) ?_)
            intro v3 w3 hs3 hg3 hat3
            obtain ⟨ao2, c2, rfl, -, -, -⟩ := hs3.form
            have hb3 := ((HB4.out.alloc hzz4 (.cells #[.int .i64 y] 3)).grown hg3 (by simp; omega) fun j hj => ((HS4.out.alloc (.cells #[.int .i64 y] 3)).lt j hj).1)
            have H3 := Lib.hid (And.intro hs3 hb3)
            clear hs3 hg3 hat3 hb3 hzz4
            go_wp2_with fail
            have hs3 := H3.out.1
            rw [show [Value.int .i64 y] = icells [y] from rfl, ← icells_app] at hs3
            simp only [List.length_singleton] at hl2
            exact ⟨⟨k + 1, n + 1 + 1, c2, true, ao2, rfl, rfl, by simp, by omega, by omega, Lib.hid ⟨_, by simp [HN.out.2.2], HP.out, hs3⟩, Lib.hid H3.out.2⟩, by simp [intOf]; omega⟩
        · have hst2 := hst.on HA.out.2 hlt hne
          rw [← HY.out] at hst2
          have hl2 := hst2.len
          rw [List.length_append, hmn] at hl2
          have HP := Lib.hid hst2
          clear hne hst hs hst2 HM hmn
          go_wp2_with (refine wpList_append_sl rfl _ _ _ 22 (by rfl) el_int (base := w.heap.size) (.slice ao1 n c1) n (icells m) (by rfl) (HS.out.alloc _) _ 1 [Value.int .i64 y] (by rfl) (SrcIs.own Try.underlying22 (SlIs.made (base := 0) (BlkIs.new _ _ _) (Nat.zero_le _) rfl (by decide))) (icells_one_ y) (by unfold maxLen; omega) (by omega) (by have := hbw.size; simp; omega) ?_)
          intro v3 w3 hs3 hg3 hat3
          obtain ⟨ao2, c2, rfl, -, -, -⟩ := hs3.form
          have hb3 := ((HB.out.alloc hzz (.cells #[.int .i64 y] 3)).grown hg3 (by simp; omega) fun j hj => ((HS.out.alloc (.cells #[.int .i64 y] 3)).lt j hj).1)
          have H3 := Lib.hid (And.intro hs3 hb3)
          clear hs3 hg3 hat3 hb3 hbw hzz
          go_wp2_with fail
          have hs3 := H3.out.1
          rw [show [Value.int .i64 y] = icells [y] from rfl, ← icells_app] at hs3
          simp only [List.length_singleton] at hl2
          exact ⟨⟨k + 1, n + 1, c2, true, ao2, rfl, rfl, by simp, by omega, by omega, Lib.hid ⟨_, by simp [HN.out.2.2], HP.out, hs3⟩, Lib.hid H3.out.2⟩, by simp [intOf]; omega⟩
      · clear HM
        go_wp2_with fail
        go_ret
        have hx : x ∈ l := by
          have h1 : y = x := by simpa using hxy
          rw [← h1, HY.out]
          exact List.getElem_mem hlt
        exact ⟨_, rfl, by rw [ins_of hx]; exact HA.out.1.later HB.out, HB.out⟩
    · have ki : decide ((k : Int) < l.length) = false := decide_eq_false (by omega)
      obtain rfl : k = l.length := by omega
      obtain ⟨m, hmn, hst, hs⟩ := HM.out
      have HS := Lib.hid hs
      have HT := Lib.hid (And.intro hst hmn)
      have hl2 := hst.len
      rw [hmn] at hl2
      have hbw := HB.out
      have hzz := hbw.size
      clear hs hst HM hmn
      cases b
      · go_wp2_with (refine wpList_append_sl rfl _ _ _ 22 (by rfl) el_int (base := w.heap.size) (.slice ao1 n c1) n (icells m) (by rfl) (HS.out.alloc _) _ 1 [Value.int .i64 x] (by rfl) (SrcIs.own Try.underlying22 (SlIs.made (base := 0) (BlkIs.new _ _ _) (Nat.zero_le _) rfl (by decide))) (icells_one_ x) (by unfold maxLen; omega) (by omega) (by have := hbw.size; simp; omega) ?_)
        intro v3 w3 hs3 hg3 hat3
        obtain ⟨ao2, c2, rfl, -, -, -⟩ := hs3.form
        have hb3 := ((HB.out.alloc hzz (.cells #[.int .i64 x] 3)).grown hg3 (by simp; omega) fun j hj => ((HS.out.alloc (.cells #[.int .i64 x] 3)).lt j hj).1)
        have H3 := Lib.hid (And.intro hs3 hb3)
        clear hs3 hg3 hat3 hb3 hbw hzz
        go_wp2_with fail
        go_ret
        have hs3 := H3.out.1
        rw [show [Value.int .i64 x] = icells [x] from rfl, ← icells_app, HT.out.1.last HA.out.2] at hs3
        have e : n + 1 = (ins x l).length := by rw [← HT.out.1.last HA.out.2, List.length_append, HT.out.2]; rfl
        rw [e] at hs3 ⊢
        exact ⟨_, rfl, IntAt.of_sl hs3, H3.out.2⟩
      · clear hbw
        go_wp2_with fail
        go_ret
        have hs3 := HS.out
        rw [HT.out.1.done] at hs3
        have e : n = (ins x l).length := by rw [← HT.out.1.done, HT.out.2]
        rw [e] at hs3 ⊢
        exact ⟨_, rfl, IntAt.of_sl hs3, HB.out⟩
end Go.Proofs.Ytckhekkdidfefaa.Set
