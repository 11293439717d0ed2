/- reliquaryref12.Tokens, Tombs, Same, walked: whether two are the same. (Layer 12.) -/
import Derived.Test.YtljenganlknhbaaGreatMk9
namespace Go.Proofs.YtljenganlknhbaaGreat.Mk
set_option linter.unusedVariables false
open Go.RowKit
open Classical in
/-- Whether two things are the same. -/
noncomputable def eqB {α : Type} (a b : α) : Bool := if a = b then true else false
theorem eqB_yes {α : Type} {a b : α} (h : a = b) : eqB a b = true := if_pos h
theorem eqB_no {α : Type} {a b : α} (h : a ≠ b) : eqB a b = false := if_neg h
theorem eqB_iff {α : Type} {a b : α} : eqB a b = true ↔ a = b := by
  unfold eqB
  split
  · exact ⟨fun _ => by assumption, fun _ => rfl⟩
  · exact ⟨fun h => (by cases h), fun h => absurd h (by assumption)⟩
theorem bytes_eq {a b : ByteArray} : (a.toList == b.toList) = true ↔ a = b := by
  rw [beq_iff_eq, ByteArray.toList_eq, ByteArray.toList_eq]
  constructor
  · intro h
    apply ByteArray.ext
    apply Array.ext'
    exact h
  · intro h; rw [h]
theorem eql_tok (x y : Tok) (w : World) : (binOp .eql 102 (.agg #[.int .i64 x.node, .int .i64 x.n, .string x.id]) (.agg #[.int .i64 y.node, .int .i64 y.n, .string y.id])).run Tryz.prog w = .ok (.bool (eqB x y)) w := by
  have u3 := Tryz.underlying3
  have u9 := Tryz.underlying9
  have a3 := Tryz.isAgg3
  have z3 := Tryz.sizeOf3
  have a9 := Tryz.isAgg9
  have z9 := Tryz.sizeOf9
  have hS : Tryz.prog.underlying 102 = some (.struct (Tryz.prog.fieldsOf 102)) := by kernel_rfl
  have hp : Tryz.prog.stoodInHeld 102 = false := by kernel_rfl
  have hq : (x.node == y.node && (x.n == y.n && x.id.toList == y.id.toList)) = eqB x y := by
    rw [Bool.eq_iff_iff, eqB_iff, Bool.and_eq_true, Bool.and_eq_true, beq_iff_eq, beq_iff_eq, bytes_eq]
    obtain ⟨a, b, c⟩ := x
    obtain ⟨d, e, f⟩ := y
    simp
  have HQ := Lib.hid hq
  clear hq
  rw [run_eql_struct, show (10000 : Nat) = 9999 + 1 from rfl, run_equalIn_agg w 9999 102 _ _ hS hp]
  simp only [Program.fieldsOf, Tryz.underlying102]
  go_simp
  rw [← HQ.out]
  by_cases h1 : x.node = y.node <;> by_cases h2 : x.n = y.n <;> by_cases h3 : x.id.toList = y.id.toList <;> simp [h1, h2, h3]
theorem eql_rf (x y : Rf) (w : World) : (binOp .eql 51 (.agg #[.string x.name, .string x.id, .int .i64 x.h]) (.agg #[.string y.name, .string y.id, .int .i64 y.h])).run Tryz.prog w = .ok (.bool (eqB x y)) w := by
  have u3 := Tryz.underlying3
  have u9 := Tryz.underlying9
  have a3 := Tryz.isAgg3
  have z3 := Tryz.sizeOf3
  have a9 := Tryz.isAgg9
  have z9 := Tryz.sizeOf9
  have hS : Tryz.prog.underlying 51 = some (.struct (Tryz.prog.fieldsOf 51)) := by kernel_rfl
  have hp : Tryz.prog.stoodInHeld 51 = false := by kernel_rfl
  have hq : (x.name.toList == y.name.toList && (x.id.toList == y.id.toList && x.h == y.h)) = eqB x y := by
    rw [Bool.eq_iff_iff, eqB_iff, Bool.and_eq_true, Bool.and_eq_true, bytes_eq, bytes_eq, beq_iff_eq]
    obtain ⟨a, b, c⟩ := x
    obtain ⟨d, e, f⟩ := y
    simp
  have HQ := Lib.hid hq
  clear hq
  rw [run_eql_struct, show (10000 : Nat) = 9999 + 1 from rfl, run_equalIn_agg w 9999 51 _ _ hS hp]
  simp only [Program.fieldsOf, Tryz.underlying51]
  go_simp
  rw [← HQ.out]
  by_cases h1 : x.name.toList = y.name.toList <;> by_cases h2 : x.id.toList = y.id.toList <;> by_cases h3 : x.h = y.h <;> simp [h1, h2, h3]
set_option maxRecDepth 100000 in
theorem neq_of_eql {t : TypeId} {xs ys : Array Value} {b : Bool} {w : World} (h : (binOp .eql t (.agg xs) (.agg ys)).run Tryz.prog w = .ok (.bool b) w) : (binOp .neq t (.agg xs) (.agg ys)).run Tryz.prog w = .ok (.bool (!b)) w := by
  rw [run_eql_struct] at h
  rw [run_neq_struct]
  generalize (Op.equalIn 10000 t (.agg xs) (.agg ys)).run Tryz.prog w = R at *
  cases R with
  | ok r w1 =>
    simp only [Result.andThen_ok] at h ⊢
    injection h with h1 h2
    injection h1 with h1
    rw [h1, h2]
  | halt x w1 => simp [Result.andThen] at h
set_option maxRecDepth 100000 in
set_option maxHeartbeats 4000000 in
theorem tokens_same (v v' : Value) (l m : List Tok) (w : World) (h : RowAt 3 vTok w v l) (h' : RowAt 3 vTok w v' m) (hn : l.length ≤ 1000000) (hm : m.length ≤ 1000000) : Calls Tryz.prog 112 #[v, v'] w fun e w' => e = .returned (.bool (eqB l m)) ∧ Below w.heap.size w w' := by
  obtain ⟨ao, cap, rfl, -, -, hc1⟩ := h
  obtain ⟨ao', cap', rfl, -, -, hc2⟩ := h'
  have HC := Lib.hid (And.intro hc1 hc2)
  obtain ⟨q, hq⟩ : ∃ q, q = eqB l m := ⟨_, rfl⟩
  rw [← hq]
  have HQ := Lib.hid hq
  obtain ⟨n, hnn⟩ : ∃ n, n = l.length := ⟨_, rfl⟩
  obtain ⟨n', hnn'⟩ : ∃ n, n = m.length := ⟨_, rfl⟩
  rw [← hnn] at hn ⊢
  rw [← hnn'] at hm ⊢
  have HL := Lib.hid (And.intro hnn hnn')
  clear hc1 hc2 hq hnn hnn'
  go_enter Tryz.func112, Tryz.ntmps112
  by_cases hd : n = n'
  case neg =>
    have e1 : ((n : Int) != n') = true := by simp; omega
    have e2 : (n == n') = false := by simp; omega
    have HD := Lib.hid hd
    clear hd
    go_wp2_with fail
    go_ret
    exact ⟨ret_b (by rw [HQ.out]; symm; exact eqB_no fun e => HD.out (by rw [HL.out.1, HL.out.2, e])), Below.refl _ _⟩
  subst hd
  have e1 : ((n : Int) != n) = false := by simp
  go_wp2_with fail
  go_loopw [5] (fun i wr => ∃ k : Nat, i = .int .i64 (k : Int) ∧ k ≤ n ∧ Hid (l.take k = m.take k) ∧ Hid (Below w.heap.size w wr)) (fun i _ => n - (intOf i).toNat)
  case atStart => exact ⟨0, rfl, Nat.zero_le _, Lib.hid (by simp), Lib.hid (Below.refl _ _)⟩
  case round =>
    obtain ⟨k, rfl, hkl, HM, HB⟩ := hrel
    rcases Nat.lt_or_ge k n with hlt | hge
    · have ki : (k : Int) < n := by omega
      have hk1 : k < l.length := by rw [← HL.out.1]; exact hlt
      have hk2 : k < m.length := by rw [← HL.out.2]; exact hlt
      obtain ⟨b, off, rfl, hb1, hc1⟩ := HC.out.1 (by omega)
      obtain ⟨b', off', rfl, hb2, hc2⟩ := HC.out.2 (by omega)
      obtain ⟨x, hx⟩ : ∃ x, x = l[k] := ⟨_, rfl⟩
      obtain ⟨y, hy⟩ : ∃ y, y = m[k] := ⟨_, rfl⟩
      have HXY := Lib.hid (And.intro hx hy)
      by_cases hxy : x = y
      · subst hxy
        obtain ⟨a0, a1, a2⟩ := x
        have x0 : ∀ X : LaterOf wr, X.w.cell? ⟨b, off + k * 3, none⟩ = some (.int .i64 a0) := fun X => by
          have := hc1 k hk1 0 (.int .i64 a0) (by rw [← hx]; rfl)
          rw [X.h.cell (Nat.lt_of_lt_of_le hb1 HB.out.size), HB.out.cell hb1]; simpa using this
        have x1 : ∀ X : LaterOf wr, X.w.cell? ⟨b, off + k * 3 + 1, none⟩ = some (.int .i64 a1) := fun X => by
          have := hc1 k hk1 1 (.int .i64 a1) (by rw [← hx]; rfl)
          rw [X.h.cell (Nat.lt_of_lt_of_le hb1 HB.out.size), HB.out.cell hb1]; simpa using this
        have x2 : ∀ X : LaterOf wr, X.w.cell? ⟨b, off + k * 3 + 2, none⟩ = some (.string a2) := fun X => by
          have := hc1 k hk1 2 (.string a2) (by rw [← hx]; rfl)
          rw [X.h.cell (Nat.lt_of_lt_of_le hb1 HB.out.size), HB.out.cell hb1]; simpa using this
        have y0 : ∀ X : LaterOf wr, X.w.cell? ⟨b', off' + k * 3, none⟩ = some (.int .i64 a0) := fun X => by
          have := hc2 k hk2 0 (.int .i64 a0) (by rw [← hy]; rfl)
          rw [X.h.cell (Nat.lt_of_lt_of_le hb2 HB.out.size), HB.out.cell hb2]; simpa using this
        have y1 : ∀ X : LaterOf wr, X.w.cell? ⟨b', off' + k * 3 + 1, none⟩ = some (.int .i64 a1) := fun X => by
          have := hc2 k hk2 1 (.int .i64 a1) (by rw [← hy]; rfl)
          rw [X.h.cell (Nat.lt_of_lt_of_le hb2 HB.out.size), HB.out.cell hb2]; simpa using this
        have y2 : ∀ X : LaterOf wr, X.w.cell? ⟨b', off' + k * 3 + 2, none⟩ = some (.string a2) := fun X => by
          have := hc2 k hk2 2 (.string a2) (by rw [← hy]; rfl)
          rw [X.h.cell (Nat.lt_of_lt_of_le hb2 HB.out.size), HB.out.cell hb2]; simpa using this
        clear hc1 hc2 hx hy
        go_wp2_with fail
        refine wp_region_all (fun w' => ∃ x : LaterOf wr, w' = x.w) (by kernel_rfl) (by kernel_rfl) ⟨LaterOf.start wr, rfl⟩ ?_
        repeat (go_big_quiet_step (fail))
        refine wpQuiet_nil ?_
        intro w3 hw3
        obtain ⟨X, rfl⟩ := hw3
        have H3 := Lib.hid (HB.out.trans (X.h.mono HB.out.size))
        obtain ⟨w3, hx3⟩ := X
        clear x0 x1 x2 y0 y1 y2
        go_wp2_with fail
        exact ⟨⟨k + 1, by simp, by omega, Lib.hid (by rw [take_snoc' hk1, take_snoc' hk2, HM.out, ← HXY.out.1, ← HXY.out.2]), H3⟩, by simp [intOf]; omega⟩
      · obtain ⟨a0, a1, a2⟩ := x
        obtain ⟨b0, b1, b2⟩ := y
        have x0 : ∀ X : LaterOf wr, X.w.cell? ⟨b, off + k * 3, none⟩ = some (.int .i64 a0) := fun X => by
          have := hc1 k hk1 0 (.int .i64 a0) (by rw [← hx]; rfl)
          rw [X.h.cell (Nat.lt_of_lt_of_le hb1 HB.out.size), HB.out.cell hb1]; simpa using this
        have x1 : ∀ X : LaterOf wr, X.w.cell? ⟨b, off + k * 3 + 1, none⟩ = some (.int .i64 a1) := fun X => by
          have := hc1 k hk1 1 (.int .i64 a1) (by rw [← hx]; rfl)
          rw [X.h.cell (Nat.lt_of_lt_of_le hb1 HB.out.size), HB.out.cell hb1]; simpa using this
        have x2 : ∀ X : LaterOf wr, X.w.cell? ⟨b, off + k * 3 + 2, none⟩ = some (.string a2) := fun X => by
          have := hc1 k hk1 2 (.string a2) (by rw [← hx]; rfl)
          rw [X.h.cell (Nat.lt_of_lt_of_le hb1 HB.out.size), HB.out.cell hb1]; simpa using this
        have y0 : ∀ X : LaterOf wr, X.w.cell? ⟨b', off' + k * 3, none⟩ = some (.int .i64 b0) := fun X => by
          have := hc2 k hk2 0 (.int .i64 b0) (by rw [← hy]; rfl)
          rw [X.h.cell (Nat.lt_of_lt_of_le hb2 HB.out.size), HB.out.cell hb2]; simpa using this
        have y1 : ∀ X : LaterOf wr, X.w.cell? ⟨b', off' + k * 3 + 1, none⟩ = some (.int .i64 b1) := fun X => by
          have := hc2 k hk2 1 (.int .i64 b1) (by rw [← hy]; rfl)
          rw [X.h.cell (Nat.lt_of_lt_of_le hb2 HB.out.size), HB.out.cell hb2]; simpa using this
        have y2 : ∀ X : LaterOf wr, X.w.cell? ⟨b', off' + k * 3 + 2, none⟩ = some (.string b2) := fun X => by
          have := hc2 k hk2 2 (.string b2) (by rw [← hy]; rfl)
          rw [X.h.cell (Nat.lt_of_lt_of_le hb2 HB.out.size), HB.out.cell hb2]; simpa using this
        have hne := fun w => neq_of_eql (eql_tok ⟨a0, a1, a2⟩ ⟨b0, b1, b2⟩ w)
        rw [eqB_no hxy] at hne
        have hg : Tryz.prog.eqGuardType Tryz.prog.depth 102 = false := by kernel_rfl
        dsimp only [Bool.not_false] at hne
        have HXn := Lib.hid hxy
        clear hc1 hc2 hx hy hxy
        go_wp2_with fail
        refine wp_region_all (fun w' => ∃ x : LaterOf wr, w' = x.w) (by kernel_rfl) (by kernel_rfl) ⟨LaterOf.start wr, rfl⟩ ?_
        repeat (go_big_quiet_step (fail))
        refine wpQuiet_nil ?_
        intro w3 hw3
        obtain ⟨X, rfl⟩ := hw3
        have H3 := Lib.hid (HB.out.trans (X.h.mono HB.out.size))
        obtain ⟨w3, hx3⟩ := X
        clear x0 x1 x2 y0 y1 y2
        go_wp2_with fail
        go_ret
        exact ⟨ret_b (by rw [HQ.out]; symm; exact eqB_no fun e => HXn.out (HXY.out.1.trans ((by subst e; rfl : l[k] = m[k]).trans HXY.out.2.symm))), H3.out⟩
    · have ki : decide (k < n) = false := decide_eq_false (by omega)
      obtain rfl : n = k := by omega
      go_wp2_with fail
      go_ret
      have hm := HM.out
      rw [HL.out.1, List.take_length, ← HL.out.1, HL.out.2, List.take_length] at hm
      exact ⟨ret_b (by rw [HQ.out, eqB_yes hm]), HB.out⟩
set_option maxRecDepth 100000 in
set_option maxHeartbeats 4000000 in
theorem tombs_same (x y : TbR) (w : World) (hx : x.Reads w) (hy : y.Reads w) (hnx : x.t.cov.length ≤ 1000000 ∧ x.t.acks.length ≤ 1000000) (hny : y.t.cov.length ≤ 1000000 ∧ y.t.acks.length ≤ 1000000) : Calls Tryz.prog 113 #[aTb x, aTb y] w fun e w' => e = .returned (.bool (eqB x.t y.t)) ∧ Below w.heap.size w w' := by
  obtain ⟨⟨a0, a1, a2, l1, l2⟩, v1, v2⟩ := x
  obtain ⟨⟨b0, b1, b2, l3, l4⟩, v3, v4⟩ := y
  obtain ⟨hc1, hc2⟩ := hx
  obtain ⟨hc3, hc4⟩ := hy
  dsimp only at hc1 hc2 hc3 hc4 hnx hny
  have T := Lib.hid (fun W (hW : Below w.heap.size w W) => tokens_same v1 v3 l1 l3 W (hc1.later hW) (hc3.later hW) hnx.1 hny.1)
  have HC := Lib.hid (And.intro hc2 hc4)
  obtain ⟨o1, f1, rfl, -, -⟩ := hc1.form
  obtain ⟨o2, f2, rfl, -, -⟩ := hc2.form
  obtain ⟨o3, f3, rfl, -, -⟩ := hc3.form
  obtain ⟨o4, f4, rfl, -, -⟩ := hc4.form
  obtain ⟨q, hq⟩ : ∃ q, q = eqB (Tb.mk a0 a1 a2 l1 l2) (Tb.mk b0 b1 b2 l3 l4) := ⟨_, rfl⟩
  have HQ := Lib.hid hq
  obtain ⟨qt, hqt⟩ : ∃ q, q = eqB l1 l3 := ⟨_, rfl⟩
  rw [← hqt] at T
  have HT := Lib.hid hqt
  show Calls Tryz.prog 113 #[.agg #[.int .i64 a0, .int .i64 a1, .string a2, .slice o1 l1.length f1, .slice o2 l2.length f2], .agg #[.int .i64 b0, .int .i64 b1, .string b2, .slice o3 l3.length f3, .slice o4 l4.length f4]] w fun e w' => e = .returned (.bool (eqB (Tb.mk a0 a1 a2 l1 l2) (Tb.mk b0 b1 b2 l3 l4))) ∧ Below w.heap.size w w'
  rw [← hq]
  obtain ⟨m1, hm1⟩ : ∃ m, m = l1.length := ⟨_, rfl⟩
  obtain ⟨m2, hm2⟩ : ∃ m, m = l2.length := ⟨_, rfl⟩
  obtain ⟨m3, hm3⟩ : ∃ m, m = l3.length := ⟨_, rfl⟩
  obtain ⟨m4, hm4⟩ : ∃ m, m = l4.length := ⟨_, rfl⟩
  rw [← hm1, ← hm3] at T
  rw [← hm1, ← hm2, ← hm3, ← hm4]
  rw [← hm2, ← hm4] at HC
  have hn2 : m2 ≤ 1000000 := by rw [hm2]; exact hnx.2
  have hn4 : m4 ≤ 1000000 := by rw [hm4]; exact hny.2
  have HL := Lib.hid (And.intro hm2 hm4)
  obtain ⟨W1, hW1⟩ : ∃ W1, W1 = (w.alloc (.cells #[.int .i64 a0, .int .i64 a1, .string a2, .slice o1 m1 f1, .slice o2 m2 f2] 54)).alloc (.cells #[.int .i64 b0, .int .i64 b1, .string b2, .slice o3 m3 f3, .slice o4 m4 f4] 54) := ⟨_, rfl⟩
  have hb1 : Below w.heap.size w W1 := by rw [hW1]; exact ((Below.refl _ _).alloc (Nat.le_refl _) _).alloc (by simp) _
  have k1 : BlkIs W1 w.heap.size 54 #[.int .i64 a0, .int .i64 a1, .string a2, .slice o1 m1 f1, .slice o2 m2 f2] := by rw [hW1]; exact (BlkIs.new _ _ _).alloc _
  have k2 : BlkIs W1 (w.heap.size + 1) 54 #[.int .i64 b0, .int .i64 b1, .string b2, .slice o3 m3 f3, .slice o4 m4 f4] := by rw [hW1]; exact BlkIs.new2 _ _ _ _
  have HW := Lib.hid hW1
  have H1 := Lib.hid (And.intro k1 (And.intro k2 hb1))
  have HC1 := Lib.hid (And.intro (HC.out.1.later hb1) (HC.out.2.later hb1))
  have d3 : W1.cell? ⟨w.heap.size, 3, none⟩ = some (.slice o1 m1 f1) := k1.cell 3
  have e3 : W1.cell? ⟨w.heap.size + 1, 3, none⟩ = some (.slice o3 m3 f3) := k2.cell 3
  clear hc1 hc2 hc3 hc4 hnx hny hq hqt hm1 hm2 hm3 hm4 hW1 hb1 k1 k2 HC
  go_enter Tryz.func113, Tryz.ntmps113
  by_cases g0 : a0 = b0
  case neg =>
    have z0 : (a0 != b0) = true := by simp [g0]
    have G := Lib.hid g0
    clear g0 T
    go_wp2_with fail
    rw [← HW.out]
    go_ret
    exact ⟨ret_b (by rw [HQ.out]; symm; exact eqB_no fun e => G.out (congrArg Tb.node e)), H1.out.2.2⟩
  subst g0
  have z0 : (a0 != a0) = false := by simp
  by_cases g1 : a1 = b1
  case neg =>
    have z1 : (a1 != b1) = true := by simp [g1]
    have G := Lib.hid g1
    clear g1 T
    go_wp2_with fail
    rw [← HW.out]
    go_ret
    exact ⟨ret_b (by rw [HQ.out]; symm; exact eqB_no fun e => G.out (congrArg Tb.n e)), H1.out.2.2⟩
  subst g1
  have z1 : (a1 != a1) = false := by simp
  by_cases g2 : a2 = b2
  case neg =>
    have z2 : (a2.toList == b2.toList) = false := by
      cases h : (a2.toList == b2.toList)
      · rfl
      · exact absurd (bytes_eq.1 h) g2
    have z3 : (a2.toList != b2.toList) = true := by rw [bne, z2]; rfl
    have G := Lib.hid g2
    clear g2 T
    go_wp2_with fail
    rw [← HW.out]
    go_ret
    exact ⟨ret_b (by rw [HQ.out]; symm; exact eqB_no fun e => G.out (congrArg Tb.id e)), H1.out.2.2⟩
  subst g2
  have z2 : (a2.toList == a2.toList) = true := by simp
  have z3 : (a2.toList != a2.toList) = false := by simp
  have TT := Lib.hid (T.out W1 H1.out.2.2)
  clear T
  cases qt
  case false =>
    go_wp2_with fail
    rw [← HW.out]
    refine TT.out.mono ?_
    rintro e w2 ⟨rfl, hb⟩
    have H2 := Lib.hid (H1.out.2.2.trans (hb.mono H1.out.2.2.size))
    clear TT hb d3 e3
    go_wp2_with fail
    go_ret
    exact ⟨ret_b (by rw [HQ.out]; symm; exact eqB_no fun e => by have := HT.out; rw [eqB_yes (congrArg Tb.cov e)] at this; cases this), H2.out⟩
  case true =>
  go_wp2_with fail
  rw [← HW.out]
  refine TT.out.mono ?_
  rintro e w2 ⟨rfl, hb⟩
  have HB2 := Lib.hid hb
  have kA := H1.out.1.below hb H1.out.1.lt
  have kB := H1.out.2.1.below hb H1.out.2.1.lt
  clear TT d3 e3 hb
  have d4 : w2.cell? ⟨w.heap.size, 4, none⟩ = some (.slice o2 m2 f2) := kA.cell 4
  have e4 : w2.cell? ⟨w.heap.size + 1, 4, none⟩ = some (.slice o4 m4 f4) := kB.cell 4
  clear kA kB
  by_cases g4 : m2 = m4
  case neg =>
    have z4 : ((m2 : Int) != m4) = true := by simp; omega
    have z5 : (m2 == m4) = false := by simp; omega
    have G := Lib.hid g4
    clear g4
    go_wp2_with fail
    go_ret
    exact ⟨ret_b (by rw [HQ.out]; symm; exact eqB_no fun e => G.out (by rw [HL.out.1, HL.out.2]; exact congrArg (fun t => t.acks.length) e)), H1.out.2.2.trans (HB2.out.mono H1.out.2.2.size)⟩
  subst g4
  have z4 : ((m2 : Int) != m2) = false := by simp
  go_wp2_with fail
  go_loopw [5] (fun i wr => ∃ k : Nat, i = .int .i64 (k : Int) ∧ k ≤ m2 ∧ Hid (l2.take k = l4.take k) ∧ Hid (Below W1.heap.size W1 wr)) (fun i _ => m2 - (intOf i).toNat)
  case atStart => exact ⟨0, rfl, Nat.zero_le _, Lib.hid (by simp), HB2⟩
  case round =>
    obtain ⟨k, rfl, hkl, HM, HB⟩ := hrel
    clear HB2 d4 e4
    rcases Nat.lt_or_ge k m2 with hlt | hge
    · have ki : (k : Int) < m2 := by omega
      have hk1 : k < l2.length := by rw [← HL.out.1]; exact hlt
      have hk2 : k < l4.length := by rw [← HL.out.2]; exact hlt
      obtain ⟨b, off, rfl, hb1, hc1⟩ := HC1.out.1.at_ (by omega)
      obtain ⟨b', off', rfl, hb2, hc2⟩ := HC1.out.2.at_ (by omega)
      obtain ⟨u, hu⟩ : ∃ u, u = l2[k] := ⟨_, rfl⟩
      obtain ⟨v, hv⟩ : ∃ v, v = l4[k] := ⟨_, rfl⟩
      have HXY := Lib.hid (And.intro hu hv)
      have x0 : ∀ X : LaterOf wr, X.w.cell? ⟨b, off + k, none⟩ = some (.int .i64 u) := fun X => by
        have := hc1 k hk1 0 (.int .i64 u) (by rw [← hu]; rfl)
        rw [X.h.cell (Nat.lt_of_lt_of_le hb1 HB.out.size), HB.out.cell hb1]; simpa using this
      have y0 : ∀ X : LaterOf wr, X.w.cell? ⟨b', off' + k, none⟩ = some (.int .i64 v) := fun X => by
        have := hc2 k hk2 0 (.int .i64 v) (by rw [← hv]; rfl)
        rw [X.h.cell (Nat.lt_of_lt_of_le hb2 HB.out.size), HB.out.cell hb2]; simpa using this
      have kA := H1.out.1.below HB.out H1.out.1.lt
      have kB := H1.out.2.1.below HB.out H1.out.2.1.lt
      have d4 : wr.cell? ⟨w.heap.size, 4, none⟩ = some (.slice (some ⟨b, off, none⟩) m2 f2) := kA.cell 4
      have x4 : ∀ X : LaterOf wr, X.w.cell? ⟨w.heap.size, 4, none⟩ = some (.slice (some ⟨b, off, none⟩) m2 f2) := fun X => (X.blk kA).cell 4
      have y4 : ∀ X : LaterOf wr, X.w.cell? ⟨w.heap.size + 1, 4, none⟩ = some (.slice (some ⟨b', off', none⟩) m2 f4) := fun X => (X.blk kB).cell 4
      clear hc1 hc2 hu hv kA kB
      by_cases huv : u = v
      · subst huv
        have z6 : (u != u) = false := by simp
        go_wp2_with fail
        refine wp_region_all (fun w' => ∃ x : LaterOf wr, w' = x.w) (by kernel_rfl) (by kernel_rfl) ⟨LaterOf.start wr, rfl⟩ ?_
        repeat (go_big_quiet_step (fail))
        refine wpQuiet_nil ?_
        intro w3 hw3
        obtain ⟨X, rfl⟩ := hw3
        have H3 := Lib.hid (HB.out.trans (X.h.mono HB.out.size))
        obtain ⟨w3, hx3⟩ := X
        clear x0 y0 x4 y4 d4
        go_wp2_with fail
        exact ⟨⟨k + 1, by simp, by omega, Lib.hid (by rw [take_snoc' hk1, take_snoc' hk2, HM.out, ← HXY.out.1, ← HXY.out.2]), H3⟩, by simp [intOf]; omega⟩
      · have z6 : (u != v) = true := by simp [huv]
        have HXn := Lib.hid huv
        clear huv
        go_wp2_with fail
        refine wp_region_all (fun w' => ∃ x : LaterOf wr, w' = x.w) (by kernel_rfl) (by kernel_rfl) ⟨LaterOf.start wr, rfl⟩ ?_
        repeat (go_big_quiet_step (fail))
        refine wpQuiet_nil ?_
        intro w3 hw3
        obtain ⟨X, rfl⟩ := hw3
        have H3 := Lib.hid (HB.out.trans (X.h.mono HB.out.size))
        obtain ⟨w3, hx3⟩ := X
        clear x0 y0 x4 y4 d4
        go_wp2_with fail
        go_ret
        exact ⟨ret_b (by rw [HQ.out]; symm; exact eqB_no fun e => HXn.out (HXY.out.1.trans (((by have := congrArg Tb.acks e; subst this; rfl) : l2[k] = l4[k]).trans HXY.out.2.symm))), H1.out.2.2.trans (H3.out.mono H1.out.2.2.size)⟩
    · have ki : decide (k < m2) = false := decide_eq_false (by omega)
      obtain rfl : m2 = k := by omega
      have d4 : wr.cell? ⟨w.heap.size, 4, none⟩ = some (.slice o2 m2 f2) := (H1.out.1.below HB.out H1.out.1.lt).cell 4
      go_wp2_with fail
      go_ret
      have hm := HM.out
      rw [HL.out.1, List.take_length, ← HL.out.1, HL.out.2, List.take_length] at hm
      have hc := eqB_iff.1 HT.out.symm
      exact ⟨ret_b (by rw [HQ.out, hm, hc, eqB_yes rfl]), H1.out.2.2.trans (HB.out.mono H1.out.2.2.size)⟩
end Go.Proofs.YtljenganlknhbaaGreat.Mk
