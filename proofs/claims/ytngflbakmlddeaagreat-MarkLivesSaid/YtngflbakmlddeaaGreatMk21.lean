/- mark.Sure, reliquaryref12.Sure, mark.Live's closure, walked. (Layer 12.) -/
import Derived.Test.YtngflbakmlddeaaGreatMk20
import Derived.Test.YtngflbakmlddeaaGreatOctet1
namespace Go.Proofs.YtngflbakmlddeaaGreat.Mk
set_option linter.unusedVariables false
open Go.RowKit
open Oct (Moved)
def sureB (t : Tb) (n : Int) : Bool := decide (n < 2 * (t.acks.length : Int))
theorem sure_any (x : TbR) (n : Int) (w : World) (h : x.Reads w) (hf : x.t.acks.length ≤ 1000000) : Calls Tryz.prog 20 #[aTb x, .int .i64 n] w fun e w' => e = .returned (.bool (sureB x.t n)) ∧ Below w.heap.size w w' := by
  obtain ⟨⟨a, b, c, l1, l2⟩, cv, av⟩ := x
  obtain ⟨-, h2⟩ := h
  dsimp only at hf h2
  obtain ⟨ao, cap, rfl, h3, h4⟩ := h2.form
  obtain ⟨k, hk⟩ : ∃ k, k = l2.length := ⟨_, rfl⟩
  have hr : sureB ⟨a, b, c, l1, l2⟩ n = decide (n < 2 * (k : Int)) := by rw [hk]; rfl
  rw [hr]
  rw [← hk] at hf ⊢
  have hw : IntKind.i64.wrap (2 * (k : Int)) = 2 * (k : Int) := IntWalk.i64_in _ (by omega)
  clear h2 h3 h4 hk hr
  obtain ⟨q, hq⟩ : ∃ q, q = decide (n < 2 * (k : Int)) := ⟨_, rfl⟩
  rw [← hq]
  have HQ := Lib.hid hq
  have hq' := hq.symm
  clear hq
  unfold aTb
  go_enter Tryz.func20, Tryz.ntmps20
  go_wp2_with fail
  go_ret
  exact ⟨by first | rfl | rw [hq'], ((Below.refl _ _).alloc (Nat.le_refl _) _)⟩
theorem rsure_any (x : TbR) (n : Int) (w : World) (h : x.Reads w) (hf : x.t.acks.length ≤ 1000000) : Calls Tryz.prog 29 #[aTb x, .int .i64 n] w fun e w' => e = .returned (.bool (sureB x.t n)) ∧ Below w.heap.size w w' := by
  obtain ⟨⟨a, b, c, l1, l2⟩, cv, av⟩ := x
  obtain ⟨-, h2⟩ := h
  dsimp only at hf h2
  obtain ⟨ao, cap, rfl, h3, h4⟩ := h2.form
  obtain ⟨k, hk⟩ : ∃ k, k = l2.length := ⟨_, rfl⟩
  have hr : sureB ⟨a, b, c, l1, l2⟩ n = decide (n < 2 * (k : Int)) := by rw [hk]; rfl
  rw [hr]
  rw [← hk] at hf ⊢
  have hw : IntKind.i64.wrap (2 * (k : Int)) = 2 * (k : Int) := IntWalk.i64_in _ (by omega)
  clear h2 h3 h4 hk hr
  obtain ⟨q, hq⟩ : ∃ q, q = decide (n < 2 * (k : Int)) := ⟨_, rfl⟩
  rw [← hq]
  have HQ := Lib.hid hq
  have hq' := hq.symm
  clear hq
  unfold aTb
  go_enter Tryz.func29, Tryz.ntmps29
  go_wp2_with fail
  go_ret
  exact ⟨by first | rfl | rw [hq'], ((Below.refl _ _).alloc (Nat.le_refl _) _)⟩
theorem live1_any (x : Tok) (P b : Nat) (f : Tok → Bool) (w : World) (hm : TokMap w b f) (hP : BlkIs w P 102 #[.map (some b)]) : Calls Tryz.prog 72 #[aTok x, .pointer (some ⟨P, 0, none⟩)] w fun e w' => e = .returned (.bool (f x)) ∧ Below w.heap.size w w' := by
  obtain ⟨W1, hW1⟩ : ∃ W1, W1 = w.alloc (.cells #[.int .i64 x.node, .int .i64 x.n, .string x.id] 43) := ⟨_, rfl⟩
  have hb : Below w.heap.size w W1 := by rw [hW1]; exact (Below.refl _ _).alloc (Nat.le_refl _) _
  have k1 : BlkIs W1 w.heap.size 43 #[.int .i64 x.node, .int .i64 x.n, .string x.id] := by rw [hW1]; exact BlkIs.new _ _ _
  have k2 : BlkIs W1 P 102 #[.map (some b)] := BlkIs.below hP hb hP.lt
  have lk := (hm.below hb hm.lt).lookup x
  obtain ⟨q, hq⟩ : ∃ q, q = f x := ⟨_, rfl⟩
  rw [← hq] at lk ⊢
  obtain ⟨x0, x1, x2⟩ := x
  change (Instr.lookup 102 (.map (some b)) (.agg #[.int .i64 x0, .int .i64 x1, .string x2]) false).run Tryz.prog W1 = .ok (.bool q) W1 at lk
  dsimp only at hW1 k1
  have c0 : W1.cell? ⟨P, 0, none⟩ = some (.map (some b)) := k2.cell 0
  have d0 : W1.cell? ⟨w.heap.size, 0, none⟩ = some (.int .i64 x0) := k1.cell 0
  have d1 : W1.cell? ⟨w.heap.size, 1, none⟩ = some (.int .i64 x1) := k1.cell 1
  have d2 : W1.cell? ⟨w.heap.size, 2, none⟩ = some (.string x2) := k1.cell 2
  have HB := Lib.hid hb
  clear hq hb k1 k2 hm hP
  rw [hW1] at lk c0 d0 d1 d2 HB
  clear hW1
  unfold aTok
  go_enter Tryz.func72, Tryz.ntmps72
  go_wp2_with fail
  go_ret
  exact ⟨rfl, HB.out⟩
end Go.Proofs.YtngflbakmlddeaaGreat.Mk
