/- What the reference of layer 2 computes, walked: turn, block. -/
import Derived.Test.YtjkhmjklmclpoaaGreatSha5
namespace Go.Proofs.YtjkhmjklmclpoaaGreat.Sha
open Go.RowKit
theorem bits_or_comm (k : IntKind) (x y : Int) : bits BinOp.or k x y = bits BinOp.or k y x := by
  simp only [bits, BitVec.or_comm]
theorem turn_any (x n : Int) (w : World) (hx : isW x) (h : 1 ≤ n) (h2 : n ≤ 31) :
    Calls Tryz.prog 94 #[.int .u32 x, .int .i64 n] w fun e w' => e = .returned (.int .u32 (rotl x (32 - n.toNat))) ∧ ∃ m, w' = w.drewN m := by
  obtain ⟨m, rfl⟩ := Int.eq_ofNat_of_zero_le (show 0 ≤ n by omega)
  have hx0 := hx.1
  have hx1 := hx.2
  have e1 : IntKind.i64.wrap (32 - (m : Int)) = 32 - (m : Int) := IntWalk.i64_in _ (by omega)
  have n1 : (32 - (m : Int)).toNat = 32 - m := by omega
  have g1 : (0 : Int) ≤ 32 - (m : Int) := by omega
  have hm : m ≤ 31 := by omega
  have hm1 : 1 ≤ m := by omega
  go_enter Tryz.func94, Tryz.ntmps94
  go_wp2
  go_quiet (fail)
  go_wp2
  go_ret
  refine ⟨?_, _, rfl⟩
  refine ret_int ?_
  rw [bits_or_comm]
  unfold rotl
  rw [Int.toNat_natCast, show 32 - (32 - m) = m by omega]
theorem consts_any (w : World) : Calls Tryz.prog 68 #[] w fun e w' => e = .returned (.agg (nums .u32 kTable)) ∧ Below w.heap.size w w' := by
  have hinfo : (Tryz.prog.info? 94).map (·.size) = some (nums .u32 kTable).size := by kernel_rfl
  go_enter Tryz.func68, Tryz.ntmps68
  go_wp2_with (first
    | (refine wpList_build_to rfl 94 _ rfl (nums .u32 kTable) (by kernel_rfl) ?_)
    | (refine wpList_store_row rfl 94 _ _ rfl w.heap.size (nums .u32 kTable) rfl rfl 94 _ (BlkIs.new _ _ _) hinfo (by rfl) (nums_one _ _) ?_))
  refine bodyPost_ret (results_cell_row rfl _ _ w.heap.size 94 (nums .u32 kTable) (0, 0) _ rfl (BlkIs.row (BlkIs.new _ _ _) _) Tryz.underlying94 rfl hinfo) rfl ⟨rfl, below_row ((Below.refl _ _).alloc (Nat.le_refl _) _) (Nat.le_refl _) _⟩
end Go.Proofs.YtjkhmjklmclpoaaGreat.Sha
