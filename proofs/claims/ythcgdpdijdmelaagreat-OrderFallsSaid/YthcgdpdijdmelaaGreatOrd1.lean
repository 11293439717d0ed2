/- How two facts stand: order.Compare, walked. No conditions. (Layer 11.) -/
import Derived.Test.YthcgdpdijdmelaaGreatShelf
import Derived.Deep.CutRange
import Derived.Test.YthcgdpdijdmelaaGreatRegion
import Derived.Test.YthcgdpdijdmelaaGreatOrd0
import Derived.Sort.Grow
import Derived.Lib.Hide
namespace Go.Proofs.YthcgdpdijdmelaaGreat.Ord
set_option linter.unusedVariables false
open Go.RowKit Go.Sort Go.Lib
theorem or_two (b off : Nat) (x y : Int) (w : World) (hx : w.cell? ⟨b, off, none⟩ = some (.int .i64 x)) (hy : w.cell? ⟨b, off + 1, none⟩ = some (.int .i64 y)) :
    Calls Tryz.prog 29 #[.slice (some ⟨b, off, none⟩) 2 2] w fun e w' => e = .returned (.int .i64 (if x = 0 then y else x)) ∧ w = w' := by
  obtain ⟨r, hr⟩ : ∃ r : Int, r = (if x = 0 then y else x) := ⟨_, rfl⟩
  rw [← hr]
  have HR := Lib.hid hr
  clear hr
  go_enter Tryz.func29, Tryz.ntmps29
  go_wp2_with fail
  go_loopw [5, 8] (fun s5 s8 wr => ∃ j : Nat, s8 = .int .i64 (j : Int) ∧ j ≤ 2 ∧ Hid (0 < j → x = 0) ∧ Hid (1 < j → y = 0) ∧ wr = w) (fun _ i _ => ((2 : Int) - intOf i).toNat)
  case atStart => exact ⟨0, rfl, by omega, Lib.hid (fun h => absurd h (by omega)), Lib.hid (fun h => absurd h (by omega)), rfl⟩
  case round =>
    obtain ⟨j, rfl, hj, h1, h2, rfl⟩ := hrel
    rcases Nat.lt_or_ge j 1 with hj0 | hj0
    · obtain rfl : j = 0 := by omega
      by_cases h : x = 0
      · subst h
        go_wp2_with fail
        refine ⟨⟨1, rfl, by omega, Lib.hid (fun _ => by trivial), Lib.hid (fun h => absurd h (by omega)), trivial⟩, ?_⟩
        decide
      · have z : (x == 0) = false := by simpa using h
        have HH := Lib.hid h
        clear h
        go_wp2_with fail
        go_ret
        exact ⟨by rw [HR.out, if_neg HH.out]; rfl, rfl⟩
    rcases Nat.lt_or_ge j 2 with hj1 | hj1
    · obtain rfl : j = 1 := by omega
      by_cases h : y = 0
      · subst h
        go_wp2_with fail
        refine ⟨⟨2, rfl, by omega, Lib.hid (fun _ => h1.out (by omega)), Lib.hid (fun _ => by trivial), trivial⟩, ?_⟩
        decide
      · have z : (y == 0) = false := by simpa using h
        have HH := Lib.hid h
        clear h
        go_wp2_with fail
        go_ret
        exact ⟨by rw [HR.out, if_pos (h1.out (by omega))]; rfl, rfl⟩
    · obtain rfl : j = 2 := by omega
      go_wp2_with fail
      go_ret
      exact ⟨by rw [HR.out, if_pos (h1.out (by omega)), h2.out (by omega)]; rfl, rfl⟩
/-- order.Compare, in whatever world: draws and new blocks. -/
theorem compare_any (x y : Fv) (W : World) : Calls Tryz.prog 12 #[.agg #[.string x.id, .int .i64 x.h, .slice x.pa x.np x.pc], .agg #[.string y.id, .int .i64 y.h, .slice y.pa y.np y.pc]] W fun e w' => e = .returned (.int .i64 (cmpF x y)) ∧ ∃ q os', w' = grow (W.drewN q) os' := by
  obtain ⟨c1, hc1⟩ : ∃ c, c = compareInt x.h y.h := ⟨_, rfl⟩
  obtain ⟨c2, hc2⟩ : ∃ c, c = compareBytes x.id.data.toList y.id.data.toList := ⟨_, rfl⟩
  have hcf : cmpF x y = (if c1 = 0 then c2 else c1) := by unfold cmpF; rw [hc1, hc2]
  have S1 := fun w => Tryz.cmp_Compare_int x.h y.h w
  have S2 := fun w => Tryz.strings_Compare x.id y.id w
  rw [← hc1] at S1
  rw [← hc2] at S2
  have S3 := fun b off w h1 h2 => or_two b off c1 c2 w h1 h2
  rw [hcf]
  generalize (if c1 = 0 then c2 else c1) = r at *
  have S1 := Lib.hid S1
  have S2 := Lib.hid S2
  have S3 := Lib.hid S3
  obtain ⟨i1, h1, a1, n1, p1⟩ := x
  obtain ⟨i2, h2, a2, n2, p2⟩ := y
  clear hcf hc1 hc2
  go_enter Tryz.func12, Tryz.ntmps12
  go_upto_region 1 with (fail)
  obtain ⟨W2, hW2⟩ : ∃ W2, W2 = (W.alloc (.cells #[.string i1, .int .i64 h1, .slice a1 n1 p1] 28)).alloc (.cells #[.string i2, .int .i64 h2, .slice a2 n2 p2] 28) := ⟨_, rfl⟩
  have k1 : BlkIs W2 W.heap.size 28 #[.string i1, .int .i64 h1, .slice a1 n1 p1] := by rw [hW2]; exact (BlkIs.new _ _ _).alloc _
  have k2 : BlkIs W2 (W.heap.size + 1) 28 #[.string i2, .int .i64 h2, .slice a2 n2 p2] := by rw [hW2]; exact BlkIs.new2 _ _ _ _
  rw [← hW2]
  have HW2 := Lib.hid hW2
  have e0 : ∀ q : Nat, (W2.drewN q).cell? ⟨W.heap.size, 0, none⟩ = some (.string i1) := fun q => k1.cell 0
  have e1 : ∀ q : Nat, (W2.drewN q).cell? ⟨W.heap.size, 1, none⟩ = some (.int .i64 h1) := fun q => k1.cell 1
  have e2 : ∀ q : Nat, (W2.drewN q).cell? ⟨W.heap.size + 1, 0, none⟩ = some (.string i2) := fun q => k2.cell 0
  have e3 : ∀ q : Nat, (W2.drewN q).cell? ⟨W.heap.size + 1, 1, none⟩ = some (.int .i64 h2) := fun q => k2.cell 1
  clear hW2 k1 k2
  refine wp_region_heads (fun w' => ∃ q : Nat, w' = W2.drewN q) 10 (by kernel_rfl) (by kernel_rfl) ⟨1, rfl⟩ ?_
  simp only [List.take_succ_cons, List.take_zero, List.drop_succ_cons, List.drop_zero]
  repeat (go_big_quiet_step (first | exact (S1.out _).mono (fun _ _ h => ⟨h.1, _, h.2⟩) | exact (S2.out _).mono (fun _ _ h => ⟨h.1, _, h.2⟩)))
  refine wpQuiet_nil ?_
  intro w3 hw3
  obtain ⟨q, rfl⟩ := hw3
  clear e0 e1 e2 e3
  have k3 := BlkIs.new (W2.drewN q) 3 #[.int .i64 c1, .int .i64 c2]
  have p0 : ((W2.drewN q).alloc (.cells #[.int .i64 c1, .int .i64 c2] 3)).cell? ⟨(W2.drewN q).heap.size, 0, none⟩ = some (.int .i64 c1) := k3.cell 0
  have p1' : ((W2.drewN q).alloc (.cells #[.int .i64 c1, .int .i64 c2] 3)).cell? ⟨(W2.drewN q).heap.size, 0 + 1, none⟩ = some (.int .i64 c2) := k3.cell 1
  have P := Lib.hid (And.intro p0 p1')
  clear k3 p0 p1'
  go_wp2_with fail
  refine (S3.out _ _ _ P.out.1 P.out.2).mono ?_
  rintro e w4 ⟨rfl, rfl⟩
  go_wp2_with fail
  go_ret
  refine ⟨rfl, q, #[.cells #[.string i1, .int .i64 h1, .slice a1 n1 p1] 28, .cells #[.string i2, .int .i64 h2, .slice a2 n2 p2] 28, .cells #[.int .i64 c1, .int .i64 c2] 3], ?_⟩
  rw [HW2.out]
  simp only [alloc_eq_grow]
  rw [grow_grow]
  show grow (grow (W.drewN q) _) _ = _
  rw [grow_grow]
  rfl
end Go.Proofs.YthcgdpdijdmelaaGreat.Ord
