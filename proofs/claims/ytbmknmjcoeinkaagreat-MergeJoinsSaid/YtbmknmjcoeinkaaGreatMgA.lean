/- Several texts in one. (Layer 12.) -/
import Derived.Test.YtbmknmjcoeinkaaGreatShelf
import Derived.Deep.CutRange
import Derived.Test.YtbmknmjcoeinkaaGreatRegion
import Derived.Test.YtbmknmjcoeinkaaGreatMgPl
import Derived.Test.YtbmknmjcoeinkaaGreatMk11
import Derived.Sort.Grow
import Derived.Lib.Hide
/- How refs, tokens, tombs stand: merge.stands, order, the closures that sort, walked. No conditions. (Layer 13.) -/
namespace Go.Proofs.YtbmknmjcoeinkaaGreat.Mg
set_option linter.unusedVariables false
open Go.RowKit Go.Sort Go.Lib
open Mk (Rf Tok Tb TbR)
open Set (El)
theorem cb_neg : ∀ (a b : List UInt8), compareBytes a b < 0 ↔ a < b
  | [], [] => by simp [compareBytes]
  | [], _ :: _ => by simp [compareBytes]
  | _ :: _, [] => by simp [compareBytes]
  | a :: x, b :: y => by
    unfold compareBytes
    rw [List.cons_lt_cons_iff]
    by_cases h1 : a < b
    · simp [h1]
    · by_cases h2 : b < a
      · have : a ≠ b := fun h => by subst h; exact h1 h2
        simp [h1, h2, this]
      · have : a = b := by
          apply UInt8.toNat_inj.1
          have e1 : ¬ a.toNat < b.toNat := h1
          have e2 : ¬ b.toNat < a.toNat := h2
          omega
        simp [cb_neg x y, this]
theorem cb_zero : ∀ (a b : List UInt8), compareBytes a b = 0 ↔ a = b
  | [], [] => by simp [compareBytes]
  | [], _ :: _ => by simp [compareBytes]
  | _ :: _, [] => by simp [compareBytes]
  | a :: x, b :: y => by
    unfold compareBytes
    rw [List.cons.injEq]
    by_cases h1 : a < b
    · have : a ≠ b := fun h => by subst h; exact absurd h1 (by simp)
      simp [h1, this]
    · by_cases h2 : b < a
      · have : a ≠ b := fun h => by subst h; exact absurd h2 (by simp)
        simp [h1, h2, this]
      · have : a = b := by
          apply UInt8.toNat_inj.1
          have e1 : ¬ a.toNat < b.toNat := h1
          have e2 : ¬ b.toNat < a.toNat := h2
          omega
        simp [cb_zero x y, this]
theorem ci_neg (a b : Int) : compareInt a b < 0 ↔ a < b := by
  unfold compareInt
  split
  · next h => exact ⟨fun _ => h, fun _ => by decide⟩
  · next h => split <;> exact ⟨fun h2 => absurd h2 (by decide), fun h2 => absurd h2 h⟩
theorem ci_zero (a b : Int) : compareInt a b = 0 ↔ a = b := by
  unfold compareInt
  split
  · next h => exact ⟨fun h2 => absurd h2 (by decide), fun h2 => by omega⟩
  · next h =>
    split
    · next h1 => exact ⟨fun h2 => absurd h2 (by decide), fun h2 => by omega⟩
    · next h1 => exact ⟨fun _ => by omega, fun _ => rfl⟩
/-- How two refs of one name stand. -/
def cS (x y : Rf) : Int := if compareInt x.h y.h = 0 then compareBytes x.id.data.toList y.id.data.toList else compareInt x.h y.h
theorem cS_neg (x y : Rf) : cS x y < 0 ↔ Ab y x := by
  unfold cS Ab
  by_cases h : compareInt x.h y.h = 0
  · rw [if_pos h, cb_neg]
    have e := (ci_zero _ _).1 h
    constructor
    · intro h1; exact .inr ⟨e.symm, h1⟩
    · rintro (h1 | ⟨-, h1⟩)
      · omega
      · exact h1
  · rw [if_neg h, ci_neg]
    have e : x.h ≠ y.h := fun e => h ((ci_zero _ _).2 e)
    constructor
    · exact .inl
    · rintro (h1 | ⟨h1, -⟩)
      · exact h1
      · exact absurd h1.symm e
theorem cS_zero (x y : Rf) : cS x y = 0 ↔ x.h = y.h ∧ x.id = y.id := by
  unfold cS
  by_cases h : compareInt x.h y.h = 0
  · rw [if_pos h, cb_zero]
    have e := (ci_zero _ _).1 h
    exact ⟨fun h1 => ⟨e, Set.bytes_inj h1⟩, fun h1 => by rw [h1.2]⟩
  · rw [if_neg h]
    exact ⟨fun h1 => absurd h1 h, fun h1 => absurd ((ci_zero _ _).2 h1.1) h⟩
/-- How two keys stand. -/
def cK (x y : K2) : Int := if compareInt x.1 y.1 = 0 then compareInt x.2 y.2 else compareInt x.1 y.1
theorem cK_neg (x y : K2) : cK x y < 0 ↔ El.lt x y := by
  unfold cK
  rw [lt2]
  by_cases h : compareInt x.1 y.1 = 0
  · rw [if_pos h, ci_neg]
    have e := (ci_zero _ _).1 h
    omega
  · rw [if_neg h, ci_neg]
    have e : x.1 ≠ y.1 := fun e => h ((ci_zero _ _).2 e)
    omega
theorem or_two (b off : Nat) (x y : Int) (w : World) (hx : w.cell? ⟨b, off, none⟩ = some (.int .i64 x)) (hy : w.cell? ⟨b, off + 1, none⟩ = some (.int .i64 y)) :
    Calls Tryz.prog 78 #[.slice (some ⟨b, off, none⟩) 2 2] w fun e w' => e = .returned (.int .i64 (if x = 0 then y else x)) ∧ w = w' := by
  obtain ⟨r, hr⟩ : ∃ r : Int, r = (if x = 0 then y else x) := ⟨_, rfl⟩
  rw [← hr]
  have HR := Lib.hid hr
  clear hr
  go_enter Tryz.func78, Tryz.ntmps78
  go_wp2_with fail
  go_loopw [5, 8] (fun s5 s8 wr => ∃ j : Nat, s8 = .int .i64 (j : Int) ∧ j ≤ 2 ∧ Hid (0 < j → x = 0) ∧ Hid (1 < j → y = 0) ∧ wr = w) (fun _ i _ => ((2 : Int) - intOf i).toNat)
  case atStart => exact ⟨0, rfl, by omega, Lib.hid (fun h => absurd h (by omega)), Lib.hid (fun h => absurd h (by omega)), rfl⟩
  case round =>
    obtain ⟨j, rfl, hj, h1, h2, rfl⟩ := hrel
    rcases Nat.lt_or_ge j 1 with hj0 | hj0
    · obtain rfl : j = 0 := by omega
      by_cases h : x = 0
      · subst h
        go_wp2_with fail
        refine ⟨⟨1, rfl, by omega, Lib.hid (fun _ => by trivial), Lib.hid (fun h => absurd h (by omega)), trivial⟩, ?_⟩
        decide
      · have z : (x == 0) = false := by simpa using h
        have HH := Lib.hid h
        clear h
        go_wp2_with fail
        go_ret
        exact ⟨by rw [HR.out, if_neg HH.out]; rfl, rfl⟩
    rcases Nat.lt_or_ge j 2 with hj1 | hj1
    · obtain rfl : j = 1 := by omega
      by_cases h : y = 0
      · subst h
        go_wp2_with fail
        refine ⟨⟨2, rfl, by omega, Lib.hid (fun _ => h1.out (by omega)), Lib.hid (fun _ => by trivial), trivial⟩, ?_⟩
        decide
      · have z : (y == 0) = false := by simpa using h
        have HH := Lib.hid h
        clear h
        go_wp2_with fail
        go_ret
        exact ⟨by rw [HR.out, if_pos (h1.out (by omega))]; rfl, rfl⟩
    · obtain rfl : j = 2 := by omega
      go_wp2_with fail
      go_ret
      exact ⟨by rw [HR.out, if_pos (h1.out (by omega)), h2.out (by omega)]; rfl, rfl⟩
/-- A call that draws, and makes new blocks alone. -/
def Grows (f : FuncId) (args : Array Value) (v : Value) : Prop := ∀ W, Calls Tryz.prog f args W fun e w' => e = .returned v ∧ ∃ q os', w' = grow (W.drewN q) os'
theorem grows_below {W : World} {q : Nat} {os : Array Obj} : Below W.heap.size W (grow (W.drewN q) os) :=
  ⟨rfl, rfl, rfl, by simp [grow], fun k hk => by
    show ((W.drewN q).heap ++ os)[k]? = _
    rw [Array.getElem?_append_left (by simpa using hk)]
    rfl⟩
theorem Grows.below {f : FuncId} {args : Array Value} {v : Value} (h : Grows f args v) (W : World) : Calls Tryz.prog f args W fun e w' => e = .returned v ∧ Below W.heap.size W w' :=
  (h W).mono fun e w' ⟨he, q, os, hw⟩ => ⟨he, by rw [hw]; exact grows_below⟩
theorem stands_any (x y : Rf) : Grows 31 #[.agg #[.string x.name, .string x.id, .int .i64 x.h], .agg #[.string y.name, .string y.id, .int .i64 y.h]] (.int .i64 (cS x y)) := by
  intro W
  obtain ⟨c1, hc1⟩ : ∃ c, c = compareInt x.h y.h := ⟨_, rfl⟩
  obtain ⟨c2, hc2⟩ : ∃ c, c = compareBytes x.id.data.toList y.id.data.toList := ⟨_, rfl⟩
  have hcf : cS x y = (if c1 = 0 then c2 else c1) := by unfold cS; rw [hc1, hc2]
  have S1 := fun w => Tryz.cmp_Compare_int x.h y.h w
  have S2 := fun w => Tryz.strings_Compare x.id y.id w
  rw [← hc1] at S1
  rw [← hc2] at S2
  have S3 := fun b off w h1 h2 => or_two b off c1 c2 w h1 h2
  rw [hcf]
  generalize (if c1 = 0 then c2 else c1) = r at *
  have S1 := Lib.hid S1
  have S2 := Lib.hid S2
  have S3 := Lib.hid S3
  obtain ⟨n1, i1, h1⟩ := x
  obtain ⟨n2, i2, h2⟩ := y
  clear hcf hc1 hc2
  go_enter Tryz.func31, Tryz.ntmps31
  go_upto_region 1 with (fail)
  obtain ⟨W2, hW2⟩ : ∃ W2, W2 = (W.alloc (.cells #[.string n1, .string i1, .int .i64 h1] 49)).alloc (.cells #[.string n2, .string i2, .int .i64 h2] 49) := ⟨_, rfl⟩
  have k1 : BlkIs W2 W.heap.size 49 #[.string n1, .string i1, .int .i64 h1] := by rw [hW2]; exact (BlkIs.new _ _ _).alloc _
  have k2 : BlkIs W2 (W.heap.size + 1) 49 #[.string n2, .string i2, .int .i64 h2] := by rw [hW2]; exact BlkIs.new2 _ _ _ _
  rw [← hW2]
  have HW2 := Lib.hid hW2
  have e0 : ∀ q : Nat, (W2.drewN q).cell? ⟨W.heap.size, 1, none⟩ = some (.string i1) := fun q => k1.cell 1
  have e1 : ∀ q : Nat, (W2.drewN q).cell? ⟨W.heap.size, 2, none⟩ = some (.int .i64 h1) := fun q => k1.cell 2
  have e2 : ∀ q : Nat, (W2.drewN q).cell? ⟨W.heap.size + 1, 1, none⟩ = some (.string i2) := fun q => k2.cell 1
  have e3 : ∀ q : Nat, (W2.drewN q).cell? ⟨W.heap.size + 1, 2, none⟩ = some (.int .i64 h2) := fun q => k2.cell 2
  clear hW2 k1 k2
  refine wp_region_heads (fun w' => ∃ q : Nat, w' = W2.drewN q) 10 (by kernel_rfl) (by kernel_rfl) ⟨1, rfl⟩ ?_
  simp only [List.take_succ_cons, List.take_zero, List.drop_succ_cons, List.drop_zero]
  repeat (go_big_quiet_step (first | exact (S1.out _).mono (fun _ _ h => ⟨h.1, _, h.2⟩) | exact (S2.out _).mono (fun _ _ h => ⟨h.1, _, h.2⟩)))
  refine wpQuiet_nil ?_
  intro w3 hw3
  obtain ⟨q, rfl⟩ := hw3
  clear e0 e1 e2 e3
  have k3 := BlkIs.new (W2.drewN q) 3 #[.int .i64 c1, .int .i64 c2]
  have p0 : ((W2.drewN q).alloc (.cells #[.int .i64 c1, .int .i64 c2] 3)).cell? ⟨(W2.drewN q).heap.size, 0, none⟩ = some (.int .i64 c1) := k3.cell 0
  have p1' : ((W2.drewN q).alloc (.cells #[.int .i64 c1, .int .i64 c2] 3)).cell? ⟨(W2.drewN q).heap.size, 0 + 1, none⟩ = some (.int .i64 c2) := k3.cell 1
  have P := Lib.hid (And.intro p0 p1')
  clear k3 p0 p1'
  go_wp2_with fail
  refine (S3.out _ _ _ P.out.1 P.out.2).mono ?_
  rintro e w4 ⟨rfl, rfl⟩
  go_wp2_with fail
  go_ret
  refine ⟨rfl, q, #[.cells #[.string n1, .string i1, .int .i64 h1] 49, .cells #[.string n2, .string i2, .int .i64 h2] 49, .cells #[.int .i64 c1, .int .i64 c2] 3], ?_⟩
  rw [HW2.out]
  simp only [alloc_eq_grow]
  rw [grow_grow]
  show grow (grow (W.drewN q) _) _ = _
  rw [grow_grow]
  rfl
theorem order_any (x y : K2) : Grows 68 #[.agg #[.int .i64 x.1, .int .i64 x.2], .agg #[.int .i64 y.1, .int .i64 y.2]] (.int .i64 (cK x y)) := by
  intro W
  obtain ⟨c1, hc1⟩ : ∃ c, c = compareInt x.1 y.1 := ⟨_, rfl⟩
  obtain ⟨c2, hc2⟩ : ∃ c, c = compareInt x.2 y.2 := ⟨_, rfl⟩
  have hcf : cK x y = (if c1 = 0 then c2 else c1) := by unfold cK; rw [hc1, hc2]
  have S1 := fun w => Tryz.cmp_Compare_int x.1 y.1 w
  have S2 := fun w => Tryz.cmp_Compare_int x.2 y.2 w
  rw [← hc1] at S1
  rw [← hc2] at S2
  have S3 := fun b off w h1 h2 => or_two b off c1 c2 w h1 h2
  rw [hcf]
  generalize (if c1 = 0 then c2 else c1) = r at *
  have S1 := Lib.hid S1
  have S2 := Lib.hid S2
  have S3 := Lib.hid S3
  obtain ⟨i1, h1⟩ := x
  obtain ⟨i2, h2⟩ := y
  dsimp only at S1 S2 ⊢
  clear hcf hc1 hc2
  go_enter Tryz.func68, Tryz.ntmps68
  go_upto_region 1 with (fail)
  obtain ⟨W2, hW2⟩ : ∃ W2, W2 = (W.alloc (.cells #[.int .i64 i1, .int .i64 h1] 65)).alloc (.cells #[.int .i64 i2, .int .i64 h2] 65) := ⟨_, rfl⟩
  have k1 : BlkIs W2 W.heap.size 65 #[.int .i64 i1, .int .i64 h1] := by rw [hW2]; exact (BlkIs.new _ _ _).alloc _
  have k2 : BlkIs W2 (W.heap.size + 1) 65 #[.int .i64 i2, .int .i64 h2] := by rw [hW2]; exact BlkIs.new2 _ _ _ _
  rw [← hW2]
  have HW2 := Lib.hid hW2
  have e0 : ∀ q : Nat, (W2.drewN q).cell? ⟨W.heap.size, 0, none⟩ = some (.int .i64 i1) := fun q => k1.cell 0
  have e1 : ∀ q : Nat, (W2.drewN q).cell? ⟨W.heap.size, 1, none⟩ = some (.int .i64 h1) := fun q => k1.cell 1
  have e2 : ∀ q : Nat, (W2.drewN q).cell? ⟨W.heap.size + 1, 0, none⟩ = some (.int .i64 i2) := fun q => k2.cell 0
  have e3 : ∀ q : Nat, (W2.drewN q).cell? ⟨W.heap.size + 1, 1, none⟩ = some (.int .i64 h2) := fun q => k2.cell 1
  clear hW2 k1 k2
  refine wp_region_heads (fun w' => ∃ q : Nat, w' = W2.drewN q) 10 (by kernel_rfl) (by kernel_rfl) ⟨1, rfl⟩ ?_
  simp only [List.take_succ_cons, List.take_zero, List.drop_succ_cons, List.drop_zero]
  repeat (go_big_quiet_step (first | with_reducible exact (S1.out _).mono (fun _ _ h => ⟨h.1, _, h.2⟩) | with_reducible exact (S2.out _).mono (fun _ _ h => ⟨h.1, _, h.2⟩)))
  refine wpQuiet_nil ?_
  intro w3 hw3
  obtain ⟨q, rfl⟩ := hw3
  clear e0 e1 e2 e3
  have k3 := BlkIs.new (W2.drewN q) 3 #[.int .i64 c1, .int .i64 c2]
  have p0 : ((W2.drewN q).alloc (.cells #[.int .i64 c1, .int .i64 c2] 3)).cell? ⟨(W2.drewN q).heap.size, 0, none⟩ = some (.int .i64 c1) := k3.cell 0
  have p1' : ((W2.drewN q).alloc (.cells #[.int .i64 c1, .int .i64 c2] 3)).cell? ⟨(W2.drewN q).heap.size, 0 + 1, none⟩ = some (.int .i64 c2) := k3.cell 1
  have P := Lib.hid (And.intro p0 p1')
  clear k3 p0 p1'
  go_wp2_with fail
  refine (S3.out _ _ _ P.out.1 P.out.2).mono ?_
  rintro e w4 ⟨rfl, rfl⟩
  go_wp2_with fail
  go_ret
  refine ⟨rfl, q, #[.cells #[.int .i64 i1, .int .i64 h1] 65, .cells #[.int .i64 i2, .int .i64 h2] 65, .cells #[.int .i64 c1, .int .i64 c2] 3], ?_⟩
  rw [HW2.out]
  simp only [alloc_eq_grow]
  rw [grow_grow]
  show grow (grow (W.drewN q) _) _ = _
  rw [grow_grow]
  rfl
end Go.Proofs.YtbmknmjcoeinkaaGreat.Mg

/- merge: the keys of things, the closures that sort and join refs and tokens, walked. (Layer 13.) -/
namespace Go.Proofs.YtbmknmjcoeinkaaGreat.Mg
set_option linter.unusedVariables false
open Go.RowKit Go.Sort Go.Lib
open Mk (Rf Tok Tb TbR aTb)
open Set (El)
/-- The worlds behind W that have drawn and have new blocks alone. -/
structure GrowOf (W : World) where
  w : World
  h : ∃ q os, w = grow (W.drewN q) os
theorem grow_more {W : World} {q q' : Nat} {os os' : Array Obj} : grow ((grow (W.drewN q) os).drewN q') os' = grow (W.drewN (q + q')) (os ++ os') := by
  unfold grow World.drewN
  simp only [Array.append_assoc, Nat.add_assoc]
theorem GrowOf.call {W : World} (x : GrowOf W) {f : FuncId} {args : Array Value} {v : Value} (h : Grows f args v) : Calls Tryz.prog f args x.w fun e w' => e = .returned v ∧ ∃ y : GrowOf W, w' = y.w := by
  refine (h x.w).mono ?_
  rintro e w' ⟨he, q, os, rfl⟩
  obtain ⟨q0, os0, hx⟩ := x.h
  exact ⟨he, ⟨_, q0 + q, os0 ++ os, rfl⟩, by rw [hx, grow_more]⟩
theorem GrowOf.cell {W : World} (x : GrowOf W) {g : Nat} {t : TypeId} {cs : Array Value} (h : BlkIs W g t cs) (i : Nat) : x.w.cell? ⟨g, i, none⟩ = cs[i]? := by
  obtain ⟨q, os, hx⟩ := x.h
  rw [hx]
  exact (BlkIs.below h (grows_below (W := W)) h.lt).cell i
theorem GrowOf.one (W : World) : ∃ X : GrowOf W, W.drewN 1 = X.w := ⟨⟨W.drewN 1, 1, #[], by unfold grow World.drewN; simp only [Array.append_empty]⟩, rfl⟩
theorem ofToken_any (x : Tok) : Grows 66 #[.agg #[.int .i64 x.node, .int .i64 x.n, .string x.id]] (.agg #[.int .i64 x.node, .int .i64 x.n]) := by
  intro W
  obtain ⟨a0, a1, a2⟩ := x
  dsimp only
  go_enter Tryz.func66, Tryz.ntmps66
  go_wp2_with fail
  refine bodyPost_ret (v := .agg #[.int .i64 a0, .int .i64 a1]) (by simp [results, Tryz.results66, go_sem]) rfl ⟨rfl, 0, #[.cells #[.int .i64 a0, .int .i64 a1, .string a2] 45, .cells #[.int .i64 a0, .int .i64 a1] 65], ?_⟩
  simp only [alloc_eq_grow]
  rw [grow_grow]
  rfl
theorem ofTomb_any (x : TbR) : Grows 35 #[.agg #[.int .i64 x.t.node, .int .i64 x.t.n, .string x.t.id, x.cv, x.av]] (.agg #[.int .i64 x.t.node, .int .i64 x.t.n]) := by
  intro W
  obtain ⟨⟨a0, a1, a2, a3, a4⟩, a5, a6⟩ := x
  dsimp only
  go_enter Tryz.func35, Tryz.ntmps35
  go_wp2_with fail
  refine bodyPost_ret (v := .agg #[.int .i64 a0, .int .i64 a1]) (by simp [results, Tryz.results35, go_sem]) rfl ⟨rfl, 0, #[.cells #[.int .i64 a0, .int .i64 a1, .string a2, a5, a6] 43, .cells #[.int .i64 a0, .int .i64 a1] 65], ?_⟩
  simp only [alloc_eq_grow]
  rw [grow_grow]
  rfl
theorem refs1_any (x : Rf) : Grows 61 #[.agg #[.string x.name, .string x.id, .int .i64 x.h]] (.string x.name) := by
  intro W
  obtain ⟨a0, a1, a2⟩ := x
  dsimp only
  go_enter Tryz.func61, Tryz.ntmps61
  go_wp2_with fail
  go_ret
  refine ⟨rfl, 0, #[.cells #[.string a0, .string a1, .int .i64 a2] 49], ?_⟩
  simp only [alloc_eq_grow]
  rfl
/-- How two names stand. -/
def cN (x y : Rf) : Int := compareBytes x.name.data.toList y.name.data.toList
theorem cN_neg (x y : Rf) : cN x y < 0 ↔ El.lt (kRf x) (kRf y) := cb_neg _ _
theorem refs2_any (x y : Rf) : Grows 62 #[.agg #[.string x.name, .string x.id, .int .i64 x.h], .agg #[.string y.name, .string y.id, .int .i64 y.h]] (.int .i64 (cN x y)) := by
  intro W
  have S2 := fun w => Tryz.strings_Compare x.name y.name w
  obtain ⟨c, hc⟩ : ∃ c, c = cN x y := ⟨_, rfl⟩
  rw [← hc]
  rw [show Lib.compareBytes x.name.data.toList y.name.data.toList = c from hc.symm] at S2
  have S2 := Lib.hid S2
  clear hc
  obtain ⟨a0, a1, a2⟩ := x
  obtain ⟨b0, b1, b2⟩ := y
  dsimp only at S2 ⊢
  go_enter Tryz.func62, Tryz.ntmps62
  go_wp2_with fail
  refine (S2.out _).mono ?_
  rintro e w' ⟨rfl, rfl⟩
  go_wp2_with fail
  go_ret
  refine ⟨rfl, 0, #[.cells #[.string a0, .string a1, .int .i64 a2] 49, .cells #[.string b0, .string b1, .int .i64 b2] 49], ?_⟩
  simp only [alloc_eq_grow]
  rw [grow_grow]
  rfl
def cT (x y : Tok) : Int := cK (kTok x) (kTok y)
theorem cT_neg (x y : Tok) : cT x y < 0 ↔ El.lt (kTok x) (kTok y) := cK_neg _ _
def cB (x y : TbR) : Int := cK (kTb x.t) (kTb y.t)
theorem cB_neg (x y : TbR) : cB x y < 0 ↔ El.lt (kTb x.t) (kTb y.t) := cK_neg _ _
theorem tokens1_any (x y : Tok) : Grows 67 #[.agg #[.int .i64 x.node, .int .i64 x.n, .string x.id], .agg #[.int .i64 y.node, .int .i64 y.n, .string y.id]] (.int .i64 (cT x y)) := by
  intro W
  have T1 := Lib.hid (ofToken_any x)
  have T2 := Lib.hid (ofToken_any y)
  have T3 := order_any (kTok x) (kTok y)
  obtain ⟨c, hc⟩ : ∃ c, c = cT x y := ⟨_, rfl⟩
  rw [← hc]
  rw [show cK (kTok x) (kTok y) = c from hc.symm] at T3
  have T3 := Lib.hid T3
  clear hc
  obtain ⟨a0, a1, a2⟩ := x
  obtain ⟨b0, b1, b2⟩ := y
  dsimp only [kTok] at T1 T2 T3 ⊢
  go_enter Tryz.func67, Tryz.ntmps67
  go_upto_region 1 with (fail)
  obtain ⟨W2, hW2⟩ : ∃ W2, W2 = (W.alloc (.cells #[.int .i64 a0, .int .i64 a1, .string a2] 45)).alloc (.cells #[.int .i64 b0, .int .i64 b1, .string b2] 45) := ⟨_, rfl⟩
  have k1 : BlkIs W2 W.heap.size 45 #[.int .i64 a0, .int .i64 a1, .string a2] := by rw [hW2]; exact (BlkIs.new _ _ _).alloc _
  have k2 : BlkIs W2 (W.heap.size + 1) 45 #[.int .i64 b0, .int .i64 b1, .string b2] := by rw [hW2]; exact BlkIs.new2 _ _ _ _
  rw [← hW2]
  have HW2 := Lib.hid hW2
  have e0 : ∀ X : GrowOf W2, X.w.cell? ⟨W.heap.size, 0, none⟩ = some (.int .i64 a0) := fun X => X.cell k1 0
  have e1 : ∀ X : GrowOf W2, X.w.cell? ⟨W.heap.size, 1, none⟩ = some (.int .i64 a1) := fun X => X.cell k1 1
  have e2 : ∀ X : GrowOf W2, X.w.cell? ⟨W.heap.size, 2, none⟩ = some (.string a2) := fun X => X.cell k1 2
  have f0 : ∀ X : GrowOf W2, X.w.cell? ⟨W.heap.size + 1, 0, none⟩ = some (.int .i64 b0) := fun X => X.cell k2 0
  have f1 : ∀ X : GrowOf W2, X.w.cell? ⟨W.heap.size + 1, 1, none⟩ = some (.int .i64 b1) := fun X => X.cell k2 1
  have f2 : ∀ X : GrowOf W2, X.w.cell? ⟨W.heap.size + 1, 2, none⟩ = some (.string b2) := fun X => X.cell k2 2
  clear hW2 k1 k2
  refine wp_region_all (fun w' => ∃ X : GrowOf W2, w' = X.w) (by kernel_rfl) (by kernel_rfl) (GrowOf.one W2) ?_
  repeat (go_big_quiet_step (first | with_reducible rfl | with_reducible exact GrowOf.call _ T1.out | with_reducible exact GrowOf.call _ T2.out | with_reducible exact GrowOf.call _ T3.out))
  refine wpQuiet_nil ?_
  intro w3 hw3
  obtain ⟨X, rfl⟩ := hw3
  obtain ⟨q, os, hX⟩ := X.h
  have HX := Lib.hid hX
  clear e0 e1 e2 f0 f1 f2 hX
  go_wp2_with fail
  go_ret
  refine ⟨rfl, q, #[.cells #[.int .i64 a0, .int .i64 a1, .string a2] 45, .cells #[.int .i64 b0, .int .i64 b1, .string b2] 45] ++ os, ?_⟩
  rw [HX.out, HW2.out]
  simp only [alloc_eq_grow]
  rw [grow_grow]
  show grow (grow (W.drewN q) _) _ = _
  rw [grow_grow]
  rfl
theorem tombs1_any (x y : TbR) : Grows 71 #[.agg #[.int .i64 x.t.node, .int .i64 x.t.n, .string x.t.id, x.cv, x.av], .agg #[.int .i64 y.t.node, .int .i64 y.t.n, .string y.t.id, y.cv, y.av]] (.int .i64 (cB x y)) := by
  intro W
  have T1 := Lib.hid (ofTomb_any x)
  have T2 := Lib.hid (ofTomb_any y)
  have T3 := order_any (kTb x.t) (kTb y.t)
  obtain ⟨c, hc⟩ : ∃ c, c = cB x y := ⟨_, rfl⟩
  rw [← hc]
  rw [show cK (kTb x.t) (kTb y.t) = c from hc.symm] at T3
  have T3 := Lib.hid T3
  clear hc
  obtain ⟨⟨a0, a1, a2, a3, a4⟩, a5, a6⟩ := x
  obtain ⟨⟨b0, b1, b2, b3, b4⟩, b5, b6⟩ := y
  dsimp only [kTb] at T1 T2 T3 ⊢
  go_enter Tryz.func71, Tryz.ntmps71
  go_upto_region 1 with (fail)
  obtain ⟨W2, hW2⟩ : ∃ W2, W2 = (W.alloc (.cells #[.int .i64 a0, .int .i64 a1, .string a2, a5, a6] 43)).alloc (.cells #[.int .i64 b0, .int .i64 b1, .string b2, b5, b6] 43) := ⟨_, rfl⟩
  have k1 : BlkIs W2 W.heap.size 43 #[.int .i64 a0, .int .i64 a1, .string a2, a5, a6] := by rw [hW2]; exact (BlkIs.new _ _ _).alloc _
  have k2 : BlkIs W2 (W.heap.size + 1) 43 #[.int .i64 b0, .int .i64 b1, .string b2, b5, b6] := by rw [hW2]; exact BlkIs.new2 _ _ _ _
  rw [← hW2]
  have HW2 := Lib.hid hW2
  have e0 : ∀ X : GrowOf W2, X.w.cell? ⟨W.heap.size, 0, none⟩ = some (.int .i64 a0) := fun X => X.cell k1 0
  have e1 : ∀ X : GrowOf W2, X.w.cell? ⟨W.heap.size, 1, none⟩ = some (.int .i64 a1) := fun X => X.cell k1 1
  have e2 : ∀ X : GrowOf W2, X.w.cell? ⟨W.heap.size, 2, none⟩ = some (.string a2) := fun X => X.cell k1 2
  have e3 : ∀ X : GrowOf W2, X.w.cell? ⟨W.heap.size, 3, none⟩ = some a5 := fun X => X.cell k1 3
  have e4 : ∀ X : GrowOf W2, X.w.cell? ⟨W.heap.size, 4, none⟩ = some a6 := fun X => X.cell k1 4
  have f0 : ∀ X : GrowOf W2, X.w.cell? ⟨W.heap.size + 1, 0, none⟩ = some (.int .i64 b0) := fun X => X.cell k2 0
  have f1 : ∀ X : GrowOf W2, X.w.cell? ⟨W.heap.size + 1, 1, none⟩ = some (.int .i64 b1) := fun X => X.cell k2 1
  have f2 : ∀ X : GrowOf W2, X.w.cell? ⟨W.heap.size + 1, 2, none⟩ = some (.string b2) := fun X => X.cell k2 2
  have f3 : ∀ X : GrowOf W2, X.w.cell? ⟨W.heap.size + 1, 3, none⟩ = some b5 := fun X => X.cell k2 3
  have f4 : ∀ X : GrowOf W2, X.w.cell? ⟨W.heap.size + 1, 4, none⟩ = some b6 := fun X => X.cell k2 4
  clear hW2 k1 k2
  refine wp_region_all (fun w' => ∃ X : GrowOf W2, w' = X.w) (by kernel_rfl) (by kernel_rfl) (GrowOf.one W2) ?_
  repeat (go_big_quiet_step (first | with_reducible rfl | with_reducible exact GrowOf.call _ T1.out | with_reducible exact GrowOf.call _ T2.out | with_reducible exact GrowOf.call _ T3.out))
  refine wpQuiet_nil ?_
  intro w3 hw3
  obtain ⟨X, rfl⟩ := hw3
  obtain ⟨q, os, hX⟩ := X.h
  have HX := Lib.hid hX
  clear e0 e1 e2 e3 e4 f0 f1 f2 f3 f4 hX
  go_wp2_with fail
  go_ret
  refine ⟨rfl, q, #[.cells #[.int .i64 a0, .int .i64 a1, .string a2, a5, a6] 43, .cells #[.int .i64 b0, .int .i64 b1, .string b2, b5, b6] 43] ++ os, ?_⟩
  rw [HX.out, HW2.out]
  simp only [alloc_eq_grow]
  rw [grow_grow]
  show grow (grow (W.drewN q) _) _ = _
  rw [grow_grow]
  rfl
end Go.Proofs.YtbmknmjcoeinkaaGreat.Mg

