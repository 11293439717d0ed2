/- Links in rising order: the closure that compares two, walked; slices.SortFunc at links by the shelf's contract. Conditions: the row lies in a block of the call's own. -/
import Derived.Test.YtmdchfmcghiaeaaLinkRow
import Derived.Test.YtmdchfmcghiaeaaSort
namespace Go.Proofs.Ytmdchfmcghiaeaa.Obj
open Go.RowKit Go.Sort Go.Lib
open Oct (Moved)
theorem cb_neg : ∀ (a b : List UInt8), compareBytes a b < 0 ↔ a < b
  | [], [] => by simp [compareBytes]
  | [], _ :: _ => by simp [compareBytes]
  | _ :: _, [] => by simp [compareBytes]
  | a :: x, b :: y => by
    unfold compareBytes
    rw [List.cons_lt_cons_iff]
    by_cases h1 : a < b
    · simp [h1]
    · by_cases h2 : b < a
      · have : a ≠ b := fun h => by subst h; exact h1 h2
        simp [h1, h2, this]
      · have : a = b := by
          apply UInt8.toNat_inj.1
          have e1 : ¬ a.toNat < b.toNat := h1
          have e2 : ¬ b.toNat < a.toNat := h2
          omega
        simp [cb_neg x y, this]
theorem cb_zero : ∀ (a b : List UInt8), compareBytes a b = 0 ↔ a = b
  | [], [] => by simp [compareBytes]
  | [], _ :: _ => by simp [compareBytes]
  | _ :: _, [] => by simp [compareBytes]
  | a :: x, b :: y => by
    unfold compareBytes
    rw [List.cons.injEq]
    by_cases h1 : a < b
    · have : a ≠ b := fun h => by subst h; exact absurd h1 (by simp)
      simp [h1, this]
    · by_cases h2 : b < a
      · have : a ≠ b := fun h => by subst h; exact h1 h2
        simp [h1, h2, this]
      · have : a = b := by
          apply UInt8.toNat_inj.1
          have e1 : ¬ a.toNat < b.toNat := h1
          have e2 : ¬ b.toNat < a.toNat := h2
          omega
        simp [cb_zero x y, this]
/-- How two links stand, as the closure answers. -/
def cfL (x y : Lk) : Int := if compareBytes x.2.data.toList y.2.data.toList = 0 then compareInt x.1 y.1 else compareBytes x.2.data.toList y.2.data.toList
theorem data_inj {a b : ByteArray} (h : a.data.toList = b.data.toList) : a = b := by
  apply ByteArray.ext
  apply Array.ext'
  exact h
theorem ltL_iff (x y : Lk) : ltOf cfL x y = true ↔ (x.2.data.toList < y.2.data.toList ∨ (x.2 = y.2 ∧ x.1 < y.1)) := by
  unfold ltOf cfL
  rw [decide_eq_true_iff]
  by_cases h : compareBytes x.2.data.toList y.2.data.toList = 0
  · rw [if_pos h]
    have h1 := (cb_zero _ _).1 h
    have h2 := data_inj h1
    rw [h2]
    unfold compareInt
    constructor
    · intro h3
      right
      refine ⟨rfl, ?_⟩
      split at h3
      · assumption
      · split at h3 <;> simp at h3
    · rintro (h3 | ⟨_, h3⟩)
      · exact absurd h3 (List.lt_irrefl _)
      · rw [if_pos h3]; decide
  · rw [if_neg h, cb_neg]
    constructor
    · exact Or.inl
    · rintro (h3 | ⟨h3, _⟩)
      · exact h3
      · exact absurd ((cb_zero _ _).2 (by rw [h3])) h
theorem ltL_false (x y : Lk) : ltOf cfL x y = false ↔ (¬ x.2.data.toList < y.2.data.toList ∧ (x.2 = y.2 → ¬ x.1 < y.1)) := by
  have h := ltL_iff x y
  rw [← Bool.not_eq_true, h]
  constructor
  · intro h
    exact ⟨fun h1 => h (Or.inl h1), fun h1 h2 => h (Or.inr ⟨h1, h2⟩)⟩
  · rintro ⟨h1, h2⟩ (h3 | ⟨h3, h4⟩)
    · exact h1 h3
    · exact h2 h3 h4
theorem swoL : SWO (ltOf cfL) where
  irrefl x := by rw [ltL_false]; exact ⟨List.lt_irrefl _, fun _ => by omega⟩
  trans x y z h1 h2 := by
    rw [ltL_iff] at *
    rcases h1 with h1 | ⟨e1, h1⟩
    · rcases h2 with h2 | ⟨e2, h2⟩
      · exact Or.inl (List.lt_trans h1 h2)
      · exact Or.inl (by rw [← e2]; exact h1)
    · rcases h2 with h2 | ⟨e2, h2⟩
      · exact Or.inl (by rw [e1]; exact h2)
      · exact Or.inr ⟨e1.trans e2, by omega⟩
  ntrans x y z h1 h2 := by
    rw [ltL_false] at *
    obtain ⟨a1, a2⟩ := h1
    obtain ⟨b1, b2⟩ := h2
    have c1 : y.2.data.toList ≤ x.2.data.toList := List.not_lt.1 a1
    have c2 : z.2.data.toList ≤ y.2.data.toList := List.not_lt.1 b1
    refine ⟨List.not_lt.2 (List.le_trans c2 c1), fun e => ?_⟩
    have e1 : x.2 = y.2 := data_inj (List.le_antisymm (by rw [e]; exact c2) c1)
    have e2 : y.2 = z.2 := e1.symm.trans e
    have := a2 e1
    have := b2 e2
    omega
theorem totL (x y : Lk) (h1 : ltOf cfL x y = false) (h2 : ltOf cfL y x = false) : x = y := by
  rw [ltL_false] at *
  obtain ⟨a1, a2⟩ := h1
  obtain ⟨b1, b2⟩ := h2
  have e : x.2 = y.2 := data_inj (List.le_antisymm (List.not_lt.1 b1) (List.not_lt.1 a1))
  have := a2 e
  have := b2 e.symm
  exact Prod.ext (by omega) e
theorem or_two (b off : Nat) (x y : Int) (w : World) (hx : w.cell? ⟨b, off, none⟩ = some (.int .i64 x)) (hy : w.cell? ⟨b, off + 1, none⟩ = some (.int .i64 y)) :
    Calls Try.prog 68 #[.slice (some ⟨b, off, none⟩) 2 2] w fun e w' => e = .returned (.int .i64 (if x = 0 then y else x)) ∧ w = w' := by
  obtain ⟨r, hr⟩ : ∃ r : Int, r = (if x = 0 then y else x) := ⟨_, rfl⟩
  rw [← hr]
  have HR := Lib.hid hr
  clear hr
  go_enter Try.func68, Try.ntmps68
  go_wp2_with fail
  go_loopw [5, 8] (fun s5 s8 wr => ∃ j : Nat, s8 = .int .i64 (j : Int) ∧ j ≤ 2 ∧ Hid (0 < j → x = 0) ∧ Hid (1 < j → y = 0) ∧ wr = w) (fun _ i _ => ((2 : Int) - intOf i).toNat)
  case atStart => exact ⟨0, rfl, by omega, Lib.hid (fun h => absurd h (by omega)), Lib.hid (fun h => absurd h (by omega)), rfl⟩
  case round =>
    obtain ⟨j, rfl, hj, h1, h2, rfl⟩ := hrel
    rcases Nat.lt_or_ge j 1 with hj0 | hj0
    · obtain rfl : j = 0 := by omega
      by_cases h : x = 0
      · subst h
        go_wp2_with fail
        refine ⟨⟨1, rfl, by omega, Lib.hid (fun _ => by trivial), Lib.hid (fun h => absurd h (by omega)), trivial⟩, ?_⟩
        decide
      · have z : (x == 0) = false := by simpa using h
        have HH := Lib.hid h
        clear h
        go_wp2_with fail
        go_ret
        exact ⟨by rw [HR.out, if_neg HH.out]; rfl, rfl⟩
    rcases Nat.lt_or_ge j 2 with hj1 | hj1
    · obtain rfl : j = 1 := by omega
      by_cases h : y = 0
      · subst h
        go_wp2_with fail
        refine ⟨⟨2, rfl, by omega, Lib.hid (fun _ => h1.out (by omega)), Lib.hid (fun _ => by trivial), trivial⟩, ?_⟩
        decide
      · have z : (y == 0) = false := by simpa using h
        have HH := Lib.hid h
        clear h
        go_wp2_with fail
        go_ret
        exact ⟨by rw [HR.out, if_pos (h1.out (by omega))]; rfl, rfl⟩
    · obtain rfl : j = 2 := by omega
      go_wp2_with fail
      go_ret
      exact ⟨by rw [HR.out, if_pos (h1.out (by omega)), h2.out (by omega)]; rfl, rfl⟩
/-- The closure, in whatever world: draws and new blocks. -/
theorem closureL (x y : Lk) (W : World) : Calls Try.prog 67 #[.agg #[.int .i64 x.1, .string x.2], .agg #[.int .i64 y.1, .string y.2]] W fun e w' => e = .returned (.int .i64 (cfL x y)) ∧ ∃ q os', w' = grow (W.drewN q) os' := by
  obtain ⟨c1, hc1⟩ : ∃ c, c = compareBytes x.2.data.toList y.2.data.toList := ⟨_, rfl⟩
  obtain ⟨c2, hc2⟩ : ∃ c, c = compareInt x.1 y.1 := ⟨_, rfl⟩
  have hcf : cfL x y = (if c1 = 0 then c2 else c1) := by unfold cfL; rw [hc1, hc2]
  have S1 := fun w => Try.strings_Compare x.2 y.2 w
  have S2 := fun w => Try.cmp_Compare_int x.1 y.1 w
  rw [← hc1] at S1
  rw [← hc2] at S2
  have S3 := fun b off w h1 h2 => or_two b off c1 c2 w h1 h2
  rw [hcf]
  generalize (if c1 = 0 then c2 else c1) = r at *
  have S1 := Lib.hid S1
  have S2 := Lib.hid S2
  have S3 := Lib.hid S3
  obtain ⟨x1, x2⟩ := x
  obtain ⟨y1, y2⟩ := y
  clear hcf hc1 hc2
  go_enter Try.func67, Try.ntmps67
  go_upto_region 1 with (fail)
  obtain ⟨W2, hW2⟩ : ∃ W2, W2 = (W.alloc (.cells #[.int .i64 x1, .string x2] 53)).alloc (.cells #[.int .i64 y1, .string y2] 53) := ⟨_, rfl⟩
  have k1 : BlkIs W2 W.heap.size 53 #[.int .i64 x1, .string x2] := by rw [hW2]; exact (BlkIs.new _ _ _).alloc _
  have k2 : BlkIs W2 (W.heap.size + 1) 53 #[.int .i64 y1, .string y2] := by rw [hW2]; exact BlkIs.new2 _ _ _ _
  rw [← hW2]
  have HW2 := Lib.hid hW2
  have e0 : ∀ q : Nat, (W2.drewN q).cell? ⟨W.heap.size, 0, none⟩ = some (.int .i64 x1) := fun q => k1.cell 0
  have e1 : ∀ q : Nat, (W2.drewN q).cell? ⟨W.heap.size, 1, none⟩ = some (.string x2) := fun q => k1.cell 1
  have e2 : ∀ q : Nat, (W2.drewN q).cell? ⟨W.heap.size + 1, 0, none⟩ = some (.int .i64 y1) := fun q => k2.cell 0
  have e3 : ∀ q : Nat, (W2.drewN q).cell? ⟨W.heap.size + 1, 1, none⟩ = some (.string y2) := fun q => k2.cell 1
  clear hW2 k1 k2
  refine wp_region_heads (fun w' => ∃ q : Nat, w' = W2.drewN q) 10 (by kernel_rfl) (by kernel_rfl) ⟨1, rfl⟩ ?_
  simp only [List.take_succ_cons, List.take_zero, List.drop_succ_cons, List.drop_zero]
  repeat (go_big_quiet_step (first | exact (S1.out _).mono (fun _ _ h => ⟨h.1, _, h.2⟩) | exact (S2.out _).mono (fun _ _ h => ⟨h.1, _, h.2⟩)))
  refine wpQuiet_nil ?_
  intro w3 hw3
  obtain ⟨q, rfl⟩ := hw3
  clear e0 e1 e2 e3
  have k3 := BlkIs.new (W2.drewN q) 3 #[.int .i64 c1, .int .i64 c2]
  have p0 : ((W2.drewN q).alloc (.cells #[.int .i64 c1, .int .i64 c2] 3)).cell? ⟨(W2.drewN q).heap.size, 0, none⟩ = some (.int .i64 c1) := k3.cell 0
  have p1 : ((W2.drewN q).alloc (.cells #[.int .i64 c1, .int .i64 c2] 3)).cell? ⟨(W2.drewN q).heap.size, 0 + 1, none⟩ = some (.int .i64 c2) := k3.cell 1
  have P := Lib.hid (And.intro p0 p1)
  clear k3 p0 p1
  go_wp2_with fail
  refine (S3.out _ _ _ P.out.1 P.out.2).mono ?_
  rintro e w4 ⟨rfl, rfl⟩
  go_wp2_with fail
  go_ret
  refine ⟨rfl, q, #[.cells #[.int .i64 x1, .string x2] 53, .cells #[.int .i64 y1, .string y2] 53, .cells #[.int .i64 c1, .int .i64 c2] 3], ?_⟩
  rw [HW2.out]
  simp only [alloc_eq_grow]
  rw [grow_grow]
  show grow (grow (W.drewN q) _) _ = _
  rw [grow_grow]
  rfl
theorem cmpL_lays (blk off size : Nat) (w : World) : CmpLays Try.prog 67 #[] encL 2 cfL blk off size w :=
  fun _ _ _ _ x y => closureL x y _
/-- slices.SortFunc at links: the row holds them in rising order. -/
theorem sort_link (blk off cap : Nat) (d : Array Lk) (w : World) (hH : HoldsK encL 2 w blk off d) (hblk : blk < w.heap.size) (hsz : d.size < 4611686018427387904) :
    Calls Try.prog 66 #[.slice (some ⟨blk, off, none⟩) d.size cap, .func (.func 67) #[] #[]] w fun e w' =>
      e = .returned (.tuple #[]) ∧ ∃ n os, w' = sortWorldK encL 2 w blk off n (d.toList.mergeSort fun x y => !(ltOf cfL) y x).toArray os := by
  have eg : ∀ args w, (callFunc 67 args).run Try.prog w = .ok (.enter 67 args) w := enters_of Try.func67 (by kernel_rfl) rfl
  exact AnyQ.slices_SortFunc_total Try.sortLink 2 Try.isAgg53 Try.sizeOf53 encL encL_length (fun x v hv => by simp [encL] at hv; rcases hv with rfl | rfl <;> rfl) cfL swoL 67 #[] blk off cap d w eg (cmpL_lays blk off d.size w) hH hblk hsz totL
theorem sort_none (a : Option Addr) (cap : Nat) (w : World) :
    Calls Try.prog 66 #[.slice a 0 cap, .func (.func 67) #[] #[]] w fun e w' => e = .returned (.tuple #[]) ∧ w' = w := by
  exact AnyF.slices_SortFunc_none Try.sortLink a cap _ w
end Go.Proofs.Ytmdchfmcghiaeaa.Obj
