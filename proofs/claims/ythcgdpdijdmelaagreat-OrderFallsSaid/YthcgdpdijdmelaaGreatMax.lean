/- Heights: slices.Max of ints, object.Height and the reference's. No conditions but the slice of ints as it came in. -/
import Derived.Test.YthcgdpdijdmelaaGreatSlice
import Derived.Test.YthcgdpdijdmelaaGreatInts
import Derived.Test.YthcgdpdijdmelaaGreatProg
import Derived.Lib.Hide
namespace Go.Proofs.YthcgdpdijdmelaaGreat.Obj
set_option linter.unusedVariables false
open Go.RowKit
/-- The greatest of the first k + 1 numbers of a row. -/
def most (f : Nat → Int) : Nat → Int
  | 0 => f 0
  | k + 1 => if most f k < f (k + 1) then f (k + 1) else most f k
theorem most_wf (f : Nat → Int) (n : Nat) (h : ∀ i, i < n → -9223372036854775808 ≤ f i ∧ f i ≤ 9223372036854775807) : ∀ k, k < n → -9223372036854775808 ≤ most f k ∧ most f k ≤ 9223372036854775807
  | 0, hk => h 0 hk
  | k + 1, hk => by
    have := most_wf f n h k (by omega)
    have := h (k + 1) hk
    unfold most
    split <;> omega
theorem most_one (f : Nat → Int) : ∀ k, ∃ i, i ≤ k ∧ most f k = f i
  | 0 => ⟨0, Nat.le_refl _, rfl⟩
  | k + 1 => by
    obtain ⟨i, hi, h⟩ := most_one f k
    unfold most
    split
    · exact ⟨k + 1, Nat.le_refl _, rfl⟩
    · exact ⟨i, by omega, h⟩
theorem most_le (f : Nat → Int) : ∀ k i, i ≤ k → f i ≤ most f k
  | 0, i, hi => by obtain rfl : i = 0 := by omega
                   exact Int.le_refl _
  | k + 1, i, hi => by
    unfold most
    rcases Nat.lt_or_ge k i with h | h
    · obtain rfl : i = k + 1 := by omega
      split <;> omega
    · have := most_le f k i h
      split <;> omega
/-- The numbers of a slice, and where they lie. -/
def IntsAt (w : World) (ao : Option Addr) (n : Nat) (f : Nat → Int) : Prop :=
  (n : Int) ≤ 9223372036854775807 ∧ (0 < n → ∃ b off, ao = some ⟨b, off, none⟩ ∧ b < w.heap.size ∧ ∀ i, i < n → w.cell? ⟨b, off + i, none⟩ = some (.int .i64 (f i)))
theorem IntsAt.later {w w' : World} {ao : Option Addr} {n : Nat} {f : Nat → Int} (h : IntsAt w ao n f) (hb : Below w.heap.size w w') : IntsAt w' ao n f := by
  refine ⟨h.1, fun hn => ?_⟩
  obtain ⟨b, off, ha, hlt, hc⟩ := h.2 hn
  exact ⟨b, off, ha, Nat.lt_of_lt_of_le hlt hb.size, fun i hi => by rw [hb.cell hlt, hc i hi]⟩
def icells (f : Nat → Int) (n : Nat) : List Value := (List.range n).map fun i => .int .i64 (f i)
theorem icells_snoc (f : Nat → Int) (n : Nat) : icells f n ++ [.int .i64 (f n)] = icells f (n + 1) := by
  simp [icells, List.range_succ]
theorem IntsAt.own {w : World} {base : Nat} {e : TypeId} {v : Value} {n : Nat} {f : Nat → Int} (h : SlIs w base e 1 v n (icells f n)) : ∃ ao cap, v = .slice ao n cap ∧ IntsAt w ao n f := by
  obtain ⟨ao, cap, hv, h1, h2, h3⟩ := h.form
  refine ⟨ao, cap, hv, by unfold maxLen at h2; omega, fun hn => ?_⟩
  obtain ⟨g, off, cap', hv', hg, hlt, hc, hm, hcell, _⟩ := h.at_ hn
  rw [hv] at hv'
  injection hv' with e1 e2 e3
  refine ⟨g, off, e1, hlt, fun i hi => ?_⟩
  have hi' : i < (icells f n).length := by rw [h.1]; omega
  rw [hcell i hi']
  simp [icells, hi]
theorem max_int (ao : Option Addr) (n cap : Nat) (f : Nat → Int) (w : World) (h : IntsAt w ao n f) (hn : 0 < n) :
    Calls Tryz.prog 39 #[.slice ao n cap] w fun e w' => e = .returned (.int .i64 (most f (n - 1))) ∧ w = w' := by
  obtain ⟨hm, hc⟩ := h
  obtain ⟨b, off, rfl, hb, hcell⟩ := hc hn
  have Hc := Lib.hid hcell
  have c0 : w.cell? ⟨b, off, none⟩ = some (.int .i64 (f 0)) := hcell 0 hn
  have n1 : (1 : Int) ≤ n := by omega
  clear hcell hc
  go_enter Tryz.func39, Tryz.ntmps39
  go_wp2_with fail
  clear c0
  go_loopw [3, 4] (fun m i wr => ∃ k : Nat, i = .int .i64 ((k : Int) + 1) ∧ m = .int .i64 (most f k) ∧ k < n ∧ wr = w) (fun _ i _ => ((n : Int) - intOf i).toNat)
  case atStart => exact ⟨0, rfl, rfl, hn, rfl⟩
  case round =>
    obtain ⟨k, rfl, rfl, hk, rfl⟩ := hrel
    rcases Nat.lt_or_ge (k + 1) n with hk1 | hk1
    · have ck : wr.cell? ⟨b, off + (k + 1), none⟩ = some (.int .i64 (f (k + 1))) := Hc.out (k + 1) hk1
      have ki : (k : Int) + 1 < n := by omega
      go_wp2_with fail
      refine ⟨⟨k + 1, rfl, rfl, hk1, trivial⟩, ?_⟩
      simp [intOf]
      omega
    · have ki : (n : Int) ≤ (k : Int) + 1 := by omega
      go_wp2_with fail
      go_ret
      exact ⟨by rw [show n - 1 = k by omega]; rfl, rfl⟩
theorem height (ao : Option Addr) (n cap : Nat) (f : Nat → Int) (w : World) (h : IntsAt w ao n f) :
    Calls Tryz.prog 19 #[.slice ao n cap] w fun e w' => e = .returned (.int .i64 (if n = 0 then 0 else wrap64 (most f (n - 1) + 1))) ∧ w = w' := by
  rcases Nat.eq_zero_or_pos n with rfl | hn
  · go_enter Tryz.func19, Tryz.ntmps19
    go_wp2_with fail
    go_ret
    exact ⟨rfl, rfl⟩
  · have hM := max_int ao n cap f w h hn
    have n1 : (1 : Int) ≤ n := by omega
    rw [if_neg (by omega)]
    generalize most f (n - 1) = M at *
    go_enter Tryz.func19, Tryz.ntmps19
    go_wp2_with fail
    refine hM.mono ?_
    rintro e w1 ⟨rfl, rfl⟩
    go_wp2_with fail
    go_ret
    exact ⟨rfl, rfl⟩
end Go.Proofs.YthcgdpdijdmelaaGreat.Obj
