/- The check of layer 4, plain: a bit's step, and four of them by a table of sixteen. No conditions, no program's code. -/
import Derived.Lib.Hide
namespace Go.Proofs.Ytabgpleiobpeoaa.Crc
/-- One bit of the check. -/
def step (c : Nat) : Nat := if c % 2 = 1 then (c / 2) ^^^ 2197175160 else c / 2
theorem step_xor (a b : Nat) : step (a ^^^ b) = step a ^^^ step b := by
  unfold step
  rw [Nat.xor_div_two]
  have h : (a ^^^ b) % 2 = (a % 2) ^^^ (b % 2) := Nat.xor_mod_two_pow (n := 1)
  rcases Nat.mod_two_eq_zero_or_one a with ha | ha <;> rcases Nat.mod_two_eq_zero_or_one b with hb | hb <;> rw [h, ha, hb] <;> simp
  · rw [Nat.xor_assoc]
  · rw [Nat.xor_assoc, Nat.xor_comm (b / 2), Nat.xor_assoc]
  · rw [Nat.xor_assoc, ← Nat.xor_assoc 2197175160, Nat.xor_comm 2197175160, Nat.xor_assoc, Nat.xor_self, Nat.xor_zero]
theorem step_even (m : Nat) : step (2 * m) = m := by
  unfold step
  rw [if_neg (by omega)]
  omega
def step4 (c : Nat) : Nat := step (step (step (step c)))
theorem step4_xor (a b : Nat) : step4 (a ^^^ b) = step4 a ^^^ step4 b := by unfold step4; simp only [step_xor]
theorem step4_16 (q : Nat) : step4 (16 * q) = q := by
  unfold step4
  rw [show 16 * q = 2 * (2 * (2 * (2 * q))) by omega, step_even, step_even, step_even, step_even]
theorem split16 (c : Nat) : c = (16 * (c / 16)) ^^^ (c % 16) := by
  apply Nat.eq_of_testBit_eq
  intro i
  rw [Nat.testBit_xor, show 16 * (c / 16) = 2 ^ 4 * (c / 2 ^ 4) from rfl, Nat.testBit_two_pow_mul, show c % 16 = c % 2 ^ 4 from rfl, Nat.testBit_mod_two_pow, Nat.testBit_div_two_pow]
  by_cases h : i < 4
  · have : ¬ 4 ≤ i := by omega
    simp [h, this]
  · have : 4 ≤ i := by omega
    simp [h, this]
theorem step4_nib (c : Nat) : step4 c = (c / 16) ^^^ step4 (c % 16) := by
  conv => lhs; rw [split16 c, step4_xor, step4_16]
theorem step_lt {c : Nat} (h : c < 4294967296) : step c < 4294967296 := by
  unfold step
  split
  · exact Nat.xor_lt_two_pow (n := 32) (by omega) (by decide)
  · omega
theorem step4_lt {c : Nat} (h : c < 4294967296) : step4 c < 4294967296 := step_lt (step_lt (step_lt (step_lt h)))
end Go.Proofs.Ytabgpleiobpeoaa.Crc
