/- octet.Num and octet.Text, walked: four bytes, the least first; a text with its length ahead. -/
import Derived.Test.YtbmknmjcoeinkaaGreatChecked
import Derived.Test.YtbmknmjcoeinkaaGreatSlice
import Derived.Test.YtbmknmjcoeinkaaGreatRegion
import Derived.BigQuiet
namespace Go.Proofs.YtbmknmjcoeinkaaGreat.Oct
open Go.RowKit
/-- Four bytes, the least first. -/
def le32 (n : Nat) : List UInt8 := [UInt8.ofNat n, UInt8.ofNat (n / 2 ^ 8), UInt8.ofNat (n / 2 ^ 16), UInt8.ofNat (n / 2 ^ 24)]
theorem le32_length (n : Nat) : (le32 n).length = 4 := rfl
def lecell (n : Nat) (k j : Nat) : Value := .int .u8 (if j < k then (n : Int) / 2 ^ (8 * j) % 256 else 0)
theorem lecells (n : Nat) : [lecell n 4 0, lecell n 4 1, lecell n 4 2, lecell n 4 3] = bcells (le32 n) := by
  have h0 := byte_cell n 0
  have h1 := byte_cell n 8
  have h2 := byte_cell n 16
  have h3 := byte_cell n 24
  have e : bcells (le32 n) = bcells [UInt8.ofNat (n / 2 ^ 0)] ++ (bcells [UInt8.ofNat (n / 2 ^ 8)] ++ (bcells [UInt8.ofNat (n / 2 ^ 16)] ++ bcells [UInt8.ofNat (n / 2 ^ 24)])) := by simp [bcells, le32]
  rw [e, ← h0, ← h1, ← h2, ← h3]
  rfl
/-- A text, its length ahead. -/
def txt (l : List UInt8) : List UInt8 := le32 (l.length % 4294967296) ++ l
/-- The world is as it was, but for block g and new blocks. -/
def Moved (g : Nat) (w w' : World) : Prop := w.grownBy w' (some g)
theorem Moved.refl (g : Nat) (w : World) : Moved g w w := ⟨rfl, rfl, rfl, Nat.le_refl _, fun _ _ _ => rfl⟩
theorem Moved.trans {g : Nat} {a b c : World} (h : Moved g a b) (k : Moved g b c) : Moved g a c :=
  ⟨k.os.trans h.os, k.tape.trans h.tape, k.output.trans h.output, Nat.le_trans h.size k.size, fun i hi hne => (k.block i (Nat.lt_of_lt_of_le hi h.size) hne).trans (h.block i hi hne)⟩
theorem Moved.setCell {g : Nat} {a w : World} (h : Moved g a w) {p : Addr} (hp : p.block = g) (u : Value) : Moved g a (w.setCell p u) :=
  h.trans ⟨rfl, rfl, rfl, by simp, fun k _ hne => Below.heap_setCell w p u k (fun e => hne (by rw [e, hp]))⟩
theorem Moved.grown {g : Nat} {a w w' : World} (h : Moved g a w) (hg : w.grownBy w' none) : Moved g a w' := h.trans ⟨hg.os, hg.tape, hg.output, hg.size, fun k hk _ => hg.block k hk (by simp)⟩
theorem Moved.of_below {g : Nat} {w w' : World} (h : Below w.heap.size w w') : Moved g w w' := ⟨h.os, h.tape, h.output, h.size, fun k hk _ => h.block k hk⟩
theorem Moved.below {g : Nat} {w w' : World} (h : Moved g w w') (hg : g ≤ w.heap.size) : Below g w w' :=
  ⟨h.os, h.tape, h.output, h.size, fun k hk => by
    have hk' : k < g := hk
    exact h.block k (Nat.lt_of_lt_of_le hk' hg) (by simp; omega)⟩
theorem Moved.alloc {g : Nat} {a w : World} (h : Moved g a w) (o : Obj) : Moved g a (w.alloc o) := h.trans (.of_below ((Below.refl _ _).alloc (Nat.le_refl _) _))
theorem Moved.blk {g b : Nat} {w w' : World} {t : TypeId} {cs : Array Value} (h : Moved g w w') (hb : BlkIs w b t cs) (hne : b ≠ g) : BlkIs w' b t cs := BlkIs.grown hb h (by simpa using hne)
theorem Moved.sl {g base n size : Nat} {w w' : World} {e : TypeId} {v : Value} {xs : List Value} (h : Moved g w w') (hs : SlIs w base e size v n xs) (hg : g < base) : SlIs w' base e size v n xs :=
  hs.kept h (by
    cases hv : v.ownBlock with
    | none => exact Or.inl rfl
    | some k => exact Or.inr (by have := (hs.lt k hv).1; simp; omega))
/-- What Take hands out, what is left, whether it is bad. -/
def takeR (r : ByteArray) (b : Bool) (n : Int) : ByteArray × ByteArray × Bool :=
  if b = false ∧ 0 ≤ n ∧ n ≤ (r.size : Int) then (r.extract 0 n.toNat, r.extract n.toNat r.size, false) else (⟨#[]⟩, ⟨#[]⟩, true)
/-- The number of bytes, the least first. -/
def val : List UInt8 → Nat
  | [] => 0
  | b :: l => b.toNat + 256 * val l
theorem takeR_cases (r : ByteArray) (b : Bool) : (takeR r b 4).1 = ⟨#[]⟩ ∨ ∃ x0 x1 x2 x3, (takeR r b 4).1 = ⟨#[x0, x1, x2, x3]⟩ := by
  unfold takeR
  split
  · next h =>
    right
    have hl : (r.extract 0 4).data.toList.length = 4 := by
      have : (r.extract 0 4).size = 4 := by rw [ByteArray.size_extract]; omega
      exact this
    match hm : (r.extract 0 4).data.toList, hl with
    | [x0, x1, x2, x3], _ =>
      refine ⟨x0, x1, x2, x3, ?_⟩
      apply ByteArray.ext
      apply Array.ext'
      exact hm
  · exact Or.inl rfl
theorem orb (a b k : Nat) (ha : a < 2 ^ k) (h : b * 2 ^ k < 4294967296) (hk : k ≤ 24) : bits BinOp.or IntKind.u32 (a : Int) ((b * 2 ^ k : Nat) : Int) = ((a + b * 2 ^ k : Nat) : Int) := by
  have h2 : 2 ^ k ≤ 2 ^ 24 := Nat.pow_le_pow_right (by decide) hk
  rw [u32_or_nat _ _ (by omega) h, Nat.or_comm, nat_join k _ _ (Nat.mul_mod_left _ _) ha, Nat.add_comm]
theorem num0 (x0 x1 x2 x3 : UInt8) (y : Int) (hy : y = (val ([x0, x1, x2, x3].take 0) : Nat)) : bits BinOp.or IntKind.u32 y ((x0.toNat : Int) % 4294967296) = (val ([x0, x1, x2, x3].take 1) : Nat) := by
  have h0 := x0.toNat_lt
  have h1 := x1.toNat_lt
  have h2 := x2.toNat_lt
  have h3 := x3.toNat_lt
  have e : ((x0.toNat : Int) % 4294967296) = ((x0.toNat * 2 ^ 0 : Nat) : Int) := by omega
  rw [hy, e, orb _ _ _ (by simp [val] <;> omega) (by omega) (by decide)]
  simp [val] <;> omega
theorem num1 (x0 x1 x2 x3 : UInt8) (y : Int) (hy : y = (val ([x0, x1, x2, x3].take 1) : Nat)) : bits BinOp.or IntKind.u32 y ((x1.toNat : Int) % 4294967296 * 256 % 4294967296) = (val ([x0, x1, x2, x3].take 2) : Nat) := by
  have h0 := x0.toNat_lt
  have h1 := x1.toNat_lt
  have h2 := x2.toNat_lt
  have h3 := x3.toNat_lt
  have e : ((x1.toNat : Int) % 4294967296 * 256 % 4294967296) = ((x1.toNat * 2 ^ 8 : Nat) : Int) := by omega
  rw [hy, e, orb _ _ _ (by simp [val] <;> omega) (by omega) (by decide)]
  simp [val] <;> omega
theorem num2 (x0 x1 x2 x3 : UInt8) (y : Int) (hy : y = (val ([x0, x1, x2, x3].take 2) : Nat)) : bits BinOp.or IntKind.u32 y ((x2.toNat : Int) % 4294967296 * 65536 % 4294967296) = (val ([x0, x1, x2, x3].take 3) : Nat) := by
  have h0 := x0.toNat_lt
  have h1 := x1.toNat_lt
  have h2 := x2.toNat_lt
  have h3 := x3.toNat_lt
  have e : ((x2.toNat : Int) % 4294967296 * 65536 % 4294967296) = ((x2.toNat * 2 ^ 16 : Nat) : Int) := by omega
  rw [hy, e, orb _ _ _ (by simp [val] <;> omega) (by omega) (by decide)]
  simp [val] <;> omega
theorem num3 (x0 x1 x2 x3 : UInt8) (y : Int) (hy : y = (val ([x0, x1, x2, x3].take 3) : Nat)) : bits BinOp.or IntKind.u32 y ((x3.toNat : Int) % 4294967296 * 16777216 % 4294967296) = (val ([x0, x1, x2, x3].take 4) : Nat) := by
  have h0 := x0.toNat_lt
  have h1 := x1.toNat_lt
  have h2 := x2.toNat_lt
  have h3 := x3.toNat_lt
  have e : ((x3.toNat : Int) % 4294967296 * 16777216 % 4294967296) = ((x3.toNat * 2 ^ 24 : Nat) : Int) := by omega
  rw [hy, e, orb _ _ _ (by simp [val] <;> omega) (by omega) (by decide)]
  simp [val] <;> omega
theorem val_takeR (r : ByteArray) (b : Bool) : val (takeR r b 4).1.data.toList < 4294967296 := by
  rcases takeR_cases r b with h | ⟨x0, x1, x2, x3, h⟩
  · rw [h]; decide
  · rw [h]
    have h0 := x0.toNat_lt
    have h1 := x1.toNat_lt
    have h2 := x2.toNat_lt
    have h3 := x3.toNat_lt
    simp [val]
    omega
/-- What Text hands out. -/
def textR (r : ByteArray) (b : Bool) (most : Int) : ByteArray × ByteArray × Bool :=
  if most < (val (takeR r b 4).1.data.toList : Int) then (⟨#[]⟩, ⟨#[]⟩, true) else takeR (takeR r b 4).2.1 (takeR r b 4).2.2 (val (takeR r b 4).1.data.toList)
end Go.Proofs.YtbmknmjcoeinkaaGreat.Oct
