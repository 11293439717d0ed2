/- SHA-256 in plain numbers: what both texts compute. No program is named here. -/
import Derived.Test.YtjkhmjklmclpoaaGreatBase
namespace Go.Proofs.YtjkhmjklmclpoaaGreat.Sha
open Go.RowKit

def rotl (x : Int) (n : Nat) : Int := bits BinOp.or IntKind.u32 (x * 2 ^ n % 4294967296) (x / 2 ^ (32 - n))
def xor2 (a b : Int) : Int := bits BinOp.xor IntKind.u32 a b
def and2 (a b : Int) : Int := bits BinOp.and IntKind.u32 a b
def add2 (a b : Int) : Int := IntKind.u32.wrap (a + b)
def not2 (a : Int) : Int := bits BinOp.xor IntKind.u32 (if IntKind.u32.signed = true then -1 else IntKind.u32.max) a
def isW (x : Int) : Prop := 0 ≤ x ∧ x < 4294967296
def turned (x : Int) (a b c : Nat) : Int := xor2 (xor2 (rotl x (32 - a)) (rotl x (32 - b))) (rotl x (32 - c))
def s0 (x : Int) : Int := xor2 (xor2 (rotl x 25) (rotl x 14)) (x / 8)
def s1 (y : Int) : Int := xor2 (xor2 (rotl y 15) (rotl y 13)) (y / 1024)
/-- The number of the first bytes, the highest first. -/
def be (l : List Int) : Int := l.foldl (fun v c => v * 256 + c) 0
def word (bs : List Int) (i : Nat) : Int := be ((bs.drop (4 * i)).take 4)
def first16 (bs : List Int) : List Int := (List.range 16).map (word bs)
def nextW (l : List Int) : Int := (l.getD (l.length - 16) 0 + s0 (l.getD (l.length - 15) 0) + l.getD (l.length - 7) 0 + s1 (l.getD (l.length - 2) 0)) % 4294967296
def sched : Nat → List Int → List Int
  | 0, l => l
  | k + 1, l => sched k l ++ [nextW (sched k l)]
def words (bs : List Int) : List Int := sched 48 (first16 bs)

def kTable : List Int := [1116352408, 1899447441, 3049323471, 3921009573, 961987163, 1508970993, 2453635748, 2870763221, 3624381080, 310598401, 607225278, 1426881987, 1925078388, 2162078206, 2614888103, 3248222580, 3835390401, 4022224774, 264347078, 604807628, 770255983, 1249150122, 1555081692, 1996064986, 2554220882, 2821834349, 2952996808, 3210313671, 3336571891, 3584528711, 113926993, 338241895, 666307205, 773529912, 1294757372, 1396182291, 1695183700, 1986661051, 2177026350, 2456956037, 2730485921, 2820302411, 3259730800, 3345764771, 3516065817, 3600352804, 4094571909, 275423344, 430227734, 506948616, 659060556, 883997877, 958139571, 1322822218, 1537002063, 1747873779, 1955562222, 2024104815, 2227730452, 2361852424, 2428436474, 2756734187, 3204031479, 3329325298]
def h0 : List Int := [1779033703, 3144134277, 1013904242, 2773480762, 1359893119, 2600822924, 528734635, 1541459225]
def ch (e f g : Int) : Int := xor2 (and2 e f) (and2 (not2 e) g)
def maj (a b c : Int) : Int := xor2 (xor2 (and2 a b) (and2 a c)) (and2 b c)
structure St where
  a : Int
  b : Int
  c : Int
  d : Int
  e : Int
  f : Int
  g : Int
  h : Int
def St.isW (s : St) : Prop := Sha.isW s.a ∧ Sha.isW s.b ∧ Sha.isW s.c ∧ Sha.isW s.d ∧ Sha.isW s.e ∧ Sha.isW s.f ∧ Sha.isW s.g ∧ Sha.isW s.h
def St.cells (s : St) : List Int := [s.a, s.b, s.c, s.d, s.e, s.f, s.g, s.h]
def rp (s : St) (k w : Int) : Int := (s.h + turned s.e 6 11 25 + ch s.e s.f s.g + k + w) % 4294967296
def rq (s : St) : Int := (turned s.a 2 13 22 + maj s.a s.b s.c) % 4294967296
def round (s : St) (k w : Int) : St := ⟨(rp s k w + rq s) % 4294967296, s.a, s.b, s.c, (s.d + rp s k w) % 4294967296, s.e, s.f, s.g⟩
def rounds (ws : List Int) : Nat → St → St
  | 0, s => s
  | t + 1, s => round (rounds ws t s) (kTable.getD t 0) (ws.getD t 0)
def plus (x y : Int) : Int := (x + y) % 4294967296
def join (s t : St) : St := ⟨plus s.a t.a, plus s.b t.b, plus s.c t.c, plus s.d t.d, plus s.e t.e, plus s.f t.f, plus s.g t.g, plus s.h t.h⟩
/-- The state behind one block more. -/
def mix (s : St) (bs : List Int) : St := join s (rounds (words bs) 64 s)

theorem sched_length (k : Nat) (l : List Int) : (sched k l).length = l.length + k := by
  induction k with
  | zero => rfl
  | succ k ih => simp [sched, ih]; omega
theorem first16_length (bs : List Int) : (first16 bs).length = 16 := by simp [first16]
theorem words_length (bs : List Int) : (words bs).length = 64 := by simp [words, sched_length, first16_length]

theorem wrap_isW (n : Int) : isW (IntKind.u32.wrap n) := by
  rw [IntKind.wrap_u32']; unfold isW; omega
theorem bits_isW (op : BinOp) (a b : Int) : isW (bits op .u32 a b) := by
  unfold bits
  split <;> first | exact wrap_isW _ | exact ⟨by decide, by decide⟩
theorem rotl_isW (x : Int) (n : Nat) : isW (rotl x n) := bits_isW _ _ _
theorem xor_isW (x y : Int) : isW (xor2 x y) := bits_isW _ _ _
theorem and_isW (x y : Int) : isW (and2 x y) := bits_isW _ _ _
theorem add_isW (x y : Int) : isW (add2 x y) := wrap_isW _
theorem turned_isW (x : Int) (a b c : Nat) : isW (turned x a b c) := xor_isW _ _

def isB (x : Int) : Prop := 0 ≤ x ∧ x < 256
theorem be_snoc (l : List Int) (c : Int) : be (l ++ [c]) = be l * 256 + c := by simp [be]
theorem be_acc (l : List Int) : ∀ a : Int, 0 ≤ a → (∀ c ∈ l, isB c) → 0 ≤ l.foldl (fun v c => v * 256 + c) a ∧ l.foldl (fun v c => v * 256 + c) a < (a + 1) * 256 ^ l.length := by
  induction l with
  | nil => intro a h _; simp; omega
  | cons c l ih =>
    intro a h hc
    have h2 := hc c (by simp)
    unfold isB at h2
    obtain ⟨h3, h4⟩ := ih (a * 256 + c) (by omega) (fun x hx => hc x (by simp [hx]))
    refine ⟨h3, Int.lt_of_lt_of_le h4 ?_⟩
    simp only [List.length_cons]
    rw [Int.pow_succ, Int.mul_comm (256 ^ l.length) 256, ← Int.mul_assoc]
    exact Int.mul_le_mul_of_nonneg_right (by omega) (Int.pow_nonneg (by decide))
theorem be_bound (l : List Int) (h : ∀ c ∈ l, isB c) : 0 ≤ be l ∧ be l < 256 ^ l.length := by
  simpa [be] using be_acc l 0 (by omega) h
theorem take_next (bs : List Int) (m j : Nat) (h : m + j < bs.length) : (bs.drop m).take (j + 1) = (bs.drop m).take j ++ [bs.getD (m + j) 0] := by
  rw [List.take_add_one, List.getElem?_drop, List.getElem?_eq_getElem h]
  simp [List.getD, List.getElem?_eq_getElem h]
theorem be_next (bs : List Int) (m j : Nat) (h : m + j < bs.length) : be ((bs.drop m).take (j + 1)) = be ((bs.drop m).take j) * 256 + bs.getD (m + j) 0 := by
  rw [take_next bs m j h, be_snoc]
theorem or_join (v c : Int) (h0 : 0 ≤ v) (h1 : v < 16777216) (c0 : 0 ≤ c) (c1 : c < 256) : bits BinOp.or IntKind.u32 (v * 256) c = v * 256 + c := by
  rw [u32_or _ _ (by omega) (by omega) c0 (by omega), nat_join 8 _ _ (by omega) (by omega)]
  omega
/-- What a block of 64 cells holds when the first i words stand and the rest is 0. -/
def upto (l : List Int) : List Int := l ++ List.replicate (64 - l.length) 0
theorem upto_length (l : List Int) (h : l.length ≤ 64) : (upto l).length = 64 := by simp [upto]; omega
theorem upto_get (l : List Int) (i : Nat) (h : i < l.length) : (upto l).getD i 0 = l.getD i 0 := by
  simp [upto, List.getD, List.getElem?_append_left h]
theorem upto_set (l : List Int) (x : Int) (h : l.length < 64) : (upto l).set l.length x = upto (l ++ [x]) := by
  unfold upto
  rw [List.set_append_right _ _ (Nat.le_refl _), Nat.sub_self]
  have : 64 - l.length = (64 - (l ++ [x]).length) + 1 := by simp; omega
  rw [this, List.replicate_succ]
  simp
theorem word_isW (bs : List Int) (h : ∀ x ∈ bs, isB x) (i : Nat) : isW (word bs i) := by
  have h1 := be_bound ((bs.drop (4 * i)).take 4) (fun x hx => h x (List.mem_of_mem_drop (List.mem_of_mem_take hx)))
  have h2 : ((bs.drop (4 * i)).take 4).length ≤ 4 := by rw [List.length_take]; omega
  have h3 : (256 : Int) ^ ((bs.drop (4 * i)).take 4).length ≤ 4294967296 := by
    generalize ((bs.drop (4 * i)).take 4).length = n at h2
    have : n = 0 ∨ n = 1 ∨ n = 2 ∨ n = 3 ∨ n = 4 := by omega
    rcases this with rfl | rfl | rfl | rfl | rfl <;> decide
  unfold word isW
  omega
theorem getD_all {p : Int → Prop} (h0 : p 0) (l : List Int) (h : ∀ x ∈ l, p x) (i : Nat) : p (l.getD i 0) := by
  rw [List.getD]
  cases hi : l[i]? with
  | none => exact h0
  | some v => exact h v (List.mem_of_getElem? hi)
theorem sched_all (bs : List Int) (h : ∀ x ∈ bs, isB x) (k : Nat) : ∀ x ∈ sched k (first16 bs), isW x := by
  induction k with
  | zero =>
    intro x hx
    simp only [sched, first16, List.mem_map] at hx
    obtain ⟨i, _, rfl⟩ := hx
    exact word_isW bs h i
  | succ k ih =>
    intro x hx
    simp only [sched, List.mem_append, List.mem_singleton] at hx
    rcases hx with hx | rfl
    · exact ih x hx
    · unfold nextW isW; omega
theorem sched_isW (bs : List Int) (h : ∀ x ∈ bs, isB x) (k i : Nat) : isW ((sched k (first16 bs)).getD i 0) :=
  getD_all (p := isW) ⟨by decide, by decide⟩ _ (sched_all bs h k) i
theorem words_isW (bs : List Int) (h : ∀ x ∈ bs, isB x) (i : Nat) : isW ((words bs).getD i 0) := sched_isW bs h 48 i

/-- Bytes as numbers. -/
def ib (l : List UInt8) : List Int := l.map fun b => (b.toNat : Int)
theorem ib_length (l : List UInt8) : (ib l).length = l.length := by simp [ib]
theorem ib_isB (l : List UInt8) : ∀ x ∈ ib l, isB x := by
  intro x hx
  simp only [ib, List.mem_map] at hx
  obtain ⟨b, _, rfl⟩ := hx
  have := b.toNat_lt
  unfold isB; omega
/-- Whole blocks are taken in; what is left stays. -/
def absorb : Nat → St → List UInt8 → St × List UInt8
  | 0, s, l => (s, l)
  | f + 1, s, l => if 64 ≤ l.length then absorb f (mix s (ib (l.take 64))) (l.drop 64) else (s, l)
theorem absorb_small (f : Nat) (s : St) (l : List UInt8) (h : l.length < 64) : absorb f s l = (s, l) := by
  cases f with
  | zero => rfl
  | succ f => rw [absorb, if_neg (by omega)]
theorem absorb_step (f : Nat) (s : St) (l : List UInt8) (h : 64 ≤ l.length) : absorb (f + 1) s l = absorb f (mix s (ib (l.take 64))) (l.drop 64) := by
  rw [absorb, if_pos h]
theorem absorb_rest (f : Nat) : ∀ (s : St) (l : List UInt8), l.length ≤ f → (absorb f s l).2.length < 64 := by
  induction f with
  | zero => intro s l h; show l.length < 64; omega
  | succ f ih =>
    intro s l h
    by_cases h64 : 64 ≤ l.length
    · rw [absorb_step f s l h64]; exact ih _ _ (by rw [List.length_drop]; omega)
    · rw [absorb_small _ _ _ (by omega)]; show l.length < 64; omega
theorem rounds_isW (ws : List Int) (n : Nat) (s : St) (h : s.isW) : (rounds ws n s).isW := by
  induction n with
  | zero => exact h
  | succ n ih =>
    obtain ⟨q1, q2, q3, q4, q5, q6, q7, q8⟩ := ih
    refine ⟨?_, q1, q2, q3, ?_, q5, q6, q7⟩ <;> (unfold Sha.isW; simp only [rounds, round]; omega)
theorem mix_isW (s : St) (bs : List Int) : (mix s bs).isW := by
  refine ⟨?_, ?_, ?_, ?_, ?_, ?_, ?_, ?_⟩ <;> (unfold Sha.isW; simp only [mix, join, plus]; omega)

def H0 : St := ⟨1779033703, 3144134277, 1013904242, 2773480762, 1359893119, 2600822924, 528734635, 1541459225⟩
theorem H0_isW : H0.isW := by unfold St.isW Sha.isW; decide
def out4 (w : Int) : List UInt8 := [UInt8.ofNat (w.toNat / 2 ^ 24), UInt8.ofNat (w.toNat / 2 ^ 16), UInt8.ofNat (w.toNat / 2 ^ 8), UInt8.ofNat (w.toNat / 2 ^ 0)]
def out (l : List Int) : List UInt8 := l.flatMap out4
/-- How many bytes 00 stand behind the byte 80. -/
def zeros (n : Nat) : Nat := (119 - n % 64) % 64
/-- A number's eight bytes, the highest first. -/
def be8 (n : Nat) : List UInt8 := (List.range 8).map fun j => UInt8.ofNat (n / 2 ^ (56 - 8 * j))
def padTail (n : Nat) : List UInt8 := 128 :: List.replicate (zeros n) 0 ++ be8 (n * 8 % 18446744073709551616)
theorem be8_length (n : Nat) : (be8 n).length = 8 := by simp [be8]
theorem be8_next (n j : Nat) (h : j < 8) : (be8 n).take (j + 1) = (be8 n).take j ++ [UInt8.ofNat (n / 2 ^ (56 - 8 * j))] := by
  have hl := be8_length n
  rw [List.take_add_one, List.getElem?_eq_getElem (by omega)]
  simp [be8]
theorem zeros_le (n : Nat) : zeros n ≤ 63 := by unfold zeros; omega
theorem zeros_hit (n m : Nat) (h1 : 1 ≤ m) (h2 : m ≤ 1 + zeros n) : (n + m) % 64 = 56 ↔ m = 1 + zeros n := by unfold zeros at *; omega
theorem padTail_length (n : Nat) : (padTail n).length = 9 + zeros n := by simp [padTail, be8_length]; omega
/-- The digest of bytes of which l are left, n went in, s stands. -/
def finish (s : St) (l : List UInt8) (n : Nat) : List UInt8 := out (absorb (l.length + (padTail n).length) s (l ++ padTail n)).1.cells
def sum (l : List UInt8) : List UInt8 := finish (absorb l.length H0 l).1 (absorb l.length H0 l).2 l.length
theorem absorb_le (f : Nat) : ∀ (s : St) (l : List UInt8), (absorb f s l).2.length ≤ l.length := by
  induction f with
  | zero => intro s l; exact Nat.le_refl _
  | succ f ih =>
    intro s l
    rw [absorb]
    split
    · exact Nat.le_trans (ih _ _) (by rw [List.length_drop]; omega)
    · exact Nat.le_refl _
theorem absorb_isW (f : Nat) : ∀ (s : St) (l : List UInt8), s.isW → (absorb f s l).1.isW := by
  induction f with
  | zero => intro s l h; exact h
  | succ f ih =>
    intro s l h
    rw [absorb]
    split
    · exact ih _ _ (mix_isW _ _)
    · exact h
end Go.Proofs.YtjkhmjklmclpoaaGreat.Sha
