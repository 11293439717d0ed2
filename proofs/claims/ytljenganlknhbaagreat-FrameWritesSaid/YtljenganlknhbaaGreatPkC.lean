/- Several texts in one. (Layer 19.) -/
import Derived.Test.YtljenganlknhbaaGreatPkA
import Derived.Test.YtljenganlknhbaaGreatProg
import Derived.Deep.QuietTactic
import Derived.BigQuiet
import Derived.BigRegion
import Derived.StillTailTactics
/- SHA-256 in plain numbers: what both texts compute. No program is named here. -/
namespace Go.Proofs.YtljenganlknhbaaGreat.Sha
open Go.RowKit

def rotl (x : Int) (n : Nat) : Int := bits BinOp.or IntKind.u32 (x * 2 ^ n % 4294967296) (x / 2 ^ (32 - n))
def xor2 (a b : Int) : Int := bits BinOp.xor IntKind.u32 a b
def and2 (a b : Int) : Int := bits BinOp.and IntKind.u32 a b
def add2 (a b : Int) : Int := IntKind.u32.wrap (a + b)
def not2 (a : Int) : Int := bits BinOp.xor IntKind.u32 (if IntKind.u32.signed = true then -1 else IntKind.u32.max) a
def isW (x : Int) : Prop := 0 ≤ x ∧ x < 4294967296
def turned (x : Int) (a b c : Nat) : Int := xor2 (xor2 (rotl x (32 - a)) (rotl x (32 - b))) (rotl x (32 - c))
def s0 (x : Int) : Int := xor2 (xor2 (rotl x 25) (rotl x 14)) (x / 8)
def s1 (y : Int) : Int := xor2 (xor2 (rotl y 15) (rotl y 13)) (y / 1024)
/-- The number of the first bytes, the highest first. -/
def be (l : List Int) : Int := l.foldl (fun v c => v * 256 + c) 0
def word (bs : List Int) (i : Nat) : Int := be ((bs.drop (4 * i)).take 4)
def first16 (bs : List Int) : List Int := (List.range 16).map (word bs)
def nextW (l : List Int) : Int := (l.getD (l.length - 16) 0 + s0 (l.getD (l.length - 15) 0) + l.getD (l.length - 7) 0 + s1 (l.getD (l.length - 2) 0)) % 4294967296
def sched : Nat → List Int → List Int
  | 0, l => l
  | k + 1, l => sched k l ++ [nextW (sched k l)]
def words (bs : List Int) : List Int := sched 48 (first16 bs)

def kTable : List Int := [1116352408, 1899447441, 3049323471, 3921009573, 961987163, 1508970993, 2453635748, 2870763221, 3624381080, 310598401, 607225278, 1426881987, 1925078388, 2162078206, 2614888103, 3248222580, 3835390401, 4022224774, 264347078, 604807628, 770255983, 1249150122, 1555081692, 1996064986, 2554220882, 2821834349, 2952996808, 3210313671, 3336571891, 3584528711, 113926993, 338241895, 666307205, 773529912, 1294757372, 1396182291, 1695183700, 1986661051, 2177026350, 2456956037, 2730485921, 2820302411, 3259730800, 3345764771, 3516065817, 3600352804, 4094571909, 275423344, 430227734, 506948616, 659060556, 883997877, 958139571, 1322822218, 1537002063, 1747873779, 1955562222, 2024104815, 2227730452, 2361852424, 2428436474, 2756734187, 3204031479, 3329325298]
def h0 : List Int := [1779033703, 3144134277, 1013904242, 2773480762, 1359893119, 2600822924, 528734635, 1541459225]
def ch (e f g : Int) : Int := xor2 (and2 e f) (and2 (not2 e) g)
def maj (a b c : Int) : Int := xor2 (xor2 (and2 a b) (and2 a c)) (and2 b c)
structure St where
  a : Int
  b : Int
  c : Int
  d : Int
  e : Int
  f : Int
  g : Int
  h : Int
def St.isW (s : St) : Prop := Sha.isW s.a ∧ Sha.isW s.b ∧ Sha.isW s.c ∧ Sha.isW s.d ∧ Sha.isW s.e ∧ Sha.isW s.f ∧ Sha.isW s.g ∧ Sha.isW s.h
def St.cells (s : St) : List Int := [s.a, s.b, s.c, s.d, s.e, s.f, s.g, s.h]
def rp (s : St) (k w : Int) : Int := (s.h + turned s.e 6 11 25 + ch s.e s.f s.g + k + w) % 4294967296
def rq (s : St) : Int := (turned s.a 2 13 22 + maj s.a s.b s.c) % 4294967296
def round (s : St) (k w : Int) : St := ⟨(rp s k w + rq s) % 4294967296, s.a, s.b, s.c, (s.d + rp s k w) % 4294967296, s.e, s.f, s.g⟩
def rounds (ws : List Int) : Nat → St → St
  | 0, s => s
  | t + 1, s => round (rounds ws t s) (kTable.getD t 0) (ws.getD t 0)
def plus (x y : Int) : Int := (x + y) % 4294967296
def join (s t : St) : St := ⟨plus s.a t.a, plus s.b t.b, plus s.c t.c, plus s.d t.d, plus s.e t.e, plus s.f t.f, plus s.g t.g, plus s.h t.h⟩
/-- The state behind one block more. -/
def mix (s : St) (bs : List Int) : St := join s (rounds (words bs) 64 s)

theorem sched_length (k : Nat) (l : List Int) : (sched k l).length = l.length + k := by
  induction k with
  | zero => rfl
  | succ k ih => simp [sched, ih]; omega
theorem first16_length (bs : List Int) : (first16 bs).length = 16 := by simp [first16]
theorem words_length (bs : List Int) : (words bs).length = 64 := by simp [words, sched_length, first16_length]

theorem wrap_isW (n : Int) : isW (IntKind.u32.wrap n) := by
  rw [IntKind.wrap_u32']; unfold isW; omega
theorem bits_isW (op : BinOp) (a b : Int) : isW (bits op .u32 a b) := by
  unfold bits
  split <;> first | exact wrap_isW _ | exact ⟨by decide, by decide⟩
theorem rotl_isW (x : Int) (n : Nat) : isW (rotl x n) := bits_isW _ _ _
theorem xor_isW (x y : Int) : isW (xor2 x y) := bits_isW _ _ _
theorem and_isW (x y : Int) : isW (and2 x y) := bits_isW _ _ _
theorem add_isW (x y : Int) : isW (add2 x y) := wrap_isW _
theorem turned_isW (x : Int) (a b c : Nat) : isW (turned x a b c) := xor_isW _ _

def isB (x : Int) : Prop := 0 ≤ x ∧ x < 256
theorem be_snoc (l : List Int) (c : Int) : be (l ++ [c]) = be l * 256 + c := by simp [be]
theorem be_acc (l : List Int) : ∀ a : Int, 0 ≤ a → (∀ c ∈ l, isB c) → 0 ≤ l.foldl (fun v c => v * 256 + c) a ∧ l.foldl (fun v c => v * 256 + c) a < (a + 1) * 256 ^ l.length := by
  induction l with
  | nil => intro a h _; simp; omega
  | cons c l ih =>
    intro a h hc
    have h2 := hc c (by simp)
    unfold isB at h2
    obtain ⟨h3, h4⟩ := ih (a * 256 + c) (by omega) (fun x hx => hc x (by simp [hx]))
    refine ⟨h3, Int.lt_of_lt_of_le h4 ?_⟩
    simp only [List.length_cons]
    rw [Int.pow_succ, Int.mul_comm (256 ^ l.length) 256, ← Int.mul_assoc]
    exact Int.mul_le_mul_of_nonneg_right (by omega) (Int.pow_nonneg (by decide))
theorem be_bound (l : List Int) (h : ∀ c ∈ l, isB c) : 0 ≤ be l ∧ be l < 256 ^ l.length := by
  simpa [be] using be_acc l 0 (by omega) h
theorem take_next (bs : List Int) (m j : Nat) (h : m + j < bs.length) : (bs.drop m).take (j + 1) = (bs.drop m).take j ++ [bs.getD (m + j) 0] := by
  rw [List.take_add_one, List.getElem?_drop, List.getElem?_eq_getElem h]
  simp [List.getD, List.getElem?_eq_getElem h]
theorem be_next (bs : List Int) (m j : Nat) (h : m + j < bs.length) : be ((bs.drop m).take (j + 1)) = be ((bs.drop m).take j) * 256 + bs.getD (m + j) 0 := by
  rw [take_next bs m j h, be_snoc]
theorem or_join (v c : Int) (h0 : 0 ≤ v) (h1 : v < 16777216) (c0 : 0 ≤ c) (c1 : c < 256) : bits BinOp.or IntKind.u32 (v * 256) c = v * 256 + c := by
  rw [u32_or _ _ (by omega) (by omega) c0 (by omega), nat_join 8 _ _ (by omega) (by omega)]
  omega
/-- What a block of 64 cells holds when the first i words stand and the rest is 0. -/
def upto (l : List Int) : List Int := l ++ List.replicate (64 - l.length) 0
theorem upto_length (l : List Int) (h : l.length ≤ 64) : (upto l).length = 64 := by simp [upto]; omega
theorem upto_get (l : List Int) (i : Nat) (h : i < l.length) : (upto l).getD i 0 = l.getD i 0 := by
  simp [upto, List.getD, List.getElem?_append_left h]
theorem upto_set (l : List Int) (x : Int) (h : l.length < 64) : (upto l).set l.length x = upto (l ++ [x]) := by
  unfold upto
  rw [List.set_append_right _ _ (Nat.le_refl _), Nat.sub_self]
  have : 64 - l.length = (64 - (l ++ [x]).length) + 1 := by simp; omega
  rw [this, List.replicate_succ]
  simp
theorem word_isW (bs : List Int) (h : ∀ x ∈ bs, isB x) (i : Nat) : isW (word bs i) := by
  have h1 := be_bound ((bs.drop (4 * i)).take 4) (fun x hx => h x (List.mem_of_mem_drop (List.mem_of_mem_take hx)))
  have h2 : ((bs.drop (4 * i)).take 4).length ≤ 4 := by rw [List.length_take]; omega
  have h3 : (256 : Int) ^ ((bs.drop (4 * i)).take 4).length ≤ 4294967296 := by
    generalize ((bs.drop (4 * i)).take 4).length = n at h2
    have : n = 0 ∨ n = 1 ∨ n = 2 ∨ n = 3 ∨ n = 4 := by omega
    rcases this with rfl | rfl | rfl | rfl | rfl <;> decide
  unfold word isW
  omega
theorem getD_all {p : Int → Prop} (h0 : p 0) (l : List Int) (h : ∀ x ∈ l, p x) (i : Nat) : p (l.getD i 0) := by
  rw [List.getD]
  cases hi : l[i]? with
  | none => exact h0
  | some v => exact h v (List.mem_of_getElem? hi)
theorem sched_all (bs : List Int) (h : ∀ x ∈ bs, isB x) (k : Nat) : ∀ x ∈ sched k (first16 bs), isW x := by
  induction k with
  | zero =>
    intro x hx
    simp only [sched, first16, List.mem_map] at hx
    obtain ⟨i, _, rfl⟩ := hx
    exact word_isW bs h i
  | succ k ih =>
    intro x hx
    simp only [sched, List.mem_append, List.mem_singleton] at hx
    rcases hx with hx | rfl
    · exact ih x hx
    · unfold nextW isW; omega
theorem sched_isW (bs : List Int) (h : ∀ x ∈ bs, isB x) (k i : Nat) : isW ((sched k (first16 bs)).getD i 0) :=
  getD_all (p := isW) ⟨by decide, by decide⟩ _ (sched_all bs h k) i
theorem words_isW (bs : List Int) (h : ∀ x ∈ bs, isB x) (i : Nat) : isW ((words bs).getD i 0) := sched_isW bs h 48 i

/-- Bytes as numbers. -/
def ib (l : List UInt8) : List Int := l.map fun b => (b.toNat : Int)
theorem ib_length (l : List UInt8) : (ib l).length = l.length := by simp [ib]
theorem ib_isB (l : List UInt8) : ∀ x ∈ ib l, isB x := by
  intro x hx
  simp only [ib, List.mem_map] at hx
  obtain ⟨b, _, rfl⟩ := hx
  have := b.toNat_lt
  unfold isB; omega
/-- Whole blocks are taken in; what is left stays. -/
def absorb : Nat → St → List UInt8 → St × List UInt8
  | 0, s, l => (s, l)
  | f + 1, s, l => if 64 ≤ l.length then absorb f (mix s (ib (l.take 64))) (l.drop 64) else (s, l)
theorem absorb_small (f : Nat) (s : St) (l : List UInt8) (h : l.length < 64) : absorb f s l = (s, l) := by
  cases f with
  | zero => rfl
  | succ f => rw [absorb, if_neg (by omega)]
theorem absorb_step (f : Nat) (s : St) (l : List UInt8) (h : 64 ≤ l.length) : absorb (f + 1) s l = absorb f (mix s (ib (l.take 64))) (l.drop 64) := by
  rw [absorb, if_pos h]
theorem absorb_rest (f : Nat) : ∀ (s : St) (l : List UInt8), l.length ≤ f → (absorb f s l).2.length < 64 := by
  induction f with
  | zero => intro s l h; show l.length < 64; omega
  | succ f ih =>
    intro s l h
    by_cases h64 : 64 ≤ l.length
    · rw [absorb_step f s l h64]; exact ih _ _ (by rw [List.length_drop]; omega)
    · rw [absorb_small _ _ _ (by omega)]; show l.length < 64; omega
theorem rounds_isW (ws : List Int) (n : Nat) (s : St) (h : s.isW) : (rounds ws n s).isW := by
  induction n with
  | zero => exact h
  | succ n ih =>
    obtain ⟨q1, q2, q3, q4, q5, q6, q7, q8⟩ := ih
    refine ⟨?_, q1, q2, q3, ?_, q5, q6, q7⟩ <;> (unfold Sha.isW; simp only [rounds, round]; omega)
theorem mix_isW (s : St) (bs : List Int) : (mix s bs).isW := by
  refine ⟨?_, ?_, ?_, ?_, ?_, ?_, ?_, ?_⟩ <;> (unfold Sha.isW; simp only [mix, join, plus]; omega)

def H0 : St := ⟨1779033703, 3144134277, 1013904242, 2773480762, 1359893119, 2600822924, 528734635, 1541459225⟩
theorem H0_isW : H0.isW := by unfold St.isW Sha.isW; decide
def out4 (w : Int) : List UInt8 := [UInt8.ofNat (w.toNat / 2 ^ 24), UInt8.ofNat (w.toNat / 2 ^ 16), UInt8.ofNat (w.toNat / 2 ^ 8), UInt8.ofNat (w.toNat / 2 ^ 0)]
def out (l : List Int) : List UInt8 := l.flatMap out4
/-- How many bytes 00 stand behind the byte 80. -/
def zeros (n : Nat) : Nat := (119 - n % 64) % 64
/-- A number's eight bytes, the highest first. -/
def be8 (n : Nat) : List UInt8 := (List.range 8).map fun j => UInt8.ofNat (n / 2 ^ (56 - 8 * j))
def padTail (n : Nat) : List UInt8 := 128 :: List.replicate (zeros n) 0 ++ be8 (n * 8 % 18446744073709551616)
theorem be8_length (n : Nat) : (be8 n).length = 8 := by simp [be8]
theorem be8_next (n j : Nat) (h : j < 8) : (be8 n).take (j + 1) = (be8 n).take j ++ [UInt8.ofNat (n / 2 ^ (56 - 8 * j))] := by
  have hl := be8_length n
  rw [List.take_add_one, List.getElem?_eq_getElem (by omega)]
  simp [be8]
theorem zeros_le (n : Nat) : zeros n ≤ 63 := by unfold zeros; omega
theorem zeros_hit (n m : Nat) (h1 : 1 ≤ m) (h2 : m ≤ 1 + zeros n) : (n + m) % 64 = 56 ↔ m = 1 + zeros n := by unfold zeros at *; omega
theorem padTail_length (n : Nat) : (padTail n).length = 9 + zeros n := by simp [padTail, be8_length]; omega
/-- The digest of bytes of which l are left, n went in, s stands. -/
def finish (s : St) (l : List UInt8) (n : Nat) : List UInt8 := out (absorb (l.length + (padTail n).length) s (l ++ padTail n)).1.cells
def sum (l : List UInt8) : List UInt8 := finish (absorb l.length H0 l).1 (absorb l.length H0 l).2 l.length
theorem absorb_le (f : Nat) : ∀ (s : St) (l : List UInt8), (absorb f s l).2.length ≤ l.length := by
  induction f with
  | zero => intro s l; exact Nat.le_refl _
  | succ f ih =>
    intro s l
    rw [absorb]
    split
    · exact Nat.le_trans (ih _ _) (by rw [List.length_drop]; omega)
    · exact Nat.le_refl _
theorem absorb_isW (f : Nat) : ∀ (s : St) (l : List UInt8), s.isW → (absorb f s l).1.isW := by
  induction f with
  | zero => intro s l h; exact h
  | succ f ih =>
    intro s l h
    rw [absorb]
    split
    · exact ih _ _ (mix_isW _ _)
    · exact h
end Go.Proofs.YtljenganlknhbaaGreat.Sha

/- What bits.RotateLeft32, sha.turned and sha.spread compute, walked. -/
namespace Go.Proofs.YtljenganlknhbaaGreat.Sha
open Go.RowKit

theorem rot_any (x k : Int) (n : Nat) (w : World) (hx : isW x) (hn : n < 32) (hk : bits BinOp.and IntKind.u64 (IntKind.u64.wrap k) 31 = (n : Int)) :
    Calls Tryz.prog 193 #[.int .u32 x, .int .i64 k] w fun e w' => e = .returned (.int .u32 (rotl x n)) ∧ w = w' := by
  obtain ⟨hx1, hx2⟩ := hx
  go_enter Tryz.func193, Tryz.ntmps193
  go_wp2
  go_ret
  exact ⟨rfl, rfl⟩

/-- The counts by which the text turns. -/
theorem neg_any (k : Int) (h : 1 ≤ k) (h2 : k ≤ 31) : bits BinOp.and IntKind.u64 (IntKind.u64.wrap (-k)) 31 = ((32 - k.toNat : Nat) : Int) := by
  obtain ⟨m, rfl⟩ := Int.eq_ofNat_of_zero_le (show 0 ≤ k by omega)
  have hm : m ≤ 31 := by omega
  have : ∀ m : Nat, m ≤ 31 → 1 ≤ m → bits BinOp.and IntKind.u64 (IntKind.u64.wrap (-(m : Int))) 31 = ((32 - m : Nat) : Int) := by decide +kernel
  exact this m hm (by omega)

theorem rotr_any (x k : Int) (w : World) (hx : isW x) (h : 1 ≤ k) (h2 : k ≤ 31) :
    Calls Tryz.prog 193 #[.int .u32 x, .int .i64 (-k)] w fun e w' => e = .returned (.int .u32 (rotl x (32 - k.toNat))) ∧ w = w' :=
  rot_any x _ _ w hx (by omega) (neg_any k h h2)

theorem turned_any (x a b c : Int) (w : World) (hx : isW x) (ha : 1 ≤ a) (ha2 : a ≤ 31) (hb : 1 ≤ b) (hb2 : b ≤ 31) (hc : 1 ≤ c) (hc2 : c ≤ 31) :
    Calls Tryz.prog 190 #[.int .u32 x, .int .i64 a, .int .i64 b, .int .i64 c] w fun e w' => e = .returned (.int .u32 (turned x a.toNat b.toNat c.toNat)) ∧ w = w' := by
  go_enter Tryz.func190, Tryz.ntmps190
  go_wp2_with (go_at_call 193; refine (rotr_any _ _ _ hx (by omega) (by omega)).mono ?_; rintro e w' ⟨rfl, rfl⟩)
  go_ret
  exact ⟨rfl, rfl⟩
set_option maxHeartbeats 1000000 in
theorem spread_any (b off cap : Nat) (w : World) (bs : List Int) (hl : bs.length = 64) (hcap : 64 ≤ cap) (hcap2 : cap ≤ 9223372036854775807)
   (hb : b < w.heap.size) (hbs : ∀ x ∈ bs, isB x) (hc : ∀ j, j < 64 → w.cell? ⟨b, off + j, none⟩ = some (.int .u8 (bs.getD j 0))) :
    Calls Tryz.prog 189 #[.slice (some ⟨b, off, none⟩) 64 cap] w fun e w' => e = .returned (.agg (nums .u32 (words bs))) ∧ Below w.heap.size w w' := by
  have Hc := Lib.hid hc
  clear hc
  have Hl := Lib.hid hl
  clear hl
  have Hbs := Lib.hid hbs
  clear hbs
  go_enter Tryz.func189, Tryz.ntmps189
  go_wp2
  go_loopw [3, 5, 11, 22] (fun _ _ i _ wr => ∃ k : Nat, k ≤ 16 ∧ i = .int .i64 k ∧ BlkIs wr w.heap.size 150 (nums .u32 (upto ((List.range k).map (word bs)))) ∧ Below w.heap.size w wr) (fun _ _ i _ _ => 16 - (intOf i).toNat)
  case atStart => exact ⟨0, by omega, rfl, BlkIs.new _ _ _, (Below.refl _ _).alloc (Nat.le_refl _) _⟩
  case round =>
    obtain ⟨k, hk, rfl, hblk, hbe⟩ := hrel
    by_cases hlt : k < 16
    · have h1 : ((k : Int) < 16) := by omega
      have Hblk := Lib.hid hblk; clear hblk
      go_wp2
      obtain ⟨wo, rfl⟩ : ∃ wo : World, wo = wr := ⟨_, rfl⟩
      go_loopw [5, 22] (fun _ i wr => ∃ j : Nat, j ≤ 4 ∧ i = .int .i64 j ∧ BlkIs wr w.heap.size 150 (nums .u32 (upto ((List.range k).map (word bs) ++ [be ((bs.drop (4*k)).take j)]))) ∧ Below w.heap.size w wr) (fun _ i _ => 4 - (intOf i).toNat)
      case atStart =>
        refine ⟨0, by omega, rfl, ?_, hbe⟩
        have h0 := Hblk.out
        have e : upto ((List.range k).map (word bs)) = upto ((List.range k).map (word bs) ++ [be ((bs.drop (4*k)).take 0)]) := by
          unfold upto be
          simp only [List.take_zero, List.foldl_nil, List.append_assoc, List.length_append, List.length_map, List.length_range, List.length_singleton]
          rw [show 64 - k = (64 - (k + 1)) + 1 by omega, List.replicate_succ]; rfl
        rw [e] at h0; exact h0
      case round =>
        obtain ⟨j, hj, rfl, hblk, hbe⟩ := hrel
        by_cases hlt : j < 4
        · have h1 : ((j : Int) < 4) := by omega
          have hlen := Hl.out
          obtain ⟨c, hcc⟩ : ∃ c, c = bs.getD (4 * k + j) 0 := ⟨_, rfl⟩
          have hce : wr.cell? ⟨b, off + 4 * k + j, none⟩ = some (.int .u8 c) := by
            rw [hbe.cell hb, hcc, Nat.add_assoc]; exact Hc.out _ (by omega)
          obtain ⟨v, hv⟩ : ∃ v, v = be ((bs.drop (4*k)).take j) := ⟨_, rfl⟩
          rw [← hv] at hblk
          have hln : ((List.range k).map (word bs)).length = k := by simp
          have hcv : wr.cell? ⟨w.heap.size, k, none⟩ = some (.int .u32 v) := by
            rw [hblk.cell, nums_get _ _ _ (by rw [upto_length _ (by simp; omega)]; omega), upto_get _ _ (by simp)]
            simp [List.getD]
          have hcf : wr.frozen? ⟨w.heap.size, k, none⟩ = false := hblk.free _
          have hmem : ∀ x ∈ (bs.drop (4*k)).take j, isB x := fun x hx => Hbs.out x (List.mem_of_mem_drop (List.mem_of_mem_take hx))
          have hvb := be_bound _ hmem
          rw [← hv, show ((bs.drop (4*k)).take j).length = j by rw [List.length_take, List.length_drop]; omega] at hvb
          have hp : (256 : Int) ^ j ≤ 16777216 := by
            have : j = 0 ∨ j = 1 ∨ j = 2 ∨ j = 3 := by omega
            rcases this with rfl | rfl | rfl | rfl <;> decide
          have hv0 : 0 ≤ v := hvb.1
          have hv1 : v < 16777216 := by omega
          have hcb : isB c := by rw [hcc, List.getD, List.getElem?_eq_getElem (by omega)]; exact Hbs.out _ (List.getElem_mem _)
          have hc0 : 0 ≤ c := hcb.1
          have hc1 : c < 256 := hcb.2
          have hor := or_join v c hv0 hv1 hc0 hc1
          have hnx : be ((bs.drop (4*k)).take (j+1)) = v * 256 + c := by rw [hv, hcc]; exact be_next bs (4*k) j (by omega)
          have hput := hblk.put k (.int .u32 (v * 256 + c))
          have eset : (upto (List.map (word bs) (List.range k) ++ [v])).set k (v * 256 + c) = upto (List.map (word bs) (List.range k) ++ [v * 256 + c]) := by
            unfold upto; rw [List.append_assoc, List.set_append_right _ _ (by simp)]; simp
          rw [nums_set, eset] at hput
          have hput2 : BlkIs (wr.setCell ⟨w.heap.size, k, none⟩ (.int .u32 (v * 256 + c))) w.heap.size 150 (nums .u32 (upto ((List.range k).map (word bs) ++ [be ((bs.drop (4*k)).take (j+1))]))) := by rw [hnx]; exact hput
          clear hput
          have hbs2 := hbe.setCell (p := ⟨w.heap.size, k, none⟩) (Nat.le_refl _) (.int .u32 (v * 256 + c))
          have Hx := Lib.hid (And.intro hput2 hbs2); clear hput2 hbs2 eset hnx hvb hp hblk hmem hv hcc hln hcb hlen
          go_wp2
          go_roundw
          case rel => exact ⟨j + 1, by omega, by go_num, Hx.out.1, Hx.out.2⟩
          case measure => simp [intOf]; omega
        · obtain rfl : j = 4 := by omega
          have Hblk2 := Lib.hid hblk; clear hblk
          go_wp2
          go_roundw
          case rel =>
            refine ⟨k + 1, by omega, by go_num, ?_, hbe⟩
            have h0 := Hblk2.out
            rw [List.range_succ, List.map_append]; exact h0
          case measure => simp [intOf]; omega
    · have hk16 : k = 16 := by omega
      have h1 : ¬ ((k : Int) < 16) := by omega
      have hblk2 : BlkIs wr w.heap.size 150 (nums .u32 (upto (first16 bs))) := by rw [hk16] at hblk; exact hblk
      clear hk16 hblk
      have Hblk := Lib.hid hblk2; clear hblk2
      go_wp2
      go_loopw [6, 7, 8, 9, 10] (fun i _ _ _ _ wr => ∃ k : Nat, 16 ≤ k ∧ k ≤ 64 ∧ i = .int .i64 k ∧ BlkIs wr w.heap.size 150 (nums .u32 (upto (sched (k - 16) (first16 bs)))) ∧ Below w.heap.size w wr) (fun i _ _ _ _ _ => 64 - (intOf i).toNat)
      case atStart => exact ⟨16, by omega, by omega, rfl, Hblk.out, hbe⟩
      case round =>
        obtain ⟨k, hk0, hk, rfl, hblk, hbe⟩ := hrel
        obtain ⟨L, hL⟩ : ∃ L, L = sched (k - 16) (first16 bs) := ⟨_, rfl⟩
        rw [← hL] at hblk
        have hLl : L.length = k := by rw [hL, sched_length, first16_length]; omega
        have hLW : ∀ i, isW (L.getD i 0) := fun i => hL ▸ sched_isW bs Hbs.out _ i
        by_cases hlt : k < 64
        · have h1 : (k : Int) < 64 := by omega
          have cell : ∀ m, m < L.length → wr.cell? ⟨w.heap.size, m, none⟩ = some (.int .u32 (L.getD m 0)) := fun m hm => by
            rw [hblk.cell, nums_get _ _ _ (by rw [upto_length _ (by omega)]; omega), upto_get _ _ hm]
          have hcf : wr.frozen? ⟨w.heap.size, k, none⟩ = false := hblk.free _
          have hcc : ∃ u, wr.cell? ⟨w.heap.size, k, none⟩ = some u := ⟨_, by rw [hblk.cell, nums_get _ _ _ (by rw [upto_length _ (by omega)]; omega)]⟩
          obtain ⟨u, hcc⟩ := hcc
          have c1 := cell (k - 15) (by omega)
          have c2 := cell (k - 2) (by omega)
          have c3 := cell (k - 16) (by omega)
          have c4 := cell (k - 7) (by omega)
          clear cell
          obtain ⟨x, hx⟩ : ∃ x, x = L.getD (k - 15) 0 := ⟨_, rfl⟩
          obtain ⟨y, hy⟩ : ∃ y, y = L.getD (k - 2) 0 := ⟨_, rfl⟩
          obtain ⟨p, hp⟩ : ∃ p, p = L.getD (k - 16) 0 := ⟨_, rfl⟩
          obtain ⟨q, hq⟩ : ∃ q, q = L.getD (k - 7) 0 := ⟨_, rfl⟩
          rw [← hx] at c1; rw [← hy] at c2; rw [← hp] at c3; rw [← hq] at c4
          have hxw : isW x := hx ▸ hLW _
          have hyw : isW y := hy ▸ hLW _
          have H := Lib.hid (And.intro hblk (And.intro hL (And.intro hx (And.intro hy (And.intro hp (And.intro hq hLl))))))
          clear hblk hL hx hy hp hq hLl hLW
          have hx0 := hxw.1
          have hy0 := hyw.1
          have e1 : IntKind.i64.wrap ((k : Int) - 15) = (k : Int) - 15 := IntWalk.i64_in _ (by omega)
          have e2 : IntKind.i64.wrap ((k : Int) - 2) = (k : Int) - 2 := IntWalk.i64_in _ (by omega)
          have e3 : IntKind.i64.wrap ((k : Int) - 16) = (k : Int) - 16 := IntWalk.i64_in _ (by omega)
          have e4 : IntKind.i64.wrap ((k : Int) - 7) = (k : Int) - 7 := IntWalk.i64_in _ (by omega)
          have n1 : ((k : Int) - 15).toNat = k - 15 := by omega
          have n2 : ((k : Int) - 2).toNat = k - 2 := by omega
          have n3 : ((k : Int) - 16).toNat = k - 16 := by omega
          have n4 : ((k : Int) - 7).toNat = k - 7 := by omega
          have g1 : (0 : Int) ≤ (k : Int) - 15 := by omega
          have g2 : (0 : Int) ≤ (k : Int) - 2 := by omega
          have g3 : (0 : Int) ≤ (k : Int) - 16 := by omega
          have g4 : (0 : Int) ≤ (k : Int) - 7 := by omega
          have l1 : (k : Int) - 15 < 64 := by omega
          have l2 : (k : Int) - 2 < 64 := by omega
          have l3 : (k : Int) - 16 < 64 := by omega
          have l4 : (k : Int) - 7 < 64 := by omega
          go_wp2
          go_quiet (fail)
          go_wp2_with (go_at_call 193; refine (rotr_any _ _ _ (by first | exact hxw | exact hyw) (by omega) (by omega)).mono ?_; rintro e w' ⟨rfl, rfl⟩)
          obtain ⟨nx, hnx⟩ : ∃ nx, nx = (p + s0 x + q + s1 y) % 4294967296 := ⟨_, rfl⟩
          have Hnx := Lib.hid hnx
          clear hnx
          go_region
          go_wp2
          go_roundw
          case rel =>
            obtain ⟨hblk, hL, hx, hy, hp, hq, hLl⟩ := H.out
            refine ⟨k + 1, by omega, by omega, by go_num, ?_, ?_⟩
            · have e := (H.out.1.drewN (nq + 1)).put k (.int .u32 nx)
              rw [nums_set, ← hLl, upto_set L _ (by omega)] at e
              have e2 : sched (k + 1 - 16) (first16 bs) = L ++ [nx] := by
                rw [show k + 1 - 16 = (k - 16) + 1 by omega, sched, ← hL, Hnx.out]
                unfold nextW
                rw [hLl, ← hx, ← hy, ← hp, ← hq]
              rw [e2]
              rw [hLl, Hnx.out] at e
              rw [Hnx.out]
              exact e
            · exact (below_drewN hbe _).setCell (p := ⟨w.heap.size, k, none⟩) (Nat.le_refl _) _
          case measure => simp [intOf]; omega
        · have hk64 : k = 64 := by omega
          have h1 : ¬ (k : Int) < 64 := by omega
          have e : upto L = words bs := by
            rw [hL, hk64]; unfold upto words; rw [sched_length, first16_length]; simp
          rw [e] at hblk
          clear hL hLl hLW e hk64
          have hsz : (nums .u32 (words bs)).size = 64 := by rw [nums_size, words_length]
          obtain ⟨cs, hcs⟩ : ∃ cs, cs = nums .u32 (words bs) := ⟨_, rfl⟩
          rw [← hcs] at hblk hsz
          have h1c : cs.all (·.oneCell') = true := by rw [hcs]; exact nums_one _ _
          have Hcs := Lib.hid hcs; clear hcs
          have hinfo : (Tryz.prog.info? 150).map (·.size) = some cs.size := by rw [hsz]; kernel_rfl
          go_wp2_with (first
            | (refine wpList_load_row rfl 150 _ rfl w.heap.size rfl 150 cs (0, 0) _ hblk Tryz.underlying150 rfl hinfo ?_)
            | (refine wpList_store_row rfl 150 _ _ rfl w.heap.size cs rfl rfl 150 cs hblk hinfo rfl h1c ?_))
          refine bodyPost_ret (results_cell_row rfl _ _ w.heap.size 150 cs (0, 0) _ rfl (hblk.row cs) Tryz.underlying150 rfl hinfo) rfl ⟨by rw [Hcs.out], below_row hbe (Nat.le_refl _) _⟩
end Go.Proofs.YtljenganlknhbaaGreat.Sha

/- What sha.table, sha.first and sha.words.mix compute, walked. -/
namespace Go.Proofs.YtljenganlknhbaaGreat.Sha
open Go.RowKit
theorem table_any (w : World) : Calls Tryz.prog 188 #[] w fun e w' => e = .returned (.agg (nums .u32 kTable)) ∧ Below w.heap.size w w' := by
  have hinfo : (Tryz.prog.info? 150).map (·.size) = some (nums .u32 kTable).size := by kernel_rfl
  go_enter Tryz.func188, Tryz.ntmps188
  go_wp2_with (first
    | (refine wpList_build_to rfl 150 _ rfl (nums .u32 kTable) (by kernel_rfl) ?_)
    | (refine wpList_store_row rfl 150 _ _ rfl w.heap.size (nums .u32 kTable) rfl rfl 150 _ (BlkIs.new _ _ _) hinfo (by rfl) (nums_one _ _) ?_))
  refine bodyPost_ret (results_cell_row rfl _ _ w.heap.size 150 (nums .u32 kTable) (0, 0) _ rfl (BlkIs.row (BlkIs.new _ _ _) _) Tryz.underlying150 rfl hinfo) rfl ⟨rfl, below_row ((Below.refl _ _).alloc (Nat.le_refl _) _) (Nat.le_refl _) _⟩
theorem first_any (w : World) : Calls Tryz.prog 177 #[] w fun e w' => e = .returned (.agg (nums .u32 h0)) ∧ Below w.heap.size w w' := by
  have hinfo : (Tryz.prog.info? 174).map (·.size) = some (nums .u32 h0).size := by kernel_rfl
  go_enter Tryz.func177, Tryz.ntmps177
  go_wp2_with (first
    | (refine wpList_build_to rfl 174 _ rfl (nums .u32 h0) (by kernel_rfl) ?_)
    | (refine wpList_store_row rfl 174 _ _ rfl w.heap.size (nums .u32 h0) rfl rfl 174 _ (BlkIs.new _ _ _) hinfo (by rfl) (nums_one _ _) ?_))
  refine bodyPost_ret (results_cell_row rfl _ _ w.heap.size 174 (nums .u32 h0) (0, 0) _ rfl (BlkIs.row (BlkIs.new _ _ _) _) Tryz.underlying174 rfl hinfo) rfl ⟨rfl, below_row ((Below.refl _ _).alloc (Nat.le_refl _) _) (Nat.le_refl _) _⟩
theorem quiet_left {P : Program} {f : FuncId} {args : Array Value} {w : World} {n : Nat} {v : Value}
    (h : Calls P f args (w.drewN n) fun e w' => e = .returned v ∧ w.drewN n = w') : Calls P f args (w.drewN n) fun e w'' => e = .returned v ∧ ∃ m, w'' = w.drewN m :=
  h.mono fun _ _ ⟨he, hm⟩ => ⟨he, n, hm.symm⟩
set_option maxHeartbeats 1000000 in
set_option maxRecDepth 100000 in
theorem mix_any (s : St) (b off cap : Nat) (w : World) (bs : List Int) (hs : s.isW) (hl : bs.length = 64) (hcap : 64 ≤ cap) (hcap2 : cap ≤ 9223372036854775807)
   (hb : b < w.heap.size) (hbs : ∀ x ∈ bs, isB x) (hc : ∀ j, j < 64 → w.cell? ⟨b, off + j, none⟩ = some (.int .u8 (bs.getD j 0))) :
    Calls Tryz.prog 178 #[.agg (nums .u32 s.cells), .slice (some ⟨b, off, none⟩) 64 cap] w fun e w' => e = .returned (.agg (nums .u32 (mix s bs).cells)) ∧ Below w.heap.size w w' := by
  obtain ⟨s1, s2, s3, s4, s5, s6, s7, s8⟩ := s
  have Hs := Lib.hid hs; clear hs
  have Hc := Lib.hid hc
  clear hc
  have Hl := Lib.hid hl
  clear hl
  have Hbs := Lib.hid hbs
  clear hbs
  show Calls Tryz.prog 178 #[.agg #[.int .u32 s1, .int .u32 s2, .int .u32 s3, .int .u32 s4, .int .u32 s5, .int .u32 s6, .int .u32 s7, .int .u32 s8], .slice (some ⟨b, off, none⟩) 64 cap] w _
  go_enter Tryz.func178, Tryz.ntmps178
  have hinfo : (Tryz.prog.info? 150).map (·.size) = some (nums .u32 kTable).size := by kernel_rfl
  go_wp2_with (first
    | (go_at_call 188; refine (table_any _).mono ?_; rintro e w1 ⟨rfl, hb1⟩)
    | (refine wpList_store_row_to rfl 150 _ _ rfl w1.heap.size (nums .u32 kTable) rfl rfl 150 _ (BlkIs.new _ _ _) hinfo (by rfl) (nums_one _ _) ?_
       intro w2 hk2 hg2
       have hbox : BlkIs w2 w.heap.size 174 #[.int .u32 s1, .int .u32 s2, .int .u32 s3, .int .u32 s4, .int .u32 s5, .int .u32 s6, .int .u32 s7, .int .u32 s8] := ((((BlkIs.new _ _ _).alloc _).below hb1 (by simp only [World.size_alloc]; omega)).alloc _).grown hg2 (by have := hb1.size; simp at this; intro e; injection e; omega)))
  have hz := hb1.size
  simp only [World.size_alloc] at hz
  have hbe2 : Below w.heap.size w w2 := ((((Below.refl _ _).alloc (Nat.le_refl _) _).alloc (by simp) _).trans (hb1.mono (by simp only [World.size_alloc]; omega))).trans (((Below.refl _ _).alloc (by omega) _).trans (grown_below hg2 (by omega) (by simp only [World.size_alloc]; omega)))
  have hz2 := hg2.size
  simp only [World.size_alloc] at hz2
  have hres : BlkIs w2 (w.heap.size + 1) 174 (nums .u32 [0, 0, 0, 0, 0, 0, 0, 0]) := by
    refine BlkIs.grown (BlkIs.alloc (BlkIs.below (B := w.heap.size + 2) ?_ (hb1.mono (by simp only [World.size_alloc]; omega)) (by omega)) _) hg2 (by intro e; injection e; omega)
    exact BlkIs.new2 w _ _ _
  clear hg2 hb1
  have d0 := hbox.cell 0
  have d1 := hbox.cell 1
  have d2 := hbox.cell 2
  have d3 := hbox.cell 3
  have d4 := hbox.cell 4
  have d5 := hbox.cell 5
  have d6 := hbox.cell 6
  have d7 := hbox.cell 7
  simp at d0 d1 d2 d3 d4 d5 d6 d7
  have H := Lib.hid (And.intro hbox (And.intro hk2 (And.intro hbe2 hres)))
  clear hbox hk2 hbe2 hres
  go_quiet (fail)
  have hc2 : ∀ j, j < 64 → (w2.drewN nq).cell? ⟨b, off + j, none⟩ = some (.int .u8 (bs.getD j 0)) := fun j hj => by
    rw [World.cell?_drewN, H.out.2.2.1.cell hb]; exact Hc.out j hj
  have Hc2 := Lib.hid hc2; clear hc2
  have hbw : b < w2.heap.size := by omega
  go_wp2_with (go_at_call 189; refine (spread_any b off cap (w2.drewN nq) bs Hl.out hcap hcap2 hbw Hbs.out Hc2.out).mono ?_; rintro e w3 ⟨rfl, hb3⟩)
  have hk3 : BlkIs w3 w1.heap.size 150 (nums .u32 kTable) := (H.out.2.1.drewN nq).below hb3 H.out.2.1.lt
  have hbox3 := (H.out.1.drewN nq).below hb3 H.out.1.lt
  have hres3 := (H.out.2.2.2.drewN nq).below hb3 H.out.2.2.2.lt
  have hbe3 : Below w.heap.size w w3 := (below_drewN H.out.2.2.1 nq).trans (hb3.mono (by have := H.out.2.2.1.size; simpa using this))
  have H3 := Lib.hid (And.intro hk3 (And.intro hbox3 (And.intro hres3 hbe3)))
  clear hk3 hbox3 hres3 hbe3 hb3 H Hc2 Hc hz2 hz hbw d0 d1 d2 d3 d4 d5 d6 d7
  obtain ⟨ws, hws⟩ : ∃ ws, ws = words bs := ⟨_, rfl⟩
  have hwl : ws.length = 64 := by rw [hws, words_length]
  rw [← hws]
  have Hws := Lib.hid (And.intro hws hwl); clear hws hwl
  obtain ⟨i0, hi0, hz0, hz1, hz2⟩ := info_parts (show (Tryz.prog.info? 41).map (fun i => (i.zero, i.size, i.bytes)) = some (some (.int .u32 0), 1, 4) by kernel_rfl)
  have Hi0 := Lib.hid (And.intro hi0 hz1); clear hi0 hz0 hz1 hz2
  clear hinfo
  go_loopw [6, 7, 8, 9, 10, 11, 12, 13, 37] (fun a b c d e f g h i wr => ∃ (t : Nat) (z : St), t ≤ 64 ∧ i = .int .i64 t ∧ z = rounds ws t ⟨s1, s2, s3, s4, s5, s6, s7, s8⟩ ∧ z.isW ∧ DrawsOf w3 wr ∧
      a = .int .u32 z.a ∧ b = .int .u32 z.b ∧ c = .int .u32 z.c ∧ d = .int .u32 z.d ∧ e = .int .u32 z.e ∧ f = .int .u32 z.f ∧ g = .int .u32 z.g ∧ h = .int .u32 z.h) (fun _ _ _ _ _ _ _ _ i _ => 64 - (intOf i).toNat)
  case atStart => exact ⟨0, _, by omega, rfl, rfl, Hs.out, DrawsOf.refl _, rfl, rfl, rfl, rfl, rfl, rfl, rfl, rfl⟩
  case round =>
    obtain ⟨t, z, ht, rfl, hz, hzw, hdr, rfl, rfl, rfl, rfl, rfl, rfl, rfl, rfl⟩ := hrel
    obtain ⟨z1, z2, z3, z4, z5, z6, z7, z8⟩ := z
    have Hz := Lib.hid hz; clear hz
    have Hzw := Lib.hid hzw; clear hzw
    by_cases hlt : t < 64
    · have h1 : (t : Int) < 64 := by omega
      obtain ⟨wt, hwt⟩ : ∃ wt, wt = ws.getD t 0 := ⟨_, rfl⟩
      obtain ⟨kt, hkt⟩ : ∃ kt, kt = kTable.getD t 0 := ⟨_, rfl⟩
      have hidx := run_index_row (P := Tryz.prog) Tryz.underlying150 Hi0.out.1 Hi0.out.2 Tryz.underlying41 rfl (nums .u32 ws) .i64 t hlt (.int .u32 wt) (by rw [hwt]; exact nums_get _ _ _ (by rw [Hws.out.2]; exact hlt))
      have hkc : wr.cell? ⟨w1.heap.size, t, none⟩ = some (.int .u32 kt) := by
        rw [hdr.cell, H3.out.1.cell, hkt]; exact nums_get _ _ _ hlt
      have He : isW z5 := Hzw.out.2.2.2.2.1
      have Ha : isW z1 := Hzw.out.1
      have He0 := He.1
      have He1 := He.2
      have Hwt := Lib.hid (And.intro hwt hkt); clear hwt hkt
      have Hdr := Lib.hid hdr; clear hdr
      go_wp2
      go_quiet ((go_at_call 190; exact quiet_left (turned_any _ _ _ _ _ He (by omega) (by omega) (by omega) (by omega) (by omega) (by omega))))
      go_wp2_with (go_at_call 190; refine (turned_any _ _ _ _ _ Ha (by omega) (by omega) (by omega) (by omega) (by omega) (by omega)).mono ?_; rintro e w' ⟨rfl, rfl⟩)
      go_roundw
      case rel =>
        refine ⟨t + 1, round ⟨z1, z2, z3, z4, z5, z6, z7, z8⟩ kt wt, by omega, by go_num, ?_, ?_, Hdr.out.drewN _, ?_, rfl, rfl, rfl, ?_, rfl, rfl, rfl⟩
        · rw [Hwt.out.1, Hwt.out.2, Hz.out]; rfl
        · obtain ⟨q1, q2, q3, q4, q5, q6, q7, q8⟩ := Hzw.out
          refine ⟨?_, q1, q2, q3, ?_, q5, q6, q7⟩ <;> (unfold Sha.isW; simp only [round]; omega)
        · rfl
        · rfl
      case measure => simp [intOf]; omega
    · have ht64 : t = 64 := by omega
      have h1 : ¬ (t : Int) < 64 := by omega
      have hbox := Hid.out H3
      have d0 := (hdr.cell ⟨w.heap.size, 0, none⟩).trans (H3.out.2.1.cell 0)
      have d1 := (hdr.cell ⟨w.heap.size, 1, none⟩).trans (H3.out.2.1.cell 1)
      have d2 := (hdr.cell ⟨w.heap.size, 2, none⟩).trans (H3.out.2.1.cell 2)
      have d3 := (hdr.cell ⟨w.heap.size, 3, none⟩).trans (H3.out.2.1.cell 3)
      have d4 := (hdr.cell ⟨w.heap.size, 4, none⟩).trans (H3.out.2.1.cell 4)
      have d5 := (hdr.cell ⟨w.heap.size, 5, none⟩).trans (H3.out.2.1.cell 5)
      have d6 := (hdr.cell ⟨w.heap.size, 6, none⟩).trans (H3.out.2.1.cell 6)
      have d7 := (hdr.cell ⟨w.heap.size, 7, none⟩).trans (H3.out.2.1.cell 7)
      simp at d0 d1 d2 d3 d4 d5 d6 d7
      have hres := hdr.blk H3.out.2.2.1
      have hbe := H3.out.2.2.2.trans (hdr.below w.heap.size)
      have Hr := Lib.hid (And.intro hres hbe)
      have Ht := Lib.hid ht64
      clear hres hbe hdr ht64
      obtain ⟨fin, hfin⟩ : ∃ fin : List Int, fin = [(s1 + z1) % 4294967296, (s2 + z2) % 4294967296, (s3 + z3) % 4294967296, (s4 + z4) % 4294967296, (s5 + z5) % 4294967296, (s6 + z6) % 4294967296, (s7 + z7) % 4294967296, (s8 + z8) % 4294967296] := ⟨_, rfl⟩
      have hsz : fin.length = 8 := by rw [hfin]; rfl
      have hinfo2 : (Tryz.prog.info? 174).map (·.size) = some (nums .u32 fin).size := by rw [nums_size, hsz]; kernel_rfl
      have Hfin := Lib.hid hfin
      have Hsz := Lib.hid hsz
      clear hsz hfin
      go_wp2_with (refine wpList_store_row_to rfl 174 _ _ rfl (w.heap.size + 1) (nums .u32 fin) rfl (by rw [Hfin.out]; rfl) 174 _ Hr.out.1 hinfo2 (by rw [nums_size, nums_size, Hsz.out]; rfl) (nums_one _ _) ?_; intro w4 hb4 hg4)
      refine bodyPost_ret (results_cell_row rfl _ _ (w.heap.size + 1) 174 (nums .u32 fin) (0, 0) _ rfl hb4 Tryz.underlying174 rfl hinfo2) rfl ⟨?_, Hr.out.2.trans (grown_below hg4 (by omega) Hr.out.2.size)⟩
      rw [Hfin.out]
      have e := Hz.out
      rw [Ht.out, Hws.out.1] at e
      unfold mix
      rw [← e]
      rfl
end Go.Proofs.YtljenganlknhbaaGreat.Sha

