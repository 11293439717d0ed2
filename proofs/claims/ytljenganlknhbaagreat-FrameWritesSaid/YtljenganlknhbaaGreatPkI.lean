/- Several texts in one. (Layer 19.) -/
import Derived.Lib.Hide
import Derived.Test.YtljenganlknhbaaGreatPkB
import Derived.Test.YtljenganlknhbaaGreatPkC
import Derived.Deep.CutRange
/- The check of layer 4, plain: a bit's step, and four of them by a table of sixteen. No conditions, no program's code. -/
namespace Go.Proofs.YtljenganlknhbaaGreat.Crc
/-- One bit of the check. -/
def step (c : Nat) : Nat := if c % 2 = 1 then (c / 2) ^^^ 2197175160 else c / 2
theorem step_xor (a b : Nat) : step (a ^^^ b) = step a ^^^ step b := by
  unfold step
  rw [Nat.xor_div_two]
  have h : (a ^^^ b) % 2 = (a % 2) ^^^ (b % 2) := Nat.xor_mod_two_pow (n := 1)
  rcases Nat.mod_two_eq_zero_or_one a with ha | ha <;> rcases Nat.mod_two_eq_zero_or_one b with hb | hb <;> rw [h, ha, hb] <;> simp
  · rw [Nat.xor_assoc]
  · rw [Nat.xor_assoc, Nat.xor_comm (b / 2), Nat.xor_assoc]
  · rw [Nat.xor_assoc, ← Nat.xor_assoc 2197175160, Nat.xor_comm 2197175160, Nat.xor_assoc, Nat.xor_self, Nat.xor_zero]
theorem step_even (m : Nat) : step (2 * m) = m := by
  unfold step
  rw [if_neg (by omega)]
  omega
def step4 (c : Nat) : Nat := step (step (step (step c)))
theorem step4_xor (a b : Nat) : step4 (a ^^^ b) = step4 a ^^^ step4 b := by unfold step4; simp only [step_xor]
theorem step4_16 (q : Nat) : step4 (16 * q) = q := by
  unfold step4
  rw [show 16 * q = 2 * (2 * (2 * (2 * q))) by omega, step_even, step_even, step_even, step_even]
theorem split16 (c : Nat) : c = (16 * (c / 16)) ^^^ (c % 16) := by
  apply Nat.eq_of_testBit_eq
  intro i
  rw [Nat.testBit_xor, show 16 * (c / 16) = 2 ^ 4 * (c / 2 ^ 4) from rfl, Nat.testBit_two_pow_mul, show c % 16 = c % 2 ^ 4 from rfl, Nat.testBit_mod_two_pow, Nat.testBit_div_two_pow]
  by_cases h : i < 4
  · have : ¬ 4 ≤ i := by omega
    simp [h, this]
  · have : 4 ≤ i := by omega
    simp [h, this]
theorem step4_nib (c : Nat) : step4 c = (c / 16) ^^^ step4 (c % 16) := by
  conv => lhs; rw [split16 c, step4_xor, step4_16]
theorem step_lt {c : Nat} (h : c < 4294967296) : step c < 4294967296 := by
  unfold step
  split
  · exact Nat.xor_lt_two_pow (n := 32) (by omega) (by decide)
  · omega
theorem step4_lt {c : Nat} (h : c < 4294967296) : step4 c < 4294967296 := step_lt (step_lt (step_lt (step_lt h)))
end Go.Proofs.YtljenganlknhbaaGreat.Crc

/- Packs, plain: what Make writes, what Read and Find look at. No conditions, no program's code. (Layer 07.) -/
namespace Go.Proofs.YtljenganlknhbaaGreat.Pak
set_option linter.unusedVariables false
open Oct (le32 val)
/-- An object: its id, its bytes. -/
abbrev It := ByteArray × ByteArray
/-- The digest of bytes. -/
def sumS (s : ByteArray) : ByteArray := ⟨(Sha.sum s.data.toList).toArray⟩
/-- The check of bytes. -/
def crc (l : List UInt8) : Nat := 4294967295 - l.foldl (fun c b => Crc.step4 (Crc.step4 (c ^^^ b.toNat))) 4294967295
theorem crc_lt (l : List UInt8) : crc l < 4294967296 := by unfold crc; omega
def first (s : ByteArray) : Nat := (s.data.toList.headD 0).toNat
/-- How many ids have a first byte of b or below. -/
def fanN (ids : List ByteArray) (b : Nat) : Nat := ids.countP fun s => decide (first s ≤ b)
def fanB (ids : List ByteArray) (n : Nat) : List UInt8 := (List.range n).flatMap fun b => le32 (fanN ids b)
def rowB (at_ : Nat) (x : It) : List UInt8 := x.1.data.toList ++ le32 at_ ++ le32 x.2.size ++ le32 (crc x.2.data.toList)
def indexB : Nat → List It → List UInt8
  | _, [] => []
  | a, x :: r => rowB a x ++ indexB (a + x.2.size) r
def dataB (L : List It) : List UInt8 := L.flatMap fun x => x.2.data.toList
def magic : List UInt8 := [114, 101, 108, 105, 99, 48, 48, 49]
def bodyB (L : List It) : List UInt8 := magic ++ le32 L.length ++ fanB (L.map (·.1)) 256 ++ indexB 0 L ++ dataB L
def packB (L : List It) : List UInt8 := bodyB L ++ Sha.sum (bodyB L)
theorem indexB_snoc : ∀ (L : List It) (a : Nat) (x : It), indexB a (L ++ [x]) = indexB a L ++ rowB (a + (dataB L).length) x
  | [], a, x => by simp [indexB, dataB]
  | y :: r, a, x => by
    have h := indexB_snoc r (a + y.2.size) x
    have e : (dataB (y :: r)).length = y.2.size + (dataB r).length := by
      have : y.2.data.toList.length = y.2.size := by rw [Array.length_toList]; rfl
      simp only [dataB, List.flatMap_cons, List.length_append, this]
    rw [List.cons_append, indexB, h, indexB, e, List.append_assoc, Nat.add_assoc]
theorem dataB_snoc (L : List It) (x : It) : dataB (L ++ [x]) = dataB L ++ x.2.data.toList := by simp [dataB]
/-- One id stands below another one. -/
def lowI (x y : It) : Prop := x.1.data.toList < y.1.data.toList
def total (l : List ByteArray) : Nat := (l.map (·.size)).sum
def itemsOf (l : List ByteArray) : List It := l.map fun s => (sumS s, s)
/-- What Make answers, of at most 1024 objects: the error, the bytes. -/
inductive MakeIs (l : List ByteArray) : Int → List UInt8 → Prop
  | none_ (h : l = []) : MakeIs l 1 []
  | long (h0 : l ≠ []) (h : ∃ s ∈ l, 131072 < s.size) : MakeIs l 5 []
  | twice (h0 : l ≠ []) (h1 : ∀ s ∈ l, s.size ≤ 131072) (h : ¬ (l.map sumS).Nodup) : MakeIs l 31 []
  | ok (L : List It) (h0 : l ≠ []) (h1 : ∀ s ∈ l, s.size ≤ 131072) (hp : L.Perm (itemsOf l)) (hs : L.Pairwise lowI) : MakeIs l 0 (packB L)
theorem low_irrefl (x : It) : ¬ lowI x x := List.lt_irrefl _
theorem low_trans {x y z : It} (h1 : lowI x y) (h2 : lowI y z) : lowI x z := List.lt_trans h1 h2
theorem rises_unique {l m : List It} (hl : l.Pairwise lowI) (hm : m.Pairwise lowI) (h : l.Perm m) : l = m :=
  List.Perm.eq_of_pairwise (le := lowI) (fun a b _ _ h1 h2 => absurd (low_trans h1 h2) (low_irrefl _)) hl hm h
theorem nodup_of_rises {l : List ByteArray} {L : List It} (hp : L.Perm (itemsOf l)) (hs : L.Pairwise lowI) : (l.map sumS).Nodup := by
  have h1 : (L.map (·.1)).Nodup := by
    rw [List.Nodup, List.pairwise_map]
    exact hs.imp fun h e => by unfold lowI at h; rw [e] at h; exact List.lt_irrefl _ h
  have h2 : (L.map (·.1)).Perm (l.map sumS) := by
    have := hp.map (·.1)
    unfold itemsOf at this
    rwa [List.map_map] at this
  exact h2.nodup_iff.1 h1
theorem make_unique {l m : List ByteArray} (hlm : l.Perm m) {e1 e2 : Int} {b1 b2 : List UInt8} (h1 : MakeIs l e1 b1) (h2 : MakeIs m e2 b2) : e1 = e2 ∧ b1 = b2 := by
  have hnil : l = [] ↔ m = [] := ⟨fun h => by subst h; exact List.nil_perm.1 hlm, fun h => by subst h; exact List.perm_nil.1 hlm⟩
  have hsz : (∀ s ∈ l, s.size ≤ 131072) ↔ (∀ s ∈ m, s.size ≤ 131072) := ⟨fun h s hs => h s (hlm.mem_iff.2 hs), fun h s hs => h s (hlm.mem_iff.1 hs)⟩
  have hlong : ∀ {k : List ByteArray}, (∃ s ∈ k, 131072 < s.size) → ¬ ∀ s ∈ k, s.size ≤ 131072 := fun ⟨s, hs, h⟩ h' => by have := h' s hs; omega
  have hnd : (l.map sumS).Nodup ↔ (m.map sumS).Nodup := (hlm.map sumS).nodup_iff
  cases h1 with
  | none_ h => cases h2 with
    | none_ _ => exact ⟨rfl, rfl⟩
    | long h0 _ => exact absurd (hnil.1 h) h0
    | twice h0 _ _ => exact absurd (hnil.1 h) h0
    | ok L h0 _ _ _ => exact absurd (hnil.1 h) h0
  | long h0 h => cases h2 with
    | none_ h' => exact absurd (hnil.2 h') h0
    | long _ _ => exact ⟨rfl, rfl⟩
    | twice _ h1 _ => exact absurd (hsz.2 h1) (hlong h)
    | ok L _ h1 _ _ => exact absurd (hsz.2 h1) (hlong h)
  | twice h0 h1 h => cases h2 with
    | none_ h' => exact absurd (hnil.2 h') h0
    | long _ h' => exact absurd (hsz.1 h1) (hlong h')
    | twice _ _ _ => exact ⟨rfl, rfl⟩
    | ok L _ _ hp hs => exact absurd (hnd.2 (nodup_of_rises hp hs)) h
  | ok L h0 h1 hp hs => cases h2 with
    | none_ h' => exact absurd (hnil.2 h') h0
    | long _ h' => exact absurd (hsz.1 h1) (hlong h')
    | twice _ _ h' => exact absurd (hnd.1 (nodup_of_rises hp hs)) h'
    | ok L' _ _ hp' hs' =>
      have : L = L' := rises_unique hs hs' (hp.trans ((hlm.map _).trans hp'.symm))
      rw [this]
      exact ⟨rfl, rfl⟩
/-- The number that stands at a place. -/
def nAt (s : List UInt8) (k : Nat) : Nat := val ((s.drop k).take 4)
def idAt (s : List UInt8) (i : Nat) : List UInt8 := (s.drop (1036 + 44 * i)).take 32
def atAt (s : List UInt8) (i : Nat) : Nat := nAt s (1036 + 44 * i + 32)
def szAt (s : List UInt8) (i : Nat) : Nat := nAt s (1036 + 44 * i + 36)
def ckAt (s : List UInt8) (i : Nat) : Nat := nAt s (1036 + 44 * i + 40)
def sumTo (s : List UInt8) : Nat → Nat
  | 0 => 0
  | k + 1 => sumTo s k + szAt s k
def many (s : List UInt8) : Nat := nAt s 8
def dataAt (s : List UInt8) (i : Nat) : List UInt8 := (s.drop (1036 + 44 * many s + sumTo s i)).take (szAt s i)
def idsOf (s : List UInt8) (n : Nat) : List ByteArray := (List.range n).map fun i => ⟨(idAt s i).toArray⟩
/-- The head is right: the program's count. -/
structure Headed (s : List UInt8) : Prop where
  magic : s.take 8 = magic
  one : 1 ≤ many s
  most : many s ≤ 1024
  fits : 1036 + 44 * many s + 32 ≤ s.length
/-- The form is right. -/
structure Shaped (s : List UInt8) : Prop where
  head : Headed s
  ats : ∀ i, i < many s → atAt s i = sumTo s i
  szs : ∀ i, i < many s → szAt s i ≤ 131072
  rise : ∀ i, i + 1 < many s → idAt s i < idAt s (i + 1)
  whole : 1036 + 44 * many s + sumTo s (many s) + 32 = s.length
  fan : ∀ b, b < 256 → nAt s (12 + 4 * b) = fanN (idsOf s (many s)) b
def Right (s : List UInt8) : Prop := ∀ i, i < many s → crc (dataAt s i) = ckAt s i ∧ Sha.sum (dataAt s i) = idAt s i
def readL (s : List UInt8) : List It := (List.range (many s)).map fun i => (⟨(idAt s i).toArray⟩, ⟨(dataAt s i).toArray⟩)
/-- What Read answers, of at most 4,194,304 bytes. -/
inductive ReadIs (s : List UInt8) : Int → List It → Prop
  | short (h : s.length < 1112) : ReadIs s 3 []
  | sum (h0 : 1112 ≤ s.length) (h : Sha.sum (s.take (s.length - 32)) ≠ s.drop (s.length - 32)) : ReadIs s 20 []
  | form (h0 : 1112 ≤ s.length) (h1 : Sha.sum (s.take (s.length - 32)) = s.drop (s.length - 32)) (h : ¬ Shaped s) : ReadIs s 4 []
  | wrong (h0 : 1112 ≤ s.length) (h1 : Sha.sum (s.take (s.length - 32)) = s.drop (s.length - 32)) (h2 : Shaped s) (h : ¬ Right s) : ReadIs s 20 []
  | ok (h0 : 1112 ≤ s.length) (h1 : Sha.sum (s.take (s.length - 32)) = s.drop (s.length - 32)) (h2 : Shaped s) (h : Right s) : ReadIs s 0 (readL s)
theorem read_unique {s : List UInt8} {e1 e2 : Int} {l1 l2 : List It} (h1 : ReadIs s e1 l1) (h2 : ReadIs s e2 l2) : e1 = e2 ∧ l1 = l2 := by
  cases h1 <;> cases h2 <;> first | exact ⟨rfl, rfl⟩ | (exfalso; first | omega | contradiction)
end Go.Proofs.YtljenganlknhbaaGreat.Pak

/- crc.table, crc.Sum and the reference's, walked: the check of bytes. No conditions but that a string fits. (Layer 04.) -/
namespace Go.Proofs.YtljenganlknhbaaGreat.Pak
set_option linter.unusedVariables false
open Go.RowKit Go.Lib
def stepN : Nat → Nat → Nat
  | 0, c => c
  | k + 1, c => Crc.step (stepN k c)
theorem stepN_lt : ∀ (k c : Nat), c < 4294967296 → stepN k c < 4294967296
  | 0, c, h => h
  | k + 1, c, h => Crc.step_lt (stepN_lt k c h)
theorem step_bits (c : Nat) (h : c < 4294967296) : bits .xor .u32 ((c : Int) / 2) ((2197175160 * bits .and .u32 (c : Int) 1) % 4294967296) = ((Crc.step c : Nat) : Int) := by
  have e1 : bits .and .u32 (c : Int) 1 = ((c % 2 : Nat) : Int) := by
    have := u32_and_nat c 1 h (by decide)
    rw [show ((1 : Nat) : Int) = 1 from rfl] at this
    rw [this, Nat.and_one_is_mod]
  rw [e1]
  unfold Crc.step
  rcases Nat.mod_two_eq_zero_or_one c with h2 | h2
  · rw [h2, if_neg (by decide)]
    have := u32_xor_nat (c / 2) 0 (by omega) (by decide)
    rw [Nat.xor_zero] at this
    rw [← this]
    congr 1
  · rw [h2, if_pos rfl]
    have := u32_xor_nat (c / 2) 2197175160 (by omega) (by decide)
    rw [← this]
    congr 1
/-- The table's cells: of the first n. -/
def tabCells (n : Nat) : List Int := (List.range 16).map fun i => if i < n then (Crc.step4 i : Int) else 0
theorem tabCells_length (n : Nat) : (tabCells n).length = 16 := by simp [tabCells]
theorem tabCells_get (n i : Nat) (h : i < 16) : (tabCells n).getD i 0 = if i < n then (Crc.step4 i : Int) else 0 := by
  simp [tabCells, List.getD, h]
theorem tabCells_set (n : Nat) (h : n < 16) : (tabCells n).set n (Crc.step4 n : Int) = tabCells (n + 1) := by
  apply List.ext_getElem?
  intro j
  unfold tabCells
  rw [List.getElem?_set, List.getElem?_map, List.getElem?_map, List.length_map, List.length_range]
  by_cases e : n = j
  · subst e
    simp [h]
  · rw [if_neg e]
    by_cases hj : j < 16
    · simp only [List.getElem?_range hj, Option.map_some]
      congr 1
      by_cases h1 : j < n
      · rw [if_pos h1, if_pos (by omega)]
      · rw [if_neg h1, if_neg (by omega)]
    · simp [hj]
set_option maxRecDepth 100000 in
theorem table_any (w : World) : Calls Tryz.prog 114 #[] w fun e w' => e = .returned (.agg (nums .u32 (tabCells 16))) ∧ Below w.heap.size w w' := by
  have H0 := Lib.hid (show ∃ W, W = w.alloc (.cells #[.int .u32 0, .int .u32 0, .int .u32 0, .int .u32 0, .int .u32 0, .int .u32 0, .int .u32 0, .int .u32 0, .int .u32 0, .int .u32 0, .int .u32 0, .int .u32 0, .int .u32 0, .int .u32 0, .int .u32 0, .int .u32 0] 128) ∧
      BlkIs W w.heap.size 128 (nums .u32 (tabCells 0)) ∧ Below w.heap.size w W from ⟨_, rfl, BlkIs.new _ _ _, (Below.refl _ _).alloc (Nat.le_refl _) _⟩)
  go_enter Tryz.func114, Tryz.ntmps114
  go_wp2_with fail
  obtain ⟨W, hW, H0⟩ := H0.out
  rw [← hW]
  have H0 := Lib.hid H0
  clear hW
  go_loopw [3] (fun i wr => ∃ k : Nat, i = .int .i64 (k : Int) ∧ k ≤ 16 ∧ Hid (BlkIs wr w.heap.size 128 (nums .u32 (tabCells k)) ∧ Below w.heap.size w wr)) (fun i _ => ((16 : Int) - intOf i).toNat)
  case atStart => exact ⟨0, rfl, by omega, H0⟩
  case round =>
    obtain ⟨i, rfl, hi, HR⟩ := hrel
    clear H0
    obtain ⟨W1, hW1⟩ : ∃ W1, W1 = wr := ⟨_, rfl⟩
    subst hW1
    rcases Nat.lt_or_ge i 16 with hi1 | hi1
    · have ki : (i : Int) < 16 := by omega
      go_wp2_with fail
      go_loopw [2, 8] (fun c j wr => ∃ k : Nat, j = .int .i64 (k : Int) ∧ k ≤ 4 ∧ c = .int .u32 ((stepN k i : Nat) : Int) ∧ W1 = wr) (fun _ j _ => ((4 : Int) - intOf j).toNat)
      case atStart => exact ⟨0, rfl, by omega, rfl, rfl⟩
      case round =>
        obtain ⟨k, rfl, hk, rfl, rfl⟩ := hrel
        have hlt := stepN_lt k i (by omega)
        rcases Nat.lt_or_ge k 4 with hk1 | hk1
        · have kj : (k : Int) < 4 := by omega
          have hs : stepN (k + 1) i = Crc.step (stepN k i) := rfl
          have HD := Lib.hid hs
          clear hs
          generalize stepN k i = c at *
          have HS := Lib.hid (step_bits c hlt)
          go_wp2_with fail
          refine ⟨⟨k + 1, rfl, hk1, ?_, trivial⟩, ?_⟩
          · rw [HD.out, HS.out]
          · simp [intOf]
            omega
        · obtain rfl : k = 4 := by omega
          have hs : stepN 4 i = Crc.step4 i := rfl
          rw [hs] at hlt ⊢
          have HT := Lib.hid (tabCells_set i hi1)
          generalize Crc.step4 i = c at *
          clear hs
          have f0 := HR.out.1.free i
          have c0 : W1.cell? ⟨w.heap.size, i, none⟩ = some (.int .u32 ((tabCells i).getD i 0)) := by rw [HR.out.1.cell, nums_get _ _ _ (by rw [tabCells_length]; exact hi1)]
          go_wp2_with fail
          refine ⟨⟨i + 1, rfl, hi1, Lib.hid ⟨?_, HR.out.2.setCell (Nat.le_refl _) _⟩⟩, ?_⟩
          · rw [← HT.out, ← nums_set]
            exact HR.out.1.put i _
          · simp [intOf]
            omega
    · obtain rfl : i = 16 := by omega
      obtain ⟨cs, hcs⟩ : ∃ cs, cs = nums .u32 (tabCells 16) := ⟨_, rfl⟩
      have hsz : cs.size = 16 := by rw [hcs, nums_size, tabCells_length]
      have hinfo : (Tryz.prog.info? 128).map (·.size) = some cs.size := by rw [hsz]; kernel_rfl
      have h1c : cs.all (·.oneCell') = true := by rw [hcs]; exact nums_one _ _
      rw [← hcs] at HR
      have hblk := HR.out.1
      have Hcs := Lib.hid hcs
      clear hcs
      go_wp2_with (first
        | (refine wpList_load_row rfl 128 _ rfl w.heap.size rfl 128 cs (0, 0) _ hblk Tryz.underlying128 rfl hinfo ?_)
        | (refine wpList_store_row rfl 128 _ _ rfl w.heap.size cs rfl rfl 128 cs hblk hinfo rfl h1c ?_))
      refine bodyPost_ret (results_cell_row rfl _ _ w.heap.size 128 cs (0, 0) _ rfl (hblk.row cs) Tryz.underlying128 rfl hinfo) rfl ⟨by rw [Hcs.out], below_row HR.out.2 (Nat.le_refl _) _⟩
/-- One byte's turn of the check. -/
def turnC (c : Nat) (b : UInt8) : Nat := Crc.step4 (Crc.step4 (c ^^^ b.toNat))
theorem turnC_lt {c : Nat} (b : UInt8) (h : c < 4294967296) : turnC c b < 4294967296 :=
  Crc.step4_lt (Crc.step4_lt (Nat.xor_lt_two_pow (n := 32) h (by have := b.toNat_lt; omega)))
def foldC (c : Nat) (l : List UInt8) : Nat := l.foldl turnC c
theorem foldC_lt : ∀ (l : List UInt8) (c : Nat), c < 4294967296 → foldC c l < 4294967296
  | [], c, h => h
  | b :: r, c, h => foldC_lt r _ (turnC_lt b h)
theorem foldC_snoc (l : List UInt8) (c : Nat) (b : UInt8) : foldC c (l ++ [b]) = turnC (foldC c l) b := by simp [foldC]
theorem crc_val (l : List UInt8) : crc l = 4294967295 - foldC 4294967295 l := rfl
theorem nib_bits (c : Nat) (h : c < 4294967296) : bits .xor .u32 ((c : Int) / 16) ((Crc.step4 (c % 16) : Nat) : Int) = ((Crc.step4 c : Nat) : Int) := by
  have h1 := Crc.step4_lt (c := c % 16) (by omega)
  have := u32_xor_nat (c / 16) (Crc.step4 (c % 16)) (by omega) h1
  rw [Crc.step4_nib c, ← this]
  congr 1
theorem low_bits (c : Nat) (h : c < 4294967296) : bits .and .u32 (c : Int) 15 = ((c % 16 : Nat) : Int) := by
  have := u32_and_nat c 15 h (by decide)
  rw [show ((15 : Nat) : Int) = 15 from rfl] at this
  rw [this]
  congr 1
  exact Nat.and_two_pow_sub_one_eq_mod c 4
theorem byte_bits (c : Nat) (b : UInt8) (h : c < 4294967296) : bits .xor .u32 (c : Int) ((b.toNat : Nat) : Int) = ((c ^^^ b.toNat : Nat) : Int) :=
  u32_xor_nat c b.toNat h (by have := b.toNat_lt; omega)
theorem not_bits (c : Nat) (h : c < 4294967296) : bits .xor .u32 4294967295 (c : Int) = ((4294967295 - c : Nat) : Int) := by
  have := u32_xor_nat 4294967295 c (by decide) h
  rw [show ((4294967295 : Nat) : Int) = 4294967295 from rfl] at this
  rw [this]
  congr 1
  apply Nat.eq_of_testBit_eq
  intro i
  have e : 4294967295 - c = 2 ^ 32 - (c + 1) := by omega
  rw [e, Nat.testBit_two_pow_sub_succ (by omega), Nat.testBit_xor, show 4294967295 = 2 ^ 32 - 1 from rfl, Nat.testBit_two_pow_sub_one]
  by_cases hi : i < 32
  · simp [hi]
  · have : c.testBit i = false := Nat.testBit_lt_two_pow (Nat.lt_of_lt_of_le (by omega : c < 2 ^ 32) (Nat.pow_le_pow_right (by decide) (by omega)))
    simp [hi, this]
set_option maxRecDepth 100000 in
theorem more_any (s : ByteArray) (w : World) (hs : s.size ≤ 140737488355328) : Calls Tryz.prog 67 #[.int .u32 0, .string s] w fun e w' => e = .returned (.int .u32 ((crc s.data.toList : Nat) : Int)) ∧ Below w.heap.size w w' := by
  have hinfo : (Tryz.prog.info? 128).map (·.size) = some (nums .u32 (tabCells 16)).size := by kernel_rfl
  have hsz : (nums .u32 (tabCells 16)).size = 16 := by rw [nums_size, tabCells_length]
  have h1c := nums_one .u32 (tabCells 16)
  have hget : ∀ i, i < 16 → (nums .u32 (tabCells 16))[i]? = some (.int .u32 ((Crc.step4 i : Nat) : Int)) := fun i hi => by
    rw [nums_get _ _ _ (by rw [tabCells_length]; exact hi), tabCells_get _ _ hi, if_pos hi]
  have T := Lib.hid table_any
  generalize nums .u32 (tabCells 16) = cs at *
  have HG := Lib.hid hget
  clear hget
  go_enter Tryz.func67, Tryz.ntmps67
  go_wp2_with fail
  refine (T.out _).mono ?_
  rintro e w1 ⟨rfl, hb1⟩
  clear T
  go_wp2_with (refine wpList_store_row_to rfl 128 _ _ rfl w1.heap.size cs rfl rfl 128 _ (BlkIs.new _ _ _) hinfo (by rw [hsz]; rfl) h1c ?_
               intro w2 hk2 hg2
               have hbe2 : Below w.heap.size w w2 := hb1.trans (((Below.refl w.heap.size w1).alloc hb1.size _).trans (grown_below hg2 hb1.size (by simp only [World.size_alloc]; have := hb1.size; omega)))
               obtain ⟨ao, cap, w3, hrun, hsl, hg3⟩ := run_bytes_sl (P := Tryz.prog) w2 9 43 5 s Tryz.underlying9 Tryz.underlying43 Tryz.underlying5 (by unfold maxLen; omega)
               have H2 := Lib.hid (And.intro (BlkIs.grown hk2 hg3 (by simp)) (And.intro hsl (hbe2.trans ((Below.refl w.heap.size w2).grown hg3 hbe2.size (fun k hk => by cases hk)))))
               clear hk2 hbe2 hg2 hb1 hsl hg3)
  clear hrun
  go_loopw [6, 15] (fun c i wr => ∃ k : Nat, i = .int .i64 (k : Int) ∧ k ≤ s.size ∧ c = .int .u32 ((foldC 4294967295 (s.data.toList.take k) : Nat) : Int) ∧ w3 = wr) (fun _ i _ => ((s.size : Int) - intOf i).toNat)
  case atStart =>
    refine ⟨0, rfl, by omega, ?_, rfl⟩
    show Value.int .u32 (bits BinOp.xor IntKind.u32 IntKind.u32.max 0) = .int .u32 4294967295
    congr 1
  case round =>
    obtain ⟨k, rfl, hk, rfl, rfl⟩ := hrel
    have hc := foldC_lt (s.data.toList.take k) 4294967295 (by decide)
    rcases Nat.lt_or_ge k s.size with hk1 | hk1
    · have ki : (k : Int) < s.size := by omega
      have hkl : k < s.data.toList.length := by rw [Array.length_toList]; exact hk1
      obtain ⟨bb, off, cap3, hv3, hbB, hbw, hnc3, hcm3, hcell, hfree⟩ := H2.out.2.1.at_ (by omega)
      injection hv3 with e1 _ e3
      subst e1 e3
      have d0 := hcell k (by rw [bcells_length]; exact hkl)
      have e0 : (bcells s.data.toList)[k]? = some (.int .u8 (s.data.toList[k]).toNat) := by rw [bcells, List.getElem?_map, List.getElem?_eq_getElem hkl]; rfl
      rw [e0] at d0
      have hf := foldC_snoc (s.data.toList.take k) 4294967295 s.data.toList[k]
      rw [← List.take_succ_eq_append_getElem hkl] at hf
      have HF := Lib.hid hf
      generalize foldC 4294967295 (s.data.toList.take k) = c at *
      generalize s.data.toList[k] = b at *
      have hb := b.toNat_lt
      obtain ⟨c1, hc1⟩ : ∃ c1, c1 = c ^^^ b.toNat := ⟨_, rfl⟩
      have l1 : c1 < 4294967296 := by rw [hc1]; exact Nat.xor_lt_two_pow (n := 32) hc (by omega)
      have g1 := byte_bits c b hc
      rw [← hc1] at g1
      obtain ⟨r1, hr1⟩ : ∃ r1, r1 = c1 % 16 := ⟨_, rfl⟩
      have m1 : r1 < 16 := by omega
      have g2 := low_bits c1 l1
      rw [← hr1] at g2
      obtain ⟨c2, hc2⟩ : ∃ c2, c2 = Crc.step4 c1 := ⟨_, rfl⟩
      have l2 : c2 < 4294967296 := by rw [hc2]; exact Crc.step4_lt l1
      have g3 := nib_bits c1 l1
      rw [← hr1, ← hc2] at g3
      obtain ⟨r2, hr2⟩ : ∃ r2, r2 = c2 % 16 := ⟨_, rfl⟩
      have m2 : r2 < 16 := by omega
      have g4 := low_bits c2 l2
      rw [← hr2] at g4
      obtain ⟨c3, hc3⟩ : ∃ c3, c3 = Crc.step4 c2 := ⟨_, rfl⟩
      have g5 := nib_bits c2 l2
      rw [← hr2, ← hc3] at g5
      have t1 : w3.cell? ⟨w1.heap.size, r1, none⟩ = some (.int .u32 ((Crc.step4 r1 : Nat) : Int)) := by rw [H2.out.1.cell, HG.out r1 m1]
      have t2 : w3.cell? ⟨w1.heap.size, r2, none⟩ = some (.int .u32 ((Crc.step4 r2 : Nat) : Int)) := by rw [H2.out.1.cell, HG.out r2 m2]
      have g0 : ((b.toNat : Nat) : Int) % 4294967296 = b.toNat := by omega
      have HC := Lib.hid (show c3 = turnC c b from by rw [hc3, hc2, hc1]; rfl)
      have q1 : (r1 : Int) < 16 := by omega
      have q2 : (r2 : Int) < 16 := by omega
      clear hcell hfree hf e0 hc1 hc2 hc3 hr1 hr2 hkl
      go_wp2_with fail
      refine ⟨⟨k + 1, rfl, hk1, ?_, trivial⟩, ?_⟩
      · rw [HC.out, ← HF.out]
      · simp [intOf]
        omega
    · have ki : (s.size : Int) ≤ (k : Int) := by omega
      obtain rfl : k = s.size := by omega
      have hl : s.data.toList.take s.size = s.data.toList := List.take_of_length_le (by rw [Array.length_toList]; exact Nat.le_refl _)
      rw [hl] at hc ⊢
      have HCV := Lib.hid (crc_val s.data.toList)
      generalize foldC 4294967295 s.data.toList = c at *
      have g1 := not_bits c hc
      clear hl
      go_wp2_with fail
      go_ret
      refine ⟨?_, H2.out.2.2⟩
      show Ending.returned (Value.int .u32 (bits BinOp.xor IntKind.u32 IntKind.u32.max (c : Int))) = _
      rw [HCV.out, ← g1]
      rfl
theorem crcsum_any (s : ByteArray) (w : World) (hs : s.size ≤ 140737488355328) : Calls Tryz.prog 18 #[.string s] w fun e w' => e = .returned (.int .u32 ((crc s.data.toList : Nat) : Int)) ∧ Below w.heap.size w w' := by
  have M := Lib.hid (more_any s w hs)
  go_enter Tryz.func18, Tryz.ntmps18
  go_wp2_with fail
  refine M.out.mono ?_
  rintro e w1 ⟨rfl, hb1⟩
  have H := Lib.hid hb1
  clear hb1 M
  go_wp2_with fail
  go_ret
  exact ⟨rfl, H.out⟩
theorem step_odd (c : Nat) (h : c < 4294967296) (h2 : c % 2 = 1) : bits .xor .u32 ((c : Int) / 2) 2197175160 = ((Crc.step c : Nat) : Int) := by
  unfold Crc.step
  rw [if_pos h2]
  have := u32_xor_nat (c / 2) 2197175160 (by omega) (by decide)
  rw [← this]
  congr 1
theorem step_ev (c : Nat) (h2 : ¬ c % 2 = 1) : ((c : Int) / 2) = ((Crc.step c : Nat) : Int) := by
  unfold Crc.step
  rw [if_neg h2]
  rfl
theorem rmore_any (s : ByteArray) (w : World) (hs : s.size ≤ 140737488355328) : Calls Tryz.prog 76 #[.int .u32 0, .string s] w fun e w' => e = .returned (.int .u32 ((crc s.data.toList : Nat) : Int)) ∧ w = w' := by
  go_enter Tryz.func76, Tryz.ntmps76
  go_wp2_with fail
  go_loopw [5, 6] (fun c i wr => ∃ k : Nat, i = .int .i64 (k : Int) ∧ k ≤ s.size ∧ c = .int .u32 ((foldC 4294967295 (s.data.toList.take k) : Nat) : Int) ∧ w = wr) (fun _ i _ => ((s.size : Int) - intOf i).toNat)
  case atStart =>
    refine ⟨0, rfl, by omega, ?_, rfl⟩
    show Value.int .u32 (bits BinOp.xor IntKind.u32 IntKind.u32.max 0) = .int .u32 4294967295
    congr 1
  case round =>
    obtain ⟨k, rfl, hk, rfl, rfl⟩ := hrel
    have hc := foldC_lt (s.data.toList.take k) 4294967295 (by decide)
    rcases Nat.lt_or_ge k s.size with hk1 | hk1
    · have ki : (k : Int) < s.size := by omega
      have hkl : k < s.data.toList.length := by rw [Array.length_toList]; exact hk1
      have hf := foldC_snoc (s.data.toList.take k) 4294967295 s.data.toList[k]
      rw [← List.take_succ_eq_append_getElem hkl] at hf
      have HF := Lib.hid hf
      generalize foldC 4294967295 (s.data.toList.take k) = c at *
      have hsb : s.data.toList[k] = s[k] := rfl
      rw [hsb] at HF
      generalize hbb : s[k] = b at *
      have hb := b.toNat_lt
      obtain ⟨c1, hc1⟩ : ∃ c1, c1 = c ^^^ b.toNat := ⟨_, rfl⟩
      have l1 : c1 < 4294967296 := by rw [hc1]; exact Nat.xor_lt_two_pow (n := 32) hc (by omega)
      have g1 := byte_bits c b hc
      rw [← hc1] at g1
      have HC := Lib.hid hc1
      have g0 : ((b.toNat : Nat) : Int) % 4294967296 = b.toNat := by omega
      clear hf hsb hc1
      go_wp2_with fail
      go_loopw [5, 7] (fun c j wr => ∃ m : Nat, j = .int .i64 (m : Int) ∧ m ≤ 8 ∧ c = .int .u32 ((stepN m c1 : Nat) : Int) ∧ w = wr) (fun _ j _ => ((8 : Int) - intOf j).toNat)
      case atStart => exact ⟨0, rfl, by omega, rfl, rfl⟩
      case round =>
        obtain ⟨m, rfl, hm, rfl, rfl⟩ := hrel
        have hlt := stepN_lt m c1 l1
        rcases Nat.lt_or_ge m 8 with hm1 | hm1
        · have mj : (m : Int) < 8 := by omega
          have hs : stepN (m + 1) c1 = Crc.step (stepN m c1) := rfl
          generalize stepN m c1 = d at *
          have HD := Lib.hid hs
          clear hs
          by_cases h2 : d % 2 = 1
          · have e1 : ((d : Int) % 2 == 1) = true := by simp; omega
            have HS := Lib.hid (step_odd d hlt h2)
            go_wp2_with fail
            refine ⟨⟨m + 1, rfl, hm1, ?_, trivial⟩, ?_⟩
            · rw [HD.out, HS.out]
            · simp [intOf]
              omega
          · have e1 : ((d : Int) % 2 == 1) = false := by simp; omega
            have HS := Lib.hid (step_ev d h2)
            go_wp2_with fail
            refine ⟨⟨m + 1, rfl, hm1, ?_, trivial⟩, ?_⟩
            · rw [HD.out, HS.out]
            · simp [intOf]
              omega
        · obtain rfl : m = 8 := by omega
          have hs : stepN 8 c1 = Crc.step4 (Crc.step4 c1) := rfl
          have HS := Lib.hid hs
          clear hs
          go_wp2_with fail
          refine ⟨⟨k + 1, rfl, hk1, ?_, trivial⟩, ?_⟩
          · rw [HF.out, HS.out, HC.out]
            rfl
          · simp [intOf]
            omega
    · have ki : (s.size : Int) ≤ (k : Int) := by omega
      obtain rfl : k = s.size := by omega
      have hl : s.data.toList.take s.size = s.data.toList := List.take_of_length_le (by rw [Array.length_toList]; exact Nat.le_refl _)
      rw [hl] at hc ⊢
      have HCV := Lib.hid (crc_val s.data.toList)
      generalize foldC 4294967295 s.data.toList = c at *
      have g1 := not_bits c hc
      clear hl
      go_wp2_with fail
      go_ret
      refine ⟨?_, rfl⟩
      show Ending.returned (Value.int .u32 (bits BinOp.xor IntKind.u32 IntKind.u32.max (c : Int))) = _
      rw [HCV.out, ← g1]
      rfl
theorem rcrcsum_any (s : ByteArray) (w : World) (hs : s.size ≤ 140737488355328) : Calls Tryz.prog 23 #[.string s] w fun e w' => e = .returned (.int .u32 ((crc s.data.toList : Nat) : Int)) ∧ w = w' := by
  have M := Lib.hid (rmore_any s w hs)
  go_enter Tryz.func23, Tryz.ntmps23
  go_wp2_with fail
  refine M.out.mono ?_
  rintro e w1 ⟨rfl, rfl⟩
  clear M
  go_wp2_with fail
  go_ret
  exact ⟨rfl, rfl⟩
end Go.Proofs.YtljenganlknhbaaGreat.Pak

/- Bursts, plain: turned bits within 32 that stand together change the check. No program is named here. (Layer 19.) -/
namespace Go.Proofs.YtljenganlknhbaaGreat.Crc
set_option linter.unusedVariables false
def stepN : Nat → Nat → Nat
  | 0, c => c
  | n + 1, c => stepN n (step c)
theorem stepN_xor : ∀ n a b, stepN n (a ^^^ b) = stepN n a ^^^ stepN n b
  | 0, _, _ => rfl
  | n + 1, a, b => by
    show stepN n (step (a ^^^ b)) = _
    rw [step_xor, stepN_xor n]
    rfl
theorem stepN_zero : ∀ n, stepN n 0 = 0
  | 0 => rfl
  | n + 1 => by
    show stepN n (step 0) = 0
    exact stepN_zero n
theorem stepN_add (m : Nat) : ∀ n c, stepN (n + m) c = stepN m (stepN n c)
  | 0, c => by rw [Nat.zero_add]; rfl
  | n + 1, c => by
    rw [Nat.add_right_comm]
    exact stepN_add m n (step c)
theorem stepN_mul : ∀ n m, stepN n (m * 2 ^ n) = m
  | 0, m => by show m * 1 = m; omega
  | n + 1, m => by
    show stepN n (step (m * 2 ^ (n + 1))) = m
    rw [show m * 2 ^ (n + 1) = 2 * (m * 2 ^ n) by rw [Nat.pow_succ]; ac_rfl, step_even, stepN_mul n]
theorem stepN_lt : ∀ n {c}, c < 4294967296 → stepN n c < 4294967296
  | 0, c, h => h
  | n + 1, c, h => stepN_lt n (step_lt h)
theorem step_inj {c : Nat} (h : c < 4294967296) (h0 : step c = 0) : c = 0 := by
  unfold step at h0
  split at h0
  · have h1 : (c / 2 ^^^ 2197175160) ^^^ 2197175160 = 0 ^^^ 2197175160 := congrArg (· ^^^ 2197175160) h0
    rw [Nat.xor_assoc, Nat.xor_self, Nat.xor_zero, Nat.zero_xor] at h1
    omega
  · omega
theorem stepN_inj : ∀ n {c}, c < 4294967296 → stepN n c = 0 → c = 0
  | 0, c, _, h0 => h0
  | n + 1, c, h, h0 => step_inj h (stepN_inj n (step_lt h) h0)
/-- The running check of bytes. -/
def fc (c : Nat) (l : List UInt8) : Nat := l.foldl (fun c b => step4 (step4 (c ^^^ b.toNat))) c
theorem fc_cons (c : Nat) (b : UInt8) (l : List UInt8) : fc c (b :: l) = fc (stepN 8 (c ^^^ b.toNat)) l := rfl
theorem fc_app (c : Nat) (l m : List UInt8) : fc c (l ++ m) = fc (fc c l) m := by unfold fc; rw [List.foldl_append]
theorem fc_xor : ∀ (l m : List UInt8) (c d : Nat), l.length = m.length → fc (c ^^^ d) (List.zipWith (· ^^^ ·) l m) = fc c l ^^^ fc d m
  | [], [], c, d, _ => rfl
  | x :: l, y :: m, c, d, h => by
    rw [List.zipWith_cons_cons, fc_cons, fc_cons, fc_cons, ← fc_xor l m _ _ (by simpa using h), ← stepN_xor, UInt8.toNat_xor]
    congr 2
    ac_rfl
theorem fc_zeros : ∀ (n c : Nat), fc c (List.replicate n 0) = stepN (8 * n) c
  | 0, c => rfl
  | n + 1, c => by
    rw [List.replicate_succ, fc_cons, fc_zeros n, show 8 * (n + 1) = 8 + 8 * n by omega, stepN_add]
    simp
/-- Bytes as a number. -/
def leX : List UInt8 → Nat
  | [] => 0
  | b :: l => b.toNat ^^^ (leX l * 256)
theorem fc_num : ∀ (l : List UInt8) (c : Nat), fc c l = stepN (8 * l.length) (c ^^^ leX l)
  | [], c => by simp [fc, leX, stepN]
  | b :: l, c => by
    rw [fc_cons, fc_num l, List.length_cons, show 8 * (l.length + 1) = 8 + 8 * l.length by omega, stepN_add]
    congr 1
    show stepN 8 (c ^^^ b.toNat) ^^^ leX l = stepN 8 (c ^^^ (b.toNat ^^^ (leX l * 256)))
    rw [← Nat.xor_assoc, stepN_xor 8 (c ^^^ b.toNat), show leX l * 256 = leX l * 2 ^ 8 from rfl, stepN_mul]
theorem xor_split (c : Nat) : (c % 256) ^^^ (c / 256 * 256) = c := by
  apply Nat.eq_of_testBit_eq
  intro i
  rw [Nat.testBit_xor, show c / 256 * 256 = 2 ^ 8 * (c / 2 ^ 8) by rw [Nat.mul_comm], Nat.testBit_two_pow_mul, show c % 256 = c % 2 ^ 8 from rfl, Nat.testBit_mod_two_pow, Nat.testBit_div_two_pow]
  by_cases h : i < 8
  · have : ¬ 8 ≤ i := by omega
    simp [h, this]
  · have : 8 ≤ i := by omega
    simp [h, this]
/-- The five bytes of a burst. -/
def five (b : Nat) : List UInt8 := [UInt8.ofNat b, UInt8.ofNat (b / 256), UInt8.ofNat (b / 65536), UInt8.ofNat (b / 16777216), UInt8.ofNat (b / 4294967296)]
theorem leX_five {b : Nat} (h : b < 1099511627776) : leX (five b) = b := by
  unfold five leX leX leX leX leX leX
  simp only [UInt8.toNat_ofNat']
  have h1 := xor_split b
  have h2 := xor_split (b / 256)
  have h3 := xor_split (b / 65536)
  have h4 := xor_split (b / 16777216)
  have e5 : b / 4294967296 % 2 ^ 8 = b / 4294967296 := Nat.mod_eq_of_lt (by omega)
  rw [e5, Nat.zero_mul, Nat.xor_zero]
  rw [show b / 16777216 / 256 = b / 4294967296 by omega] at h4
  rw [show b / 65536 / 256 = b / 16777216 by omega] at h3
  rw [show b / 256 / 256 = b / 65536 by omega] at h2
  rw [show b / 16777216 % 2 ^ 8 = b / 16777216 % 256 from rfl, h4, show b / 65536 % 2 ^ 8 = b / 65536 % 256 from rfl, h3, show b / 256 % 2 ^ 8 = b / 256 % 256 from rfl, h2, show b % 2 ^ 8 = b % 256 from rfl, h1]
/-- A burst of at most 32 bits is told, wherever it stands. -/
theorem burst_told {p q r bits : Nat} (hb : bits < 4294967296) (hr : r < 8) (h : fc 0 (List.replicate p 0 ++ (five (bits * 2 ^ r) ++ List.replicate q 0)) = 0) : bits = 0 := by
  have h2 : 2 ^ r ≤ 128 := by
    have : (2 : Nat) ^ r ≤ 2 ^ 7 := Nat.pow_le_pow_right (by decide) (by omega)
    exact this
  have h3 : bits * 2 ^ r < 1099511627776 := by
    have := Nat.mul_le_mul_left bits h2
    omega
  rw [fc_app, fc_app, fc_zeros, fc_zeros, stepN_zero, fc_num, Nat.zero_xor, leX_five h3] at h
  have e : 8 * (five (bits * 2 ^ r)).length = r + (40 - r) := by
    show 8 * 5 = _
    omega
  rw [e, stepN_add, stepN_mul] at h
  exact stepN_inj (40 - r) hb (stepN_inj _ (stepN_lt _ hb) h)
/-- Bytes of which a burst is turned have the same check only where no bit is turned. -/
theorem fc_burst {l : List UInt8} {c p q r bits : Nat} (hb : bits < 4294967296) (hr : r < 8) (hl : l.length = p + 5 + q)
    (h : fc c (List.zipWith (· ^^^ ·) l (List.replicate p 0 ++ (five (bits * 2 ^ r) ++ List.replicate q 0))) = fc c l) : bits = 0 := by
  have hlen : l.length = (List.replicate p (0 : UInt8) ++ (five (bits * 2 ^ r) ++ List.replicate q 0)).length := by simp [five]; omega
  have hx := fc_xor l (List.replicate p 0 ++ (five (bits * 2 ^ r) ++ List.replicate q 0)) c 0 hlen
  rw [Nat.xor_zero, h] at hx
  refine burst_told (p := p) (q := q) hb hr ?_
  have h1 : fc c l ^^^ fc c l = fc c l ^^^ (fc c l ^^^ fc 0 (List.replicate p 0 ++ (five (bits * 2 ^ r) ++ List.replicate q 0))) := congrArg (fc c l ^^^ ·) hx
  rw [Nat.xor_self, ← Nat.xor_assoc, Nat.xor_self, Nat.zero_xor] at h1
  exact h1.symm
end Go.Proofs.YtljenganlknhbaaGreat.Crc

