/- Packs, plain: what Make writes, what Read and Find look at. No conditions, no program's code. (Layer 07.) -/
import Derived.Test.YtabgpleiobpeoaaCrc0
import Derived.Test.YtabgpleiobpeoaaOctet1
import Derived.Test.YtabgpleiobpeoaaShaSpec
namespace Go.Proofs.Ytabgpleiobpeoaa.Pak
set_option linter.unusedVariables false
open Oct (le32 val)
/-- An object: its id, its bytes. -/
abbrev It := ByteArray × ByteArray
/-- The digest of bytes. -/
def sumS (s : ByteArray) : ByteArray := ⟨(Sha.sum s.data.toList).toArray⟩
/-- The check of bytes. -/
def crc (l : List UInt8) : Nat := 4294967295 - l.foldl (fun c b => Crc.step4 (Crc.step4 (c ^^^ b.toNat))) 4294967295
theorem crc_lt (l : List UInt8) : crc l < 4294967296 := by unfold crc; omega
def first (s : ByteArray) : Nat := (s.data.toList.headD 0).toNat
/-- How many ids have a first byte of b or below. -/
def fanN (ids : List ByteArray) (b : Nat) : Nat := ids.countP fun s => decide (first s ≤ b)
def fanB (ids : List ByteArray) (n : Nat) : List UInt8 := (List.range n).flatMap fun b => le32 (fanN ids b)
def rowB (at_ : Nat) (x : It) : List UInt8 := x.1.data.toList ++ le32 at_ ++ le32 x.2.size ++ le32 (crc x.2.data.toList)
def indexB : Nat → List It → List UInt8
  | _, [] => []
  | a, x :: r => rowB a x ++ indexB (a + x.2.size) r
def dataB (L : List It) : List UInt8 := L.flatMap fun x => x.2.data.toList
def magic : List UInt8 := [114, 101, 108, 105, 99, 48, 48, 49]
def bodyB (L : List It) : List UInt8 := magic ++ le32 L.length ++ fanB (L.map (·.1)) 256 ++ indexB 0 L ++ dataB L
def packB (L : List It) : List UInt8 := bodyB L ++ Sha.sum (bodyB L)
theorem indexB_snoc : ∀ (L : List It) (a : Nat) (x : It), indexB a (L ++ [x]) = indexB a L ++ rowB (a + (dataB L).length) x
  | [], a, x => by simp [indexB, dataB]
  | y :: r, a, x => by
    have h := indexB_snoc r (a + y.2.size) x
    have e : (dataB (y :: r)).length = y.2.size + (dataB r).length := by
      have : y.2.data.toList.length = y.2.size := by rw [Array.length_toList]; rfl
      simp only [dataB, List.flatMap_cons, List.length_append, this]
    rw [List.cons_append, indexB, h, indexB, e, List.append_assoc, Nat.add_assoc]
theorem dataB_snoc (L : List It) (x : It) : dataB (L ++ [x]) = dataB L ++ x.2.data.toList := by simp [dataB]
/-- One id stands below another one. -/
def lowI (x y : It) : Prop := x.1.data.toList < y.1.data.toList
def total (l : List ByteArray) : Nat := (l.map (·.size)).sum
def itemsOf (l : List ByteArray) : List It := l.map fun s => (sumS s, s)
/-- What Make answers, of at most 1024 objects: the error, the bytes. -/
inductive MakeIs (l : List ByteArray) : Int → List UInt8 → Prop
  | none_ (h : l = []) : MakeIs l 1 []
  | long (h0 : l ≠ []) (h : ∃ s ∈ l, 131072 < s.size) : MakeIs l 5 []
  | twice (h0 : l ≠ []) (h1 : ∀ s ∈ l, s.size ≤ 131072) (h : ¬ (l.map sumS).Nodup) : MakeIs l 31 []
  | ok (L : List It) (h0 : l ≠ []) (h1 : ∀ s ∈ l, s.size ≤ 131072) (hp : L.Perm (itemsOf l)) (hs : L.Pairwise lowI) : MakeIs l 0 (packB L)
theorem low_irrefl (x : It) : ¬ lowI x x := List.lt_irrefl _
theorem low_trans {x y z : It} (h1 : lowI x y) (h2 : lowI y z) : lowI x z := List.lt_trans h1 h2
theorem rises_unique {l m : List It} (hl : l.Pairwise lowI) (hm : m.Pairwise lowI) (h : l.Perm m) : l = m :=
  List.Perm.eq_of_pairwise (le := lowI) (fun a b _ _ h1 h2 => absurd (low_trans h1 h2) (low_irrefl _)) hl hm h
theorem nodup_of_rises {l : List ByteArray} {L : List It} (hp : L.Perm (itemsOf l)) (hs : L.Pairwise lowI) : (l.map sumS).Nodup := by
  have h1 : (L.map (·.1)).Nodup := by
    rw [List.Nodup, List.pairwise_map]
    exact hs.imp fun h e => by unfold lowI at h; rw [e] at h; exact List.lt_irrefl _ h
  have h2 : (L.map (·.1)).Perm (l.map sumS) := by
    have := hp.map (·.1)
    unfold itemsOf at this
    rwa [List.map_map] at this
  exact h2.nodup_iff.1 h1
theorem make_unique {l m : List ByteArray} (hlm : l.Perm m) {e1 e2 : Int} {b1 b2 : List UInt8} (h1 : MakeIs l e1 b1) (h2 : MakeIs m e2 b2) : e1 = e2 ∧ b1 = b2 := by
  have hnil : l = [] ↔ m = [] := ⟨fun h => by subst h; exact List.nil_perm.1 hlm, fun h => by subst h; exact List.perm_nil.1 hlm⟩
  have hsz : (∀ s ∈ l, s.size ≤ 131072) ↔ (∀ s ∈ m, s.size ≤ 131072) := ⟨fun h s hs => h s (hlm.mem_iff.2 hs), fun h s hs => h s (hlm.mem_iff.1 hs)⟩
  have hlong : ∀ {k : List ByteArray}, (∃ s ∈ k, 131072 < s.size) → ¬ ∀ s ∈ k, s.size ≤ 131072 := fun ⟨s, hs, h⟩ h' => by have := h' s hs; omega
  have hnd : (l.map sumS).Nodup ↔ (m.map sumS).Nodup := (hlm.map sumS).nodup_iff
  cases h1 with
  | none_ h => cases h2 with
    | none_ _ => exact ⟨rfl, rfl⟩
    | long h0 _ => exact absurd (hnil.1 h) h0
    | twice h0 _ _ => exact absurd (hnil.1 h) h0
    | ok L h0 _ _ _ => exact absurd (hnil.1 h) h0
  | long h0 h => cases h2 with
    | none_ h' => exact absurd (hnil.2 h') h0
    | long _ _ => exact ⟨rfl, rfl⟩
    | twice _ h1 _ => exact absurd (hsz.2 h1) (hlong h)
    | ok L _ h1 _ _ => exact absurd (hsz.2 h1) (hlong h)
  | twice h0 h1 h => cases h2 with
    | none_ h' => exact absurd (hnil.2 h') h0
    | long _ h' => exact absurd (hsz.1 h1) (hlong h')
    | twice _ _ _ => exact ⟨rfl, rfl⟩
    | ok L _ _ hp hs => exact absurd (hnd.2 (nodup_of_rises hp hs)) h
  | ok L h0 h1 hp hs => cases h2 with
    | none_ h' => exact absurd (hnil.2 h') h0
    | long _ h' => exact absurd (hsz.1 h1) (hlong h')
    | twice _ _ h' => exact absurd (hnd.1 (nodup_of_rises hp hs)) h'
    | ok L' _ _ hp' hs' =>
      have : L = L' := rises_unique hs hs' (hp.trans ((hlm.map _).trans hp'.symm))
      rw [this]
      exact ⟨rfl, rfl⟩
/-- The number that stands at a place. -/
def nAt (s : List UInt8) (k : Nat) : Nat := val ((s.drop k).take 4)
def idAt (s : List UInt8) (i : Nat) : List UInt8 := (s.drop (1036 + 44 * i)).take 32
def atAt (s : List UInt8) (i : Nat) : Nat := nAt s (1036 + 44 * i + 32)
def szAt (s : List UInt8) (i : Nat) : Nat := nAt s (1036 + 44 * i + 36)
def ckAt (s : List UInt8) (i : Nat) : Nat := nAt s (1036 + 44 * i + 40)
def sumTo (s : List UInt8) : Nat → Nat
  | 0 => 0
  | k + 1 => sumTo s k + szAt s k
def many (s : List UInt8) : Nat := nAt s 8
def dataAt (s : List UInt8) (i : Nat) : List UInt8 := (s.drop (1036 + 44 * many s + sumTo s i)).take (szAt s i)
def idsOf (s : List UInt8) (n : Nat) : List ByteArray := (List.range n).map fun i => ⟨(idAt s i).toArray⟩
/-- The head is right: the program's count. -/
structure Headed (s : List UInt8) : Prop where
  magic : s.take 8 = magic
  one : 1 ≤ many s
  most : many s ≤ 1024
  fits : 1036 + 44 * many s + 32 ≤ s.length
/-- The form is right. -/
structure Shaped (s : List UInt8) : Prop where
  head : Headed s
  ats : ∀ i, i < many s → atAt s i = sumTo s i
  szs : ∀ i, i < many s → szAt s i ≤ 131072
  rise : ∀ i, i + 1 < many s → idAt s i < idAt s (i + 1)
  whole : 1036 + 44 * many s + sumTo s (many s) + 32 = s.length
  fan : ∀ b, b < 256 → nAt s (12 + 4 * b) = fanN (idsOf s (many s)) b
def Right (s : List UInt8) : Prop := ∀ i, i < many s → crc (dataAt s i) = ckAt s i ∧ Sha.sum (dataAt s i) = idAt s i
def readL (s : List UInt8) : List It := (List.range (many s)).map fun i => (⟨(idAt s i).toArray⟩, ⟨(dataAt s i).toArray⟩)
/-- What Read answers, of at most 4,194,304 bytes. -/
inductive ReadIs (s : List UInt8) : Int → List It → Prop
  | short (h : s.length < 1112) : ReadIs s 3 []
  | sum (h0 : 1112 ≤ s.length) (h : Sha.sum (s.take (s.length - 32)) ≠ s.drop (s.length - 32)) : ReadIs s 20 []
  | form (h0 : 1112 ≤ s.length) (h1 : Sha.sum (s.take (s.length - 32)) = s.drop (s.length - 32)) (h : ¬ Shaped s) : ReadIs s 4 []
  | wrong (h0 : 1112 ≤ s.length) (h1 : Sha.sum (s.take (s.length - 32)) = s.drop (s.length - 32)) (h2 : Shaped s) (h : ¬ Right s) : ReadIs s 20 []
  | ok (h0 : 1112 ≤ s.length) (h1 : Sha.sum (s.take (s.length - 32)) = s.drop (s.length - 32)) (h2 : Shaped s) (h : Right s) : ReadIs s 0 (readL s)
theorem read_unique {s : List UInt8} {e1 e2 : Int} {l1 l2 : List It} (h1 : ReadIs s e1 l1) (h2 : ReadIs s e2 l2) : e1 = e2 ∧ l1 = l2 := by
  cases h1 <;> cases h2 <;> first | exact ⟨rfl, rfl⟩ | (exfalso; first | omega | contradiction)
end Go.Proofs.Ytabgpleiobpeoaa.Pak
