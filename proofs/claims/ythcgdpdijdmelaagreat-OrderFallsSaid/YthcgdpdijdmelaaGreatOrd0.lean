/- Facts as they lie, how two of them stand, what a log is: plain words and their laws. No conditions, no program's code. (Layer 11.) -/
import Derived.Test.YthcgdpdijdmelaaGreatSlice
import Derived.Test.YthcgdpdijdmelaaGreatMax
import Derived.Shelf.GgSortFunc.RowK
import Derived.Lib.Hide
import Derived.Lib.Small
import Derived.Lib.Bytealg
namespace Go.Proofs.YthcgdpdijdmelaaGreat.Ord
set_option linter.unusedVariables false
open Go.RowKit Go.Sort Go.Lib
open Go.Proofs.YthcgdpdijdmelaaGreat.Obj (most)
/-- A fact as it lies: its Id, Height, the slice of its parents, and their texts. -/
structure Fv where
  id : ByteArray
  h : Int
  pa : Option Addr
  np : Nat
  pc : Nat
  p : Nat → ByteArray
instance : Inhabited Fv := ⟨⟨⟨#[]⟩, 0, none, 0, 0, fun _ => ⟨#[]⟩⟩⟩
def encF (x : Fv) : List Value := [.string x.id, .int .i64 x.h, .slice x.pa x.np x.pc]
def aggF (x : Fv) : Value := .agg #[.string x.id, .int .i64 x.h, .slice x.pa x.np x.pc]
/-- How two facts stand. -/
def cmpF (x y : Fv) : Int := if compareInt x.h y.h = 0 then compareBytes x.id.data.toList y.id.data.toList else compareInt x.h y.h
theorem cb_val : ∀ (a b : List UInt8), compareBytes a b = if a = b then 0 else if a < b then -1 else 1
  | [], [] => by simp [compareBytes]
  | [], _ :: _ => by simp [compareBytes]
  | _ :: _, [] => by simp [compareBytes]
  | a :: x, b :: y => by
    unfold compareBytes
    by_cases h1 : a < b
    · have : a ≠ b := fun h => by subst h; exact absurd h1 (by simp)
      simp [h1, this, List.cons_lt_cons_iff]
    · by_cases h2 : b < a
      · have : a ≠ b := fun h => by subst h; exact h1 h2
        simp [h1, h2, this, List.cons_lt_cons_iff]
      · have : a = b := by
          apply UInt8.toNat_inj.1
          have e1 : ¬ a.toNat < b.toNat := h1
          have e2 : ¬ b.toNat < a.toNat := h2
          omega
        subst this
        simp [cb_val x y]
theorem data_inj {a b : ByteArray} (h : a.data.toList = b.data.toList) : a = b := by
  apply ByteArray.ext
  apply Array.ext'
  exact h
/-- One fact stands below another one. -/
def lowF (x y : Fv) : Prop := x.h < y.h ∨ (x.h = y.h ∧ x.id.data.toList < y.id.data.toList)
theorem cmp_val (x y : Fv) : cmpF x y = if x.h < y.h then -1 else if y.h < x.h then 1 else if x.id = y.id then 0 else if x.id.data.toList < y.id.data.toList then -1 else 1 := by
  unfold cmpF compareInt
  rw [cb_val]
  by_cases h1 : x.h < y.h
  · simp [h1]
  · by_cases h2 : y.h < x.h
    · simp [h1, h2]
    · simp only [h1, h2, if_false, if_true]
      by_cases h3 : x.id = y.id
      · simp [h3]
      · have : x.id.data.toList ≠ y.id.data.toList := fun h => h3 (data_inj h)
        rw [if_neg this, if_neg h3]
theorem cmp_neg (x y : Fv) : cmpF x y < 0 ↔ lowF x y := by
  rw [cmp_val]
  unfold lowF
  by_cases h1 : x.h < y.h
  · simp [h1]
  · by_cases h2 : y.h < x.h
    · simp [h1, h2]; omega
    · have e : x.h = y.h := by omega
      by_cases h3 : x.id = y.id
      · simp [h1, h2, h3]
      · by_cases h4 : x.id.data.toList < y.id.data.toList
        · simp [h3, h4, e]
        · simp [h1, h2, h3, h4]
theorem cmp_anti (x y : Fv) : cmpF y x = - cmpF x y := by
  rw [cmp_val, cmp_val]
  by_cases h1 : x.h < y.h
  · have : ¬ y.h < x.h := by omega
    simp [h1, this]
  · by_cases h2 : y.h < x.h
    · simp [h1, h2]
    · simp only [h1, h2, if_false]
      by_cases h3 : x.id = y.id
      · simp [h3]
      · have h3' : y.id ≠ x.id := Ne.symm h3
        rw [if_neg h3, if_neg h3']
        by_cases h4 : x.id.data.toList < y.id.data.toList
        · have : ¬ y.id.data.toList < x.id.data.toList := fun h => List.lt_irrefl _ (List.lt_trans h4 h)
          simp [h4, this]
        · have : y.id.data.toList < x.id.data.toList := by
            rcases List.le_total y.id.data.toList x.id.data.toList with h | h
            · rcases List.le_iff_lt_or_eq.1 h with h | h
              · exact h
              · exact absurd (data_inj h).symm h3
            · exact absurd (List.le_antisymm h (List.not_lt.1 h4)) (fun h => h3 (data_inj h))
          simp [h4, this]
theorem cmp_zero (x y : Fv) : cmpF x y = 0 ↔ x.h = y.h ∧ x.id = y.id := by
  rw [cmp_val]
  by_cases h1 : x.h < y.h
  · simp [h1]; omega
  · by_cases h2 : y.h < x.h
    · simp [h1, h2]; omega
    · have e : x.h = y.h := by omega
      by_cases h3 : x.id = y.id
      · simp [h3, e]
      · by_cases h4 : x.id.data.toList < y.id.data.toList <;> simp [h1, h2, h3, h4]
theorem low_irrefl (x : Fv) : ¬ lowF x x := by
  rintro (h | ⟨_, h⟩)
  · omega
  · exact List.lt_irrefl _ h
theorem low_trans {x y z : Fv} (h1 : lowF x y) (h2 : lowF y z) : lowF x z := by
  rcases h1 with h1 | ⟨e1, h1⟩ <;> rcases h2 with h2 | ⟨e2, h2⟩
  · exact Or.inl (by omega)
  · exact Or.inl (by omega)
  · exact Or.inl (by omega)
  · exact Or.inr ⟨by omega, List.lt_trans h1 h2⟩
theorem low_total (x y : Fv) : lowF x y ∨ lowF y x ∨ (x.h = y.h ∧ x.id = y.id) := by
  rcases Int.lt_trichotomy (cmpF x y) 0 with h | h | h
  · exact Or.inl ((cmp_neg _ _).1 h)
  · exact Or.inr (Or.inr ((cmp_zero _ _).1 h))
  · exact Or.inr (Or.inl ((cmp_neg _ _).1 (by rw [cmp_anti]; omega)))
/-- The ids that are met from one on, among the first n facts. -/
inductive Met (n : Nat) (f : Nat → Fv) (s : ByteArray) : ByteArray → Prop
  | self : Met n f s s
  | step {i k : Nat} (hi : i < n) (hr : Met n f s (f i).id) (hk : k < (f i).np) : Met n f s ((f i).p k)
def Here (n : Nat) (f : Nat → Fv) (x : ByteArray) : Prop := ∃ i, i < n ∧ (f i).id = x
def Dist (n : Nat) (f : Nat → Fv) : Prop := ∀ i j, i < n → j < n → (f i).id = (f j).id → i = j
/-- The first of the first n facts with this id; n: none. -/
def place (f : Nat → Fv) (x : ByteArray) : Nat → Nat
  | 0 => 0
  | k + 1 => if place f x k < k then place f x k else if (f k).id = x then k else k + 1
theorem place_le (f : Nat → Fv) (x : ByteArray) : ∀ n, place f x n ≤ n
  | 0 => Nat.le_refl _
  | k + 1 => by
    have := place_le f x k
    unfold place
    split
    · omega
    · split <;> omega
theorem place_at (f : Nat → Fv) (x : ByteArray) : ∀ n, place f x n < n → (f (place f x n)).id = x
  | 0, h => by cases h
  | k + 1, h => by
    have ih := place_at f x k
    unfold place at h ⊢
    split
    · exact ih (by assumption)
    · split
      · assumption
      · next h1 h2 => rw [if_neg h1, if_neg h2] at h; omega
theorem place_before (f : Nat → Fv) (x : ByteArray) : ∀ n j, j < place f x n → (f j).id ≠ x
  | 0, j, h => by cases h
  | k + 1, j, h => by
    have ih := place_before f x k
    have hle := place_le f x k
    unfold place at h
    split at h
    · exact ih j h
    · next h1 =>
      have hpk : place f x k = k := by omega
      split at h
      · exact ih j (by omega)
      · next h2 =>
        rcases Nat.lt_or_ge j k with hj | hj
        · exact ih j (by omega)
        · obtain rfl : j = k := by omega
          exact h2
theorem place_here {n : Nat} {f : Nat → Fv} {x : ByteArray} : place f x n < n ↔ Here n f x := by
  constructor
  · intro h
    exact ⟨_, h, place_at f x n h⟩
  · rintro ⟨i, hi, he⟩
    have := place_le f x n
    rcases Nat.lt_or_ge i (place f x n) with h | h
    · exact absurd he (place_before f x n i h)
    · omega
theorem place_dist {n : Nat} {f : Nat → Fv} (hd : Dist n f) {i : Nat} (hi : i < n) : place f (f i).id n = i := by
  have h : place f (f i).id n < n := place_here.2 ⟨i, hi, rfl⟩
  exact hd _ _ h hi (place_at f _ n h)
/-- What a fact's height is to be. -/
def rightH (n : Nat) (f : Nat → Fv) (x : Fv) : Int := if x.np = 0 then 0 else wrap64 (most (fun k => (f (place f (x.p k) n)).h) (x.np - 1) + 1)
def RightF (n : Nat) (f : Nat → Fv) (x : Fv) : Prop := x.h = rightH n f x
/-- What Log answers: the refusal's number, the ids. -/
inductive LogIs (n : Nat) (f : Nat → Fv) (s : ByteArray) : Int → List ByteArray → Prop
  | twice (h : ¬ Dist n f) : LogIs n f s 31 []
  | none_ (hd : Dist n f) (h : ¬ Here n f s) : LogIs n f s 12 []
  | open_ (hd : Dist n f) (hs : Here n f s) (h : ∃ x, Met n f s x ∧ ¬ Here n f x) : LogIs n f s 21 []
  | order (hd : Dist n f) (hs : Here n f s) (hc : ∀ x, Met n f s x → Here n f x) (h : ∃ i, i < n ∧ Met n f s (f i).id ∧ ¬ RightF n f (f i)) : LogIs n f s 41 []
  | ok (L : List Fv) (hd : Dist n f) (hs : Here n f s) (hc : ∀ x, Met n f s x → Here n f x) (hr : ∀ i, i < n → Met n f s (f i).id → RightF n f (f i))
    (hm : ∀ x, x ∈ L ↔ ∃ i, i < n ∧ Met n f s (f i).id ∧ f i = x) (hp : L.Pairwise fun x y => lowF y x) : LogIs n f s 0 (L.map (·.id))
theorem falls_unique {l m : List Fv} (hl : l.Pairwise fun x y => lowF y x) (hm : m.Pairwise fun x y => lowF y x) (h : ∀ y, y ∈ l ↔ y ∈ m) : l = m := by
  have ne : ∀ {x y : Fv}, lowF y x → x ≠ y := fun h e => by subst e; exact low_irrefl _ h
  have hp : l.Perm m := (List.perm_ext_iff_of_nodup (hl.imp fun h => ne h) (hm.imp fun h => ne h)).2 h
  exact List.Perm.eq_of_pairwise (le := fun x y => lowF y x) (fun a b _ _ h1 h2 => absurd (low_trans h1 h2) (low_irrefl _)) hl hm hp
theorem log_unique {n : Nat} {f : Nat → Fv} {s : ByteArray} {e1 e2 : Int} {l1 l2 : List ByteArray} (h1 : LogIs n f s e1 l1) (h2 : LogIs n f s e2 l2) : e1 = e2 ∧ l1 = l2 := by
  have ne : ∀ {n : Nat} {f : Nat → Fv} {s : ByteArray}, (∀ x, Met n f s x → Here n f x) → ¬ ∃ x, Met n f s x ∧ ¬ Here n f x := fun hc h => h.elim fun x h => h.2 (hc x h.1)
  have nr : ∀ {n : Nat} {f : Nat → Fv} {s : ByteArray}, (∀ i, i < n → Met n f s (f i).id → RightF n f (f i)) → ¬ ∃ i, i < n ∧ Met n f s (f i).id ∧ ¬ RightF n f (f i) := fun hr h => h.elim fun i h => h.2.2 (hr i h.1 h.2.1)
  cases h1 with
  | twice h => cases h2 with
    | twice _ => exact ⟨rfl, rfl⟩
    | none_ hd _ => exact absurd hd h
    | open_ hd _ _ => exact absurd hd h
    | order hd _ _ _ => exact absurd hd h
    | ok L hd => exact absurd hd h
  | none_ hd h => cases h2 with
    | twice h' => exact absurd hd h'
    | none_ _ _ => exact ⟨rfl, rfl⟩
    | open_ _ hs _ => exact absurd hs h
    | order _ hs _ _ => exact absurd hs h
    | ok L _ hs => exact absurd hs h
  | open_ hd hs h => cases h2 with
    | twice h' => exact absurd hd h'
    | none_ _ h' => exact absurd hs h'
    | open_ _ _ _ => exact ⟨rfl, rfl⟩
    | order _ _ hc _ => exact absurd h (ne hc)
    | ok L _ _ hc => exact absurd h (ne hc)
  | order hd hs hc h => cases h2 with
    | twice h' => exact absurd hd h'
    | none_ _ h' => exact absurd hs h'
    | open_ _ _ h' => exact absurd h' (ne hc)
    | order _ _ _ _ => exact ⟨rfl, rfl⟩
    | ok L _ _ _ hr => exact absurd h (nr hr)
  | ok L hd hs hc hr hm hp => cases h2 with
    | twice h' => exact absurd hd h'
    | none_ _ h' => exact absurd hs h'
    | open_ _ _ h' => exact absurd h' (ne hc)
    | order _ _ _ h' => exact absurd h' (nr hr)
    | ok L' _ _ _ _ hm' hp' => exact ⟨rfl, by rw [falls_unique hp hp' fun y => by rw [hm, hm']]⟩
end Go.Proofs.YthcgdpdijdmelaaGreat.Ord
