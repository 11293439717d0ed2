/- Commits that grow, each of earlier ones: their logs. No program is walked. (Layer 11.) -/
import Derived.Test.YthcgdpdijdmelaaGreatOrd0
namespace Go.Proofs.YthcgdpdijdmelaaGreat.Ord
set_option linter.unusedVariables false
open Go.RowKit
open Go.Proofs.YthcgdpdijdmelaaGreat.Obj (most most_le most_one)
/-- The letters of a number. -/
def gid (i : Nat) : ByteArray := ⟨#[UInt8.ofNat (97 + i * 7 % 26), UInt8.ofNat (97 + i % 26), UInt8.ofNat i]⟩
theorem gid_inj {i j : Nat} (hi : i < 40) (hj : j < 40) (h : gid i = gid j) : i = j := by
  unfold gid at h
  injection h with h
  have h1 : UInt8.ofNat i = UInt8.ofNat j := by
    have h2 := congrArg (fun a : Array UInt8 => a[2]?) h
    simpa using h2
  have h3 := congrArg UInt8.toNat h1
  rw [UInt8.toNat_ofNat', UInt8.toNat_ofNat'] at h3
  omega
/-- Commits, each of earlier ones, with right heights. -/
structure Grown (n : Nat) (f : Nat → Fv) : Prop where
  few : n ≤ 40
  id : ∀ i, i < n → (f i).id = gid i
  np : ∀ i, i < n → (f i).np ≤ 8
  par : ∀ i, i < n → ∀ k, k < (f i).np → ∃ j, j < i ∧ (f i).p k = gid j
  none_ : ∀ i, i < n → (f i).np = 0 → (f i).h = 0
  some_ : ∀ i, i < n → 0 < (f i).np → ∃ k, k < (f i).np ∧ ∃ j, j < i ∧ (f i).p k = gid j ∧ (f i).h = (f j).h + 1
  top : ∀ i, i < n → ∀ k, k < (f i).np → ∀ j, j < i → (f i).p k = gid j → (f j).h + 1 ≤ (f i).h
section
variable {n m : Nat} {f : Nat → Fv}
theorem Grown.less (h : Grown n f) (hm : m ≤ n) : Grown m f :=
  ⟨Nat.le_trans hm h.few, fun i hi => h.id i (by omega), fun i hi => h.np i (by omega), fun i hi => h.par i (by omega), fun i hi => h.none_ i (by omega), fun i hi => h.some_ i (by omega), fun i hi => h.top i (by omega)⟩
theorem Grown.dist (h : Grown n f) : Dist n f := fun i j hi hj he => by
  rw [h.id i hi, h.id j hj] at he
  exact gid_inj (Nat.lt_of_lt_of_le hi h.few) (Nat.lt_of_lt_of_le hj h.few) he
theorem Grown.low (h : Grown n f) : ∀ i, i < n → 0 ≤ (f i).h ∧ (f i).h ≤ i := fun i => by
  induction i using Nat.strongRecOn with
  | ind i ih =>
    intro hi
    by_cases h0 : (f i).np = 0
    · rw [h.none_ i hi h0]; omega
    · obtain ⟨k, hk, j, hj, -, he⟩ := h.some_ i hi (by omega)
      have := ih j hj (by omega)
      omega
theorem Grown.place (h : Grown n f) {j : Nat} (hj : j < n) : place f (gid j) n = j := by
  rw [← h.id j hj]
  exact place_dist h.dist hj
theorem Grown.right (h : Grown n f) : ∀ i, i < n → RightF n f (f i) := fun i hi => by
  unfold RightF rightH
  by_cases h0 : (f i).np = 0
  · rw [if_pos h0]; exact h.none_ i hi h0
  rw [if_neg h0]
  obtain ⟨k, hk, j, hj, hp, he⟩ := h.some_ i hi (by omega)
  have h1 := most_le (fun k => (f (Ord.place f ((f i).p k) n)).h) ((f i).np - 1) k (by omega)
  rw [hp, h.place (by omega)] at h1
  obtain ⟨k2, hk2, h2⟩ := most_one (fun k => (f (Ord.place f ((f i).p k) n)).h) ((f i).np - 1)
  obtain ⟨j2, hj2, hp2⟩ := h.par i hi k2 (by omega)
  rw [hp2, h.place (by omega)] at h2
  have h3 := h.top i hi k2 (by omega) j2 hj2 hp2
  have h4 := h.low i hi
  have h5 := h.few
  have h6 : most (fun k => (f (Ord.place f ((f i).p k) n)).h) ((f i).np - 1) + 1 = (f i).h := by omega
  rw [h6]
  unfold wrap64
  omega
/-- What is met lies no later. -/
theorem Grown.met (h : Grown n f) {a : Nat} (ha : a < n) {x : ByteArray} (hx : Met n f (f a).id x) : ∃ i, i ≤ a ∧ x = gid i := by
  induction hx with
  | self => exact ⟨a, Nat.le_refl _, h.id a ha⟩
  | step hi hr hk ih =>
    obtain ⟨i', hi', he⟩ := ih
    rw [h.id _ hi] at he
    have := gid_inj (Nat.lt_of_lt_of_le hi h.few) (by have := h.few; omega) he
    obtain ⟨j, hj, hp⟩ := h.par _ hi _ hk
    exact ⟨j, by omega, hp⟩
theorem Grown.closed (h : Grown n f) {a : Nat} (ha : a < n) : ∀ x, Met n f (f a).id x → Here n f x := fun x hx => by
  obtain ⟨i, hi, rfl⟩ := h.met ha hx
  exact ⟨i, by omega, h.id i (by omega)⟩
theorem Grown.met_less (h : Grown n f) (hm : m ≤ n) {a : Nat} (ha : a < m) {x : ByteArray} : Met n f (f a).id x ↔ Met m f (f a).id x := by
  constructor
  · intro hx
    induction hx with
    | self => exact .self
    | step hi hr hk ih =>
      obtain ⟨i', hi', he⟩ := h.met (by omega) hr
      rw [h.id _ hi] at he
      have := gid_inj (Nat.lt_of_lt_of_le hi h.few) (by have := h.few; omega) he
      exact .step (by omega) ih hk
  · intro hx
    induction hx with
    | self => exact .self
    | step hi hr hk ih => exact .step (by omega) ih hk
/-- The log of one of them. -/
structure GLog (n : Nat) (f : Nat → Fv) (a : Nat) (L : List Fv) : Prop where
  mem : ∀ x, x ∈ L ↔ ∃ i, i ≤ a ∧ Met n f (f a).id (f i).id ∧ f i = x
  falls : L.Pairwise fun x y => lowF y x
theorem Grown.log (h : Grown n f) {a : Nat} (ha : a < n) {c : Int} {L : List ByteArray} (hl : LogIs n f (f a).id c L) : c = 0 ∧ ∃ M : List Fv, L = M.map (·.id) ∧ GLog n f a M := by
  cases hl with
  | twice h1 => exact absurd h.dist h1
  | none_ _ h1 => exact absurd ⟨a, ha, rfl⟩ h1
  | open_ _ _ h1 => obtain ⟨x, h2, h3⟩ := h1; exact absurd (h.closed ha x h2) h3
  | order _ _ _ h1 => obtain ⟨i, hi, _, h2⟩ := h1; exact absurd (h.right i hi) h2
  | ok M _ _ _ _ hm hp =>
    refine ⟨rfl, M, rfl, fun x => ?_, hp⟩
    rw [hm]
    constructor
    · rintro ⟨i, hi, h1, h2⟩
      obtain ⟨i', hi', he⟩ := h.met ha h1
      rw [h.id i hi] at he
      have := gid_inj (Nat.lt_of_lt_of_le hi h.few) (by have := h.few; omega) he
      exact ⟨i, by omega, h1, h2⟩
    · rintro ⟨i, hi, h1, h2⟩
      exact ⟨i, by omega, h1, h2⟩
/-- Later ones change no log. -/
theorem GLog.same (h : Grown n f) (hm : m ≤ n) {a : Nat} (ha : a < m) {L M : List Fv} (hl : GLog m f a L) (hl' : GLog n f a M) : L = M :=
  falls_unique hl.falls hl'.falls fun y => by
    rw [hl.mem, hl'.mem]
    constructor <;> rintro ⟨i, hi, h1, h2⟩
    · exact ⟨i, hi, (h.met_less hm ha).2 h1, h2⟩
    · exact ⟨i, hi, (h.met_less hm ha).1 h1, h2⟩
end
end Go.Proofs.YthcgdpdijdmelaaGreat.Ord
