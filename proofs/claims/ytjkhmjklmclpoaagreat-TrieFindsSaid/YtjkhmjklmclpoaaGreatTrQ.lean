/- The kids of a cell are the sums at the longer prefixes. No program is walked. (Layer 10.) -/
import Derived.Test.YtjkhmjklmclpoaaGreatTrP
namespace Go.Proofs.YtjkhmjklmclpoaaGreat.Tr
set_option linter.unusedVariables false
open Go.RowKit Go.Lib
open Set (StrAt scells El Rise)
theorem byte_at (x : ByteArray) {k : Nat} (h : k < x.data.toList.length) : x.data.toList[k] = x[k]! := by
  have h2 : k < x.size := by simpa using h
  rw [getElem!_pos x k h2]
  rfl
/-- The digit at which two ids part rises. -/
theorem nib_mono {x y : ByteArray} (hx : x.size = 32) (hy : y.size = 32) (hlt : El.lt x y) {m : Nat} (hm : m < 64) (he : ∀ i, i < m → nib x i = nib y i) : nib x m ≤ nib y m := by
  have hlt : x.data.toList < y.data.toList := hlt
  rcases List.lt_iff_exists.1 hlt with ⟨_, h⟩ | ⟨k, h1, h2, h3, h4⟩
  · have a1 : x.data.toList.length = 32 := by simpa using hx
    have a2 : y.data.toList.length = 32 := by simpa using hy
    omega
  · have hk : (x[k]!).toNat < (y[k]!).toNat := by
      rw [byte_at x h1, byte_at y h2] at h4
      exact h4
    have hx2 := byte_nib x k
    have hy2 := byte_nib y k
    have lx0 := nib_lt x (2 * k)
    have lx1 := nib_lt x (2 * k + 1)
    have ly0 := nib_lt y (2 * k)
    have ly1 := nib_lt y (2 * k + 1)
    rcases Nat.lt_or_ge m (2 * k) with h5 | h5
    · have : x[m / 2]! = y[m / 2]! := by
        have hj : m / 2 < k := by omega
        have := h3 (m / 2) hj
        rwa [byte_at x (by omega), byte_at y (by omega)] at this
      unfold nib
      rw [this]
      exact Nat.le_refl _
    · rcases Nat.lt_or_ge m (2 * k + 1) with h6 | h6
      · obtain rfl : m = 2 * k := by omega
        omega
      · rcases Nat.lt_or_ge m (2 * k + 2) with h7 | h7
        · obtain rfl : m = 2 * k + 1 := by omega
          have := he (2 * k) (by omega)
          omega
        · have e0 := he (2 * k) (by omega)
          have e1 := he (2 * k + 1) (by omega)
          omega
theorem has_ext {x p : ByteArray} {d : Nat} (hd : d < 16) (hp : p.size < 64) : hasB x (ext p d) = (hasB x p && decide (dgt x p.size = (d : Int))) := by
  rw [Bool.eq_iff_iff, Bool.and_eq_true, decide_eq_true_iff, hasB_iff, hasB_iff]
  have hz := ext_size p d
  have g1 : ∀ i (h : i < p.size) (h2 : i < (ext p d).size), (ext p d)[i]'h2 = p[i]'h := fun i h h2 => by
    unfold ext
    exact ByteArray.getElem_append_left h
  have g2 : ∀ (h2 : p.size < (ext p d).size), (ext p d)[p.size]'h2 = sgn d := fun h2 => by
    exact (ByteArray.getElem_append_right (a := p) (b := ⟨#[sgn d]⟩) (hle := Nat.le_refl p.size) (h := h2)).trans (by simp; rfl)
  constructor
  · rintro ⟨h1, h2, h3⟩
    refine ⟨⟨h1, by omega, fun i h => ?_⟩, ?_⟩
    · rw [← g1 i h (by rw [ext_size]; omega)]
      exact h3 i (by omega)
    · have := h3 p.size (by omega)
      rw [g2] at this
      have e := sgn_inj ⟨d, hd⟩ ⟨nib x p.size, nib_lt x p.size⟩ this
      unfold dgt
      rw [if_pos ⟨h1, hp⟩]
      have e2 : d = nib x p.size := congrArg Fin.val e
      rw [← e2]
  · rintro ⟨⟨h1, h2, h3⟩, h4⟩
    unfold dgt at h4
    rw [if_pos ⟨h1, hp⟩] at h4
    refine ⟨h1, by omega, fun i h => ?_⟩
    rcases Nat.lt_or_ge i p.size with h5 | h5
    · rw [g1 i h5]; exact h3 i h5
    · obtain rfl : i = p.size := by omega
      rw [g2]
      congr 1
      omega
theorem below_ext (a : List ByteArray) {p : ByteArray} {d : Nat} (hd : d < 16) (hp : p.size < 64) : belowL a (ext p d) = (belowL a p).filter fun x => decide (dgt x p.size = (d : Int)) := by
  unfold belowL
  rw [List.filter_filter]
  congr 1
  funext x
  rw [has_ext hd hp, Bool.and_comm]
theorem chunk_filter (dep d : Nat) : ∀ (R : List ByteArray), (R.Pairwise fun x y => dgt x dep ≤ dgt y dep) → (∀ x, x ∈ R → (d : Int) ≤ dgt x dep) →
    R.take (chunk R dep d) = R.filter (fun x => decide (dgt x dep = (d : Int))) ∧ R.drop (chunk R dep d) = R.filter (fun x => decide (((d + 1 : Nat) : Int) ≤ dgt x dep))
  | [], _, _ => ⟨rfl, rfl⟩
  | x :: r, hp, hd => by
    obtain ⟨h1, h2⟩ := List.pairwise_cons.1 hp
    have ih := chunk_filter dep d r h2 fun y hy => hd y (by simp [hy])
    by_cases he : dgt x dep = (d : Int)
    · have e : (dgt x dep == (d : Int)) = true := by simpa using he
      have ec : chunk (x :: r) dep d = chunk r dep d + 1 := by simp [chunk, e]
      rw [ec, List.take_succ_cons, List.drop_succ_cons, List.filter_cons, List.filter_cons, if_pos (by simpa using he), if_neg (by simp; omega), ih.1, ih.2]
      exact ⟨rfl, rfl⟩
    · have e : (dgt x dep == (d : Int)) = false := by simpa using he
      have ec : chunk (x :: r) dep d = 0 := by simp [chunk, e]
      have hx := hd x (by simp)
      have hall : ∀ y, y ∈ x :: r → ((d + 1 : Nat) : Int) ≤ dgt y dep := fun y hy => by
        rcases List.mem_cons.1 hy with rfl | hy
        · omega
        · have := h1 y hy; omega
      rw [ec, List.take_zero, List.drop_zero]
      constructor
      · symm
        rw [List.filter_eq_nil_iff]
        intro y hy
        have := hall y hy
        simp
        omega
      · symm
        exact List.filter_eq_self.2 fun y hy => by simpa using hall y hy
theorem kidsG_map (F : List ByteArray → ByteArray) (dep : Nat) (L : List ByteArray) (hp : L.Pairwise fun x y => dgt x dep ≤ dgt y dep) : ∀ r d, (∀ x, x ∈ L → True) →
    kidsG F dep r d (L.filter fun x => decide ((d : Int) ≤ dgt x dep)) = (List.range r).map fun i => F (L.filter fun x => decide (dgt x dep = ((d + i : Nat) : Int)))
  | 0, d, _ => rfl
  | r + 1, d, h => by
    have hq := hp.filter fun x => decide ((d : Int) ≤ dgt x dep)
    obtain ⟨e1, e2⟩ := chunk_filter dep d _ hq fun x hx => by simpa using (List.mem_filter.1 hx).2
    unfold kidsG
    rw [e1, e2, List.filter_filter, List.filter_filter, List.range_succ_eq_map, List.map_cons, List.map_map]
    congr 1
    · congr 1
      apply List.filter_congr
      intro x _
      simp only [Nat.add_zero]
      by_cases hh : dgt x dep = (d : Int)
      · simp [hh]
      · simp [hh]
    · have : (L.filter fun x => decide (((d + 1 : Nat) : Int) ≤ dgt x dep) && decide ((d : Int) ≤ dgt x dep)) = L.filter fun x => decide (((d + 1 : Nat) : Int) ≤ dgt x dep) := by
        apply List.filter_congr
        intro x _
        rw [Bool.eq_iff_iff]
        simp
        omega
      rw [this, kidsG_map F dep L hp r (d + 1) h]
      apply List.map_congr_left
      intro i _
      simp only [Function.comp]
      rw [show d + 1 + i = d + Nat.succ i by omega]
/-- How deep one may go makes no difference. -/
theorem cellS_fuel : ∀ (f g dep : Nat) (l : List ByteArray), Deep f dep l → Deep g dep l → cellS f dep l = cellS g dep l
  | f, g, dep, l, hf, hg => by
    by_cases h8 : l.length ≤ 8
    · rw [cellS_few h8, cellS_few h8]
    · have hf' : 1 ≤ f ∧ 65 ≤ f + dep := by rcases hf with h | h; omega; exact h
      have hg' : 1 ≤ g ∧ 65 ≤ g + dep := by rcases hg with h | h; omega; exact h
      obtain ⟨f, rfl⟩ : ∃ f', f = f' + 1 := ⟨f - 1, by omega⟩
      obtain ⟨g, rfl⟩ : ∃ g', g = g' + 1 := ⟨g - 1, by omega⟩
      have key : ∀ r d R, kidsG (fun r => (cellS f (dep + 1) r).1) dep r d R = kidsG (fun r => (cellS g (dep + 1) r).1) dep r d R := by
        intro r
        induction r with
        | zero => intro d R; rfl
        | succ r ih =>
          intro d R
          unfold kidsG
          rw [ih]
          congr 2
          refine cellS_fuel f g (dep + 1) _ ?_ ?_
          · rcases Nat.lt_or_ge dep 64 with h | h
            · exact Or.inr ⟨by omega, by omega⟩
            · rw [chunk_deep h]; exact Or.inl (by simp)
          · rcases Nat.lt_or_ge dep 64 with h | h
            · exact Or.inr ⟨by omega, by omega⟩
            · rw [chunk_deep h]; exact Or.inl (by simp)
      unfold cellS
      rw [if_neg h8, if_neg h8, key]
  termination_by f => f
/-- The kids are the sums at the longer prefixes. -/
theorem kids_are {a : List ByteArray} {p : ByteArray} (h : IsSet a) (hp : p.size < 64) (h8 : ¬ (belowL a p).length ≤ 8) :
    (cellS 65 p.size (belowL a p)).2 = (List.range 16).map fun d => mineS a (ext p d) := by
  have hS := h.below p
  have hpw : (belowL a p).Pairwise fun x y => dgt x p.size ≤ dgt y p.size := by
    refine (List.Pairwise.imp_of_mem ?_ hS.rise)
    intro x y hx hy hlt
    have sx := hS.size hx
    have sy := hS.size hy
    have bx := (hasB_iff.1 (List.mem_filter.1 hx).2).2.2
    have by_ := (hasB_iff.1 (List.mem_filter.1 hy).2).2.2
    unfold dgt
    rw [if_pos ⟨sx, hp⟩, if_pos ⟨sy, hp⟩]
    have := nib_mono sx sy hlt hp fun i hi => nib_inj (by rw [← bx i hi, by_ i hi])
    omega
  have hge : (belowL a p).filter (fun x => decide (((0 : Nat) : Int) ≤ dgt x p.size)) = belowL a p := List.filter_eq_self.2 fun x hx => by
    unfold dgt
    rw [if_pos ⟨hS.size hx, hp⟩]
    simp
  have hk := kidsG_map (fun r => (cellS 64 (p.size + 1) r).1) p.size (belowL a p) hpw 16 0 fun _ _ => trivial
  rw [hge] at hk
  have e : (cellS 65 p.size (belowL a p)).2 = kidsG (fun r => (cellS 64 (p.size + 1) r).1) p.size 16 0 (belowL a p) := by
    show (if (belowL a p).length ≤ 8 then (leafS (belowL a p), []) else (innerS (kidsG (fun r => (cellS 64 (p.size + 1) r).1) p.size 16 0 (belowL a p)), kidsG (fun r => (cellS 64 (p.size + 1) r).1) p.size 16 0 (belowL a p))).2 = _
    rw [if_neg h8]
  rw [e, hk]
  apply List.map_congr_left
  intro d hd
  have hd16 := List.mem_range.1 hd
  unfold mineS
  rw [ext_size, below_ext a hd16 hp, show 0 + d = d by omega]
  rw [cellS_fuel 64 65 (p.size + 1) _ (Or.inr ⟨by omega, by omega⟩) (Or.inr ⟨by omega, by omega⟩)]
end Go.Proofs.YtjkhmjklmclpoaaGreat.Tr
