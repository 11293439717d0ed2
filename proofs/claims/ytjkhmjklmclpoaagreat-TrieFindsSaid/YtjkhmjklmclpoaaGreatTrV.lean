/- What the law of finding says in plain: the prefixes still to be asked, what is found so far. No program is walked. (Layer 10.) -/
import Derived.Test.YtjkhmjklmclpoaaGreatTrS
namespace Go.Proofs.YtjkhmjklmclpoaaGreat.Tr
set_option linter.unusedVariables false
set_option linter.unusedSimpArgs false
open Go.RowKit Go.Lib
open Set (StrAt scells El Rise)
/-- Two sets have the same ids below a prefix. -/
def AL (a b : List ByteArray) (p : ByteArray) : Prop := ∀ x, (x ∈ a ∧ hasB x p = true) ↔ (x ∈ b ∧ hasB x p = true)
/-- How many cells are looked at below a prefix, at most. -/
def pot (b : List ByteArray) (p : ByteArray) : Nat := 1 + 2 * (belowL b p).length * (64 - p.size)
def potL (b T : List ByteArray) : Nat := (T.map (pot b)).sum
theorem potL_cons (b : List ByteArray) (p : ByteArray) (T : List ByteArray) : potL b (p :: T) = pot b p + potL b T := by simp [potL]
theorem potL_app (b S T : List ByteArray) : potL b (S ++ T) = potL b S + potL b T := by simp [potL]
theorem potL_len (b : List ByteArray) : ∀ T : List ByteArray, T.length ≤ potL b T
  | [] => Nat.le_refl _
  | p :: T => by
    have := potL_len b T
    rw [potL_cons, List.length_cons]
    unfold pot
    omega
def Off (p q : ByteArray) : Prop := ∀ x, ¬ (hasB x p = true ∧ hasB x q = true)
structure PInv (a b T F : List ByteArray) (cl : Bool) (k : Nat) : Prop where
  pfx : ∀ p, p ∈ T → pfxB p = true
  apart : T.Pairwise Off
  mem : ∀ x, x ∈ F → x ∈ b ∧ ¬ x ∈ a
  out : ∀ x, x ∈ F → ∀ p, p ∈ T → hasB x p = false
  all : cl = false → ∀ x, x ∈ b → ¬ x ∈ a → x ∈ F ∨ ∃ p, p ∈ T ∧ hasB x p = true
  cnt : k + potL b T ≤ 10241
theorem PInv.start {a b : List ByteArray} (hb : IsSet b) (hn : b.length ≤ 80) : PInv a b [⟨#[]⟩] [] false 0 := by
  refine ⟨fun p hp => ?_, by simp, fun x hx => absurd hx (by simp), fun x hx => absurd hx (by simp), fun _ x hx _ => Or.inr ⟨⟨#[]⟩, by simp, has_empty (hb.size hx)⟩, ?_⟩
  · obtain rfl := List.mem_singleton.1 hp
    exact pfx_empty
  · have e : pot b ⟨#[]⟩ = 1 + 2 * b.length * (64 - 0) := by
      unfold pot
      rw [below_empty fun x hx => hb.size hx]
      rfl
    rw [potL_cons, e]
    show 0 + (1 + 2 * b.length * (64 - 0) + 0) ≤ 10241
    omega
theorem off_ext {p : ByteArray} {i j : Nat} (hp : p.size < 64) (hi : i < 16) (hj : j < 16) (hne : i ≠ j) : Off (ext p i) (ext p j) := fun x ⟨h1, h2⟩ => by
  rw [has_ext hi hp, Bool.and_eq_true, decide_eq_true_iff] at h1
  rw [has_ext hj hp, Bool.and_eq_true, decide_eq_true_iff] at h2
  have := h1.2
  have := h2.2
  omega
theorem has_of_ext {x p : ByteArray} {i : Nat} (hp : p.size < 64) (hi : i < 16) (h : hasB x (ext p i) = true) : hasB x p = true := by
  rw [has_ext hi hp, Bool.and_eq_true] at h
  exact h.1
theorem ext_of_has {x p : ByteArray} (hp : p.size < 64) (h : hasB x p = true) : ∃ d, d < 16 ∧ hasB x (ext p d) = true := by
  refine ⟨nib x p.size, nib_lt x p.size, ?_⟩
  rw [has_ext (nib_lt x p.size) hp, h, Bool.true_and]
  have h2 := (hasB_iff.1 h).1
  unfold dgt
  rw [if_pos ⟨h2, hp⟩]
  exact decide_eq_true rfl
theorem mem_asks {a : List ByteArray} {c : Cp} {q : ByteArray} : ∀ n, q ∈ asksU a c n ↔ ∃ d, d < n ∧ q = ext c.pre d ∧ c.kids[d]! ≠ mineS a (ext c.pre d) ∧ c.kids[d]! ≠ leafS []
  | 0 => ⟨fun h => absurd h (by simp [asksU]), fun ⟨d, h, _⟩ => by omega⟩
  | n + 1 => by
    have ih := mem_asks (a := a) (c := c) (q := q) n
    rw [asksU_succ]
    by_cases h : c.kids[n]! ≠ mineS a (ext c.pre n) ∧ c.kids[n]! ≠ leafS []
    · rw [if_pos h, List.mem_append, List.mem_singleton, ih]
      constructor
      · rintro (⟨d, hd, r⟩ | rfl)
        · exact ⟨d, by omega, r⟩
        · exact ⟨n, by omega, rfl, h⟩
      · rintro ⟨d, hd, rfl, r⟩
        rcases Nat.lt_or_ge d n with h5 | h5
        · exact Or.inl ⟨d, h5, rfl, r⟩
        · obtain rfl : d = n := by omega
          exact Or.inr rfl
    · rw [if_neg h, ih]
      constructor
      · rintro ⟨d, hd, r⟩
        exact ⟨d, by omega, r⟩
      · rintro ⟨d, hd, hq, r⟩
        rcases Nat.lt_or_ge d n with h5 | h5
        · exact ⟨d, h5, hq, r⟩
        · obtain rfl : d = n := by omega
          exact absurd r h
theorem asks_off {a : List ByteArray} {c : Cp} (hp : c.pre.size < 64) : ∀ n, n ≤ 16 → (asksU a c n).Pairwise Off
  | 0, _ => by simp [asksU]
  | n + 1, hn => by
    have ih := asks_off (a := a) (c := c) hp n (by omega)
    rw [asksU_succ]
    by_cases h : c.kids[n]! ≠ mineS a (ext c.pre n) ∧ c.kids[n]! ≠ leafS []
    · rw [if_pos h, List.pairwise_append]
      refine ⟨ih, by simp, fun q hq r hr => ?_⟩
      obtain rfl := List.mem_singleton.1 hr
      obtain ⟨d, hd, rfl, _⟩ := (mem_asks n).1 hq
      exact off_ext hp (by omega) (by omega) (by omega)
    · rw [if_neg h]
      exact ih
theorem asks_pot {a b : List ByteArray} {c : Cp} : ∀ n, potL b (asksU a c n) ≤ n + 2 * msum b c.pre n * (64 - (c.pre.size + 1))
  | 0 => by simp [asksU, potL]
  | n + 1 => by
    have ih := asks_pot (a := a) (b := b) (c := c) n
    have e : msum b c.pre (n + 1) = msum b c.pre n + (belowL b (ext c.pre n)).length := rfl
    have e2 : 2 * (msum b c.pre n + (belowL b (ext c.pre n)).length) * (64 - (c.pre.size + 1)) = 2 * msum b c.pre n * (64 - (c.pre.size + 1)) + 2 * (belowL b (ext c.pre n)).length * (64 - (c.pre.size + 1)) := by
      rw [Nat.mul_add, Nat.add_mul]
    rw [asksU_succ, e, e2]
    by_cases h : c.kids[n]! ≠ mineS a (ext c.pre n) ∧ c.kids[n]! ≠ leafS []
    · rw [if_pos h, potL_app, potL_cons]
      have e3 : potL b [] = 0 := rfl
      unfold pot
      rw [ext_size]
      omega
    · rw [if_neg h]
      omega
/-- What a cell looked at shows. -/
theorem showC_few {b : List ByteArray} {p : ByteArray} (h8 : (belowL b p).length ≤ 8) : (cellC (belowL b p) p).ids = belowL b p ∧ (cellC (belowL b p) p).kids = [] ∧ (cellC (belowL b p) p).pre = p := by
  refine ⟨by rw [cellC_ids, if_pos h8], by rw [cellC_kids, cellS_few h8], cellC_pre _ _⟩
theorem showC_many {b : List ByteArray} {p : ByteArray} (hb : IsSet b) (hz : p.size < 64) (h8 : ¬ (belowL b p).length ≤ 8) : (cellC (belowL b p) p).ids = [] ∧ (cellC (belowL b p) p).kids.length = 16 ∧ (cellC (belowL b p) p).pre = p := by
  refine ⟨by rw [cellC_ids, if_neg h8], ?_, cellC_pre _ _⟩
  rw [cellC_kids, kids_are hb hz h8]
  simp
theorem own_drawE {a b : List ByteArray} {p : ByteArray} (ha : IsSet a) (hb : IsSet b) (hp : pfxB p = true) (hn : b.length ≤ 1000000) : drawE a (cellC (belowL b p) p) = 0 := by
  unfold drawE
  rw [holds_true ha]
  exact chk_cell hb hp hn
theorem lacks_mem {a b : List ByteArray} {p x : ByteArray} (h : x ∈ lacksL a (cellC (belowL b p) p)) : x ∈ b ∧ ¬ x ∈ a ∧ hasB x p = true ∧ (belowL b p).length ≤ 8 := by
  unfold lacksL at h
  obtain ⟨h1, h2⟩ := List.mem_filter.1 h
  rw [cellC_ids] at h1
  by_cases h8 : (belowL b p).length ≤ 8
  · rw [if_pos h8] at h1
    obtain ⟨h3, h4⟩ := List.mem_filter.1 h1
    refine ⟨h3, fun hx => ?_, h4, h8⟩
    rw [Set.has_true hx] at h2
    cases h2
  · rw [if_neg h8] at h1
    exact absurd h1 (by simp)
theorem lacks_nodup {a b : List ByteArray} {p : ByteArray} (hb : IsSet b) : (lacksL a (cellC (belowL b p) p)).Pairwise (· ≠ ·) := by
  unfold lacksL
  refine List.Pairwise.filter _ ?_
  rw [cellC_ids]
  split
  · have hr : Rise (belowL b p) := (hb.below p).rise
    exact rise_ne hr
  · simp
where
  rise_ne {l : List ByteArray} (h : Rise l) : l.Pairwise (· ≠ ·) := by
    refine List.Pairwise.imp ?_ h
    intro x y hxy he
    subst he
    exact El.irr x hxy
theorem PInv.step {a b R F F' : List ByteArray} {p : ByteArray} {cl cl' : Bool} {k : Nat} (h : PInv a b (p :: R) F cl k) (ha : IsSet a) (hb : IsSet b) (hn : b.length ≤ 80) (hF : ∀ x, x ∈ F' ↔ x ∈ F ∨ x ∈ drawL a (cellC (belowL b p) p))
    (hcl : cl' = false → cl = false ∧ ∀ j, j < (cellC (belowL b p) p).kids.length → (mineS a (ext p j) = (cellC (belowL b p) p).kids[j]! → AL a b (ext p j)) ∧ ((cellC (belowL b p) p).kids[j]! = leafS [] → AL [] b (ext p j))) :
    PInv a b (R ++ drawA a (cellC (belowL b p) p)) F' cl' (k + 1) := by
  have hp := h.pfx p (by simp)
  have hE := own_drawE ha hb hp (by omega)
  have hL : drawL a (cellC (belowL b p) p) = lacksL a (cellC (belowL b p) p) := by unfold drawL; rw [if_pos hE]
  have hA : drawA a (cellC (belowL b p) p) = asksU a (cellC (belowL b p) p) (cellC (belowL b p) p).kids.length := by unfold drawA; rw [if_pos hE]
  rw [hA]
  rw [hL] at hF
  obtain ⟨hoff, hRoff⟩ := List.pairwise_cons.1 h.apart
  have hcnt := h.cnt
  rw [potL_cons] at hcnt
  by_cases h8 : (belowL b p).length ≤ 8
  · obtain ⟨hi, hk, hpre⟩ := showC_few h8
    rw [hk]
    have e : asksU a (cellC (belowL b p) p) ([] : List ByteArray).length = [] := rfl
    rw [e, List.append_nil]
    refine ⟨fun q hq => h.pfx q (by simp [hq]), hRoff, fun x hx => ?_, fun x hx q hq => ?_, fun hc x hx hxa => ?_, ?_⟩
    · rcases (hF x).1 hx with hx | hx
      · exact h.mem x hx
      · have := lacks_mem hx
        exact ⟨this.1, this.2.1⟩
    · rcases (hF x).1 hx with hx | hx
      · exact h.out x hx q (by simp [hq])
      · have h3 := (lacks_mem hx).2.2.1
        cases hq2 : hasB x q with
        | false => rfl
        | true => exact absurd ⟨h3, hq2⟩ (hoff q hq x)
    · rcases h.all (hcl hc).1 x hx hxa with h1 | ⟨q, hq, h1⟩
      · exact Or.inl ((hF x).2 (Or.inl h1))
      · rcases List.mem_cons.1 hq with rfl | hq
        · refine Or.inl ((hF x).2 (Or.inr ?_))
          unfold lacksL
          refine List.mem_filter.2 ⟨?_, by rw [Set.has_false hxa]; rfl⟩
          rw [hi]
          exact List.mem_filter.2 ⟨hx, h1⟩
        · exact Or.inr ⟨q, hq, h1⟩
    · have : 1 ≤ pot b p := by unfold pot; omega
      omega
  · have hz := many_short hb hp h8
    obtain ⟨hi, hk, hpre⟩ := showC_many hb hz h8
    rw [hk] at hcl ⊢
    have hLn : ∀ x, ¬ x ∈ lacksL a (cellC (belowL b p) p) := fun x hx => h8 (lacks_mem hx).2.2.2
    have hF2 : ∀ x, x ∈ F' ↔ x ∈ F := fun x => by
      rw [hF]
      exact ⟨fun h => h.resolve_right (hLn x), Or.inl⟩
    have hmem : ∀ q, q ∈ asksU a (cellC (belowL b p) p) 16 → ∃ d, d < 16 ∧ q = ext p d := fun q hq => by
      obtain ⟨d, hd, hq2, _⟩ := (mem_asks 16).1 hq
      rw [hpre] at hq2
      exact ⟨d, hd, hq2⟩
    refine ⟨fun q hq => ?_, ?_, fun x hx => h.mem x ((hF2 x).1 hx), fun x hx q hq => ?_, fun hc x hx hxa => ?_, ?_⟩
    · rcases List.mem_append.1 hq with hq | hq
      · exact h.pfx q (by simp [hq])
      · obtain ⟨d, hd, rfl⟩ := hmem q hq
        exact pfx_ext hp hz hd
    · rw [List.pairwise_append]
      refine ⟨hRoff, asks_off (by rw [hpre]; exact hz) 16 (Nat.le_refl _), fun q hq r hr x ⟨h1, h2⟩ => ?_⟩
      obtain ⟨d, hd, rfl⟩ := hmem r hr
      exact hoff q hq x ⟨has_of_ext hz hd h2, h1⟩
    · have hxF := (hF2 x).1 hx
      rcases List.mem_append.1 hq with hq | hq
      · exact h.out x hxF q (by simp [hq])
      · obtain ⟨d, hd, rfl⟩ := hmem q hq
        cases hq2 : hasB x (ext p d) with
        | false => rfl
        | true =>
          have := h.out x hxF p (by simp)
          rw [has_of_ext hz hd hq2] at this
          cases this
    · obtain ⟨hc0, hkids⟩ := hcl hc
      rcases h.all hc0 x hx hxa with h1 | ⟨q, hq, h1⟩
      · exact Or.inl ((hF2 x).2 h1)
      · rcases List.mem_cons.1 hq with rfl | hq
        · obtain ⟨d, hd, hxd⟩ := ext_of_has hz h1
          obtain ⟨k1, k2⟩ := hkids d hd
          refine Or.inr ⟨ext q d, List.mem_append.2 (Or.inr ((mem_asks 16).2 ⟨d, hd, by rw [hpre], fun he => ?_, fun he => ?_⟩)), hxd⟩
          · rw [hpre] at he
            exact hxa ((k1 he.symm x).2 ⟨hx, hxd⟩).1
          · exact absurd ((k2 he x).2 ⟨hx, hxd⟩).1 (by simp)
        · exact Or.inr ⟨q, List.mem_append.2 (Or.inl hq), h1⟩
    · have hpt := asks_pot (a := a) (b := b) (c := cellC (belowL b p) p) 16
      rw [hpre, msum_all hz] at hpt
      rw [potL_app]
      have e1 : pot b p = 1 + 2 * (belowL b p).length + 2 * (belowL b p).length * (64 - (p.size + 1)) := by
        unfold pot
        have e0 : 64 - p.size = (64 - (p.size + 1)) + 1 := by omega
        rw [e0, Nat.mul_add]
        omega
      omega
theorem PInv.found {a b F : List ByteArray} {k : Nat} (h : PInv a b [] F false k) : ∀ x, x ∈ F ↔ x ∈ b ∧ ¬ x ∈ a := fun x => by
  refine ⟨h.mem x, fun ⟨h1, h2⟩ => ?_⟩
  rcases h.all rfl x h1 h2 with h3 | ⟨p, hp, _⟩
  · exact h3
  · exact absurd hp (by simp)
theorem PInv.early {a b T F : List ByteArray} {cl : Bool} {k : Nat} (h : PInv a b T F cl k) (hT : 0 < T.length) : k < 20000 := by
  have := potL_len b T
  have := h.cnt
  omega
theorem PInv.short {a b T F : List ByteArray} {cl : Bool} {k : Nat} (h : PInv a b T F cl k) : T.length ≤ 10241 := by
  have := potL_len b T
  have := h.cnt
  omega
end Go.Proofs.YtjkhmjklmclpoaaGreat.Tr
