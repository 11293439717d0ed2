/- Where two grown commits meet: plain law. No program is walked. (Layer 11.) -/
import Derived.Test.YthcgdpdijdmelaaGreatOrdGP
import Derived.Test.YthcgdpdijdmelaaGreatOrd17
namespace Go.Proofs.YthcgdpdijdmelaaGreat.Ord
set_option linter.unusedVariables false
open Go.RowKit
def ids (M : List Fv) : List ByteArray := M.map (·.id)
theorem ids_length (M : List Fv) : (ids M).length = M.length := by simp [ids]
theorem mem_ids {M : List Fv} {x : ByteArray} : x ∈ ids M ↔ ∃ z, z ∈ M ∧ z.id = x := by simp [ids]
theorem gid_ne (i : Nat) : gid i ≠ ⟨#[]⟩ := fun h => by
  have := congrArg ByteArray.size h
  simp [gid, ByteArray.size] at this
theorem first_spec (B : List ByteArray) : ∀ (M : List Fv), (M.Pairwise fun x y => lowF y x) →
    (firstIn (ids M) B = ⟨#[]⟩ ∧ ∀ z, z ∈ M → ¬ z.id ∈ B) ∨ (∃ z, z ∈ M ∧ z.id ∈ B ∧ firstIn (ids M) B = z.id ∧ ∀ y, y ∈ M → y.id ∈ B → y = z ∨ lowF y z)
  | [], _ => Or.inl ⟨rfl, fun z h => absurd h (by simp)⟩
  | m :: r, hp => by
    obtain ⟨h1, h2⟩ := List.pairwise_cons.1 hp
    by_cases hm : m.id ∈ B
    · refine Or.inr ⟨m, by simp, hm, ?_, fun y hy _ => ?_⟩
      · show ((m.id :: ids r).find? fun x => holds (x ∈ B)).getD ⟨#[]⟩ = _
        rw [List.find?_cons, holds_true hm]
        rfl
      · rcases List.mem_cons.1 hy with rfl | hy
        · exact Or.inl rfl
        · exact Or.inr (h1 y hy)
    · have e : firstIn (ids (m :: r)) B = firstIn (ids r) B := by
        show ((m.id :: ids r).find? fun x => holds (x ∈ B)).getD ⟨#[]⟩ = _
        rw [List.find?_cons, holds_false hm]
        rfl
      rcases first_spec B r h2 with ⟨h3, h4⟩ | ⟨z, h3, h4, h5, h6⟩
      · refine Or.inl ⟨e.trans h3, fun z hz => ?_⟩
        rcases List.mem_cons.1 hz with rfl | hz
        · exact hm
        · exact h4 z hz
      · refine Or.inr ⟨z, by simp [h3], h4, e.trans h5, fun y hy hb => ?_⟩
        rcases List.mem_cons.1 hy with rfl | hy
        · exact absurd hb hm
        · exact h6 y hy hb
section
variable {n : Nat} {f : Nat → Fv} {a b : Nat} {M N : List Fv}
theorem GLog.at_ (h : GLog n f a M) (ha : a < n) {z : Fv} (hz : z ∈ M) : ∃ i, i < n ∧ f i = z := by
  obtain ⟨i, hi, _, he⟩ := (h.mem z).1 hz
  exact ⟨i, by omega, he⟩
theorem GLog.self (h : GLog n f a M) : f a ∈ M := (h.mem _).2 ⟨a, Nat.le_refl _, .self, rfl⟩
theorem GLog.id_in (hg : Grown n f) (ha : a < n) (hb : b < n) (h : GLog n f a M) (k : GLog n f b N) {z : Fv} (hz : z ∈ M) : z.id ∈ ids N ↔ z ∈ N := by
  constructor
  · intro hin
    obtain ⟨y, hy, he⟩ := mem_ids.1 hin
    obtain ⟨i, hi, rfl⟩ := h.at_ ha hz
    obtain ⟨j, hj, rfl⟩ := k.at_ hb hy
    rw [hg.dist j i hj hi he] at hy
    exact hy
  · exact fun hn => mem_ids.2 ⟨z, hn, rfl⟩
/-- Where they meet. -/
def MeetAt (M N : List Fv) (x : ByteArray) : Prop := (x = ⟨#[]⟩ ∧ ∀ z, z ∈ M → ¬ z ∈ N) ∨ (∃ z, z ∈ M ∧ z ∈ N ∧ x = z.id ∧ ∀ y, y ∈ M → y ∈ N → y = z ∨ lowF y z)
theorem meet_at (hg : Grown n f) (ha : a < n) (hb : b < n) (h : GLog n f a M) (k : GLog n f b N) : MeetAt M N (firstIn (ids M) (ids N)) := by
  rcases first_spec (ids N) M h.falls with ⟨h1, h2⟩ | ⟨z, h1, h2, h3, h4⟩
  · exact Or.inl ⟨h1, fun z hz hn => h2 z hz ((GLog.id_in hg ha hb h k hz).2 hn)⟩
  · exact Or.inr ⟨z, h1, (GLog.id_in hg ha hb h k h1).1 h2, h3, fun y hy hn => h4 y hy ((GLog.id_in hg ha hb h k hy).2 hn)⟩
theorem MeetAt.turn {x y : ByteArray} (h : MeetAt M N x) (k : MeetAt N M y) : x = y := by
  rcases h with ⟨h1, h2⟩ | ⟨z, h1, h2, h3, h4⟩
  · rcases k with ⟨k1, _⟩ | ⟨u, k1, k2, _⟩
    · rw [h1, k1]
    · exact absurd k1 (h2 u k2)
  · rcases k with ⟨_, k2⟩ | ⟨u, k1, k2, k3, k4⟩
    · exact absurd h1 (k2 z h2)
    · rcases h4 u k2 k1 with e | e
      · rw [h3, k3, e]
      · rcases k4 z h2 h1 with e' | e'
        · rw [h3, k3, e']
        · exact absurd (low_trans e e') (low_irrefl _)
theorem base_turn (hg : Grown n f) (ha : a < n) (hb : b < n) (h : GLog n f a M) (k : GLog n f b N) : firstIn (ids N) (ids M) = firstIn (ids M) (ids N) :=
  (meet_at hg hb ha k h).turn (meet_at hg ha hb h k)
theorem base_empty (hg : Grown n f) (ha : a < n) (hb : b < n) (h : GLog n f a M) (k : GLog n f b N) {K : List ByteArray} (hK : ∀ x, x ∈ K ↔ x ∈ ids M ∧ x ∈ ids N) :
    (firstIn (ids M) (ids N) = ⟨#[]⟩ ∧ K.length = 0) ∨ (firstIn (ids M) (ids N) ≠ ⟨#[]⟩ ∧ K.length ≠ 0 ∧ firstIn (ids M) (ids N) ∈ K) := by
  rcases meet_at hg ha hb h k with ⟨h1, h2⟩ | ⟨z, h1, h2, h3, h4⟩
  · refine Or.inl ⟨h1, ?_⟩
    cases K with
    | nil => rfl
    | cons x r =>
      obtain ⟨q1, q2⟩ := (hK x).1 (by simp)
      obtain ⟨u, hu, rfl⟩ := mem_ids.1 q1
      exact absurd ((GLog.id_in hg ha hb h k hu).1 q2) (h2 u hu)
  · have hm : z.id ∈ K := (hK _).2 ⟨mem_ids.2 ⟨z, h1, rfl⟩, mem_ids.2 ⟨z, h2, rfl⟩⟩
    obtain ⟨i, hi, rfl⟩ := h.at_ ha h1
    refine Or.inr ⟨by rw [h3, hg.id i hi]; exact gid_ne i, fun h0 => ?_, by rw [h3]; exact hm⟩
    rw [List.eq_nil_of_length_eq_zero h0] at hm
    cases hm
theorem base_top (hg : Grown n f) (ha : a < n) (hb : b < n) (h : GLog n f a M) (k : GLog n f b N) {K : List ByteArray} (hK : ∀ x, x ∈ K ↔ x ∈ ids M ∧ x ∈ ids N) {i j : Nat} (hi : i < n) (hj : j < n) (hx : (f i).id ∈ K) (he : (f j).id = firstIn (ids M) (ids N)) :
    ¬ cmpF (f i) (f j) > 0 := by
  obtain ⟨q1, q2⟩ := (hK _).1 hx
  obtain ⟨u, hu, he1⟩ := mem_ids.1 q1
  obtain ⟨i', hi', rfl⟩ := h.at_ ha hu
  obtain rfl := hg.dist i' i hi' hi he1
  have hN := (GLog.id_in hg ha hb h k hu).1 q2
  rcases meet_at hg ha hb h k with ⟨h1, h2⟩ | ⟨z, h1, h2, h3, h4⟩
  · exact absurd hN (h2 _ hu)
  · obtain ⟨j', hj', rfl⟩ := h.at_ ha h1
    obtain rfl := hg.dist j j' hj hj' (he.trans h3)
    intro hc
    rcases h4 _ hu hN with e | e
    · rw [e, (cmp_zero _ _).2 ⟨rfl, rfl⟩] at hc
      omega
    · have := (cmp_neg _ _).2 e
      omega
theorem met_h (hg : Grown n f) (hb : b < n) {x : ByteArray} (hx : Met n f (f b).id x) : ∃ i, i < n ∧ x = (f i).id ∧ (i = b ∨ (f i).h < (f b).h) := by
  induction hx with
  | self => exact ⟨b, hb, rfl, Or.inl rfl⟩
  | step hi hr hk ih =>
    obtain ⟨i', hi', he, hc⟩ := ih
    have he := hg.dist _ _ hi hi' he
    obtain ⟨j, hj, hp⟩ := hg.par _ hi _ hk
    have ht := hg.top _ hi _ hk j hj hp
    refine ⟨j, by omega, by rw [hp, hg.id j (by omega)], Or.inr ?_⟩
    rw [he] at ht
    rcases hc with rfl | hc
    · omega
    · omega
theorem base_old (hg : Grown n f) (ha : a < n) (hb : b < n) (h : GLog n f a M) (k : GLog n f b N) (hx : (f b).id ∈ ids M) : firstIn (ids M) (ids N) = (f b).id := by
  have hbN := k.self
  have hbM : f b ∈ M := by
    obtain ⟨u, hu, he⟩ := mem_ids.1 hx
    obtain ⟨i, hi, rfl⟩ := h.at_ ha hu
    rw [hg.dist i b hi hb he] at hu
    exact hu
  rcases meet_at hg ha hb h k with ⟨h1, h2⟩ | ⟨z, h1, h2, h3, h4⟩
  · exact absurd hbN (h2 _ hbM)
  · rcases h4 _ hbM hbN with e | e
    · rw [h3, e]
    · obtain ⟨i, hi, hmet, rfl⟩ := (k.mem z).1 h2
      obtain ⟨i', hi', he', hc⟩ := met_h hg hb hmet
      obtain rfl := hg.dist i i' (by omega) hi' he'
      rcases hc with rfl | hc
      · rw [h3]
      · rcases e with e | ⟨e, _⟩
        · omega
        · omega
end
end Go.Proofs.YthcgdpdijdmelaaGreat.Ord
