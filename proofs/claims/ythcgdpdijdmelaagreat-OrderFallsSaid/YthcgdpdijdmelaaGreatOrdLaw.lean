/- The laws of what is met, plain: the program's row of what was met, the reference's rounds, its list of what was put in order. No conditions, no program's code. (Layer 11.) -/
import Derived.Test.YthcgdpdijdmelaaGreatOrd0
import Derived.Test.YthcgdpdijdmelaaGreatStrMap
namespace Go.Proofs.YthcgdpdijdmelaaGreat.Ord
set_option linter.unusedVariables false
open Go.RowKit Go.Sort Go.Lib
theorem length_le_of_lt : ∀ (n : Nat) (l : List Nat), l.Nodup → (∀ j ∈ l, j < n) → l.length ≤ n
  | 0, l, _, h => by
    match l with
    | [] => exact Nat.le_refl _
    | x :: r => exact absurd (h x (by simp)) (by omega)
  | n + 1, l, hn, h => by
    have h1 := length_le_of_lt n (l.erase n) (hn.erase n) (fun j hj => by
      have h2 := (hn.mem_erase_iff).1 hj
      have := h j h2.2
      have := h2.1
      omega)
    rw [List.length_erase] at h1
    split at h1 <;> omega
/-- The book of the first n facts, as a map's pairs. -/
def bookL (n : Nat) (f : Nat → Fv) : List (ByteArray × Value) := (List.range n).map fun i => ((f i).id, aggF (f i))
theorem findAt_map (g : Nat → ByteArray) (v : Nat → Value) (x : ByteArray) : ∀ (l : List Nat) (i : Nat), (∀ j ∈ l, g j ≠ x) → findAt (l.map fun j => (g j, v j)) x i = none
  | [], _, _ => rfl
  | j :: r, i, h => by
    rw [List.map_cons, findAt, if_neg (fun e => h j (by simp) e.symm)]
    exact findAt_map g v x r (i + 1) fun j hj => h j (by simp [hj])
theorem findAt_map_some (g : Nat → ByteArray) (v : Nat → Value) (x : ByteArray) : ∀ (l : List Nat) (i : Nat) (j : Nat), j ∈ l → g j = x → (∀ j' ∈ l, g j' = x → j' = j) → ∃ c, findAt (l.map fun j => (g j, v j)) x i = some (c, v j)
  | [], _, _, h, _, _ => by cases h
  | j0 :: r, i, j, h, hg, hu => by
    rw [List.map_cons, findAt]
    by_cases e : x = g j0
    · rw [if_pos e]
      have := hu j0 (by simp) e.symm
      subst this
      exact ⟨i, rfl⟩
    · rw [if_neg e]
      rcases List.mem_cons.1 h with rfl | h
      · exact absurd hg.symm e
      · exact findAt_map_some g v x r (i + 1) j h hg fun j' hj' => hu j' (by simp [hj'])
theorem book_none {n : Nat} {f : Nat → Fv} {x : ByteArray} (h : ¬ Here n f x) : findAt (bookL n f) x 0 = none :=
  findAt_map _ _ x _ 0 fun j hj e => h ⟨j, List.mem_range.1 hj, e⟩
theorem book_some {n : Nat} {f : Nat → Fv} (hd : Dist n f) {i : Nat} (hi : i < n) : ∃ c, findAt (bookL n f) (f i).id 0 = some (c, aggF (f i)) :=
  findAt_map_some _ _ _ _ 0 i (List.mem_range.2 hi) rfl fun j hj e => hd j i (List.mem_range.1 hj) hi e
theorem bookL_put {n : Nat} {f : Nat → Fv} (h : ¬ Here n f (f n).id) : putAt (bookL n f) (f n).id (aggF (f n)) = bookL (n + 1) f := by
  rw [findAt_none _ _ 0 _ (book_none h)]
  unfold bookL
  rw [List.range_succ, List.map_append]
  rfl
/-- What was met as a map's pairs. -/
def seenL (f : Nat → Fv) (ix : List Nat) : List (ByteArray × Value) := ix.map fun j => ((f j).id, .bool true)
theorem seen_none {f : Nat → Fv} {ix : List Nat} {x : ByteArray} (h : ∀ j ∈ ix, (f j).id ≠ x) : findAt (seenL f ix) x 0 = none := findAt_map _ _ x _ 0 h
theorem seen_some {f : Nat → Fv} : ∀ {ix : List Nat} {j : Nat} (i : Nat), j ∈ ix → ∃ c, findAt (seenL f ix) (f j).id i = some (c, .bool true)
  | [], _, _, h => by cases h
  | j0 :: r, j, i, h => by
    unfold seenL
    rw [List.map_cons, findAt]
    by_cases e : (f j).id = (f j0).id
    · rw [if_pos e]; exact ⟨i, rfl⟩
    · rw [if_neg e]
      rcases List.mem_cons.1 h with rfl | h
      · exact absurd rfl e
      · exact seen_some (i + 1) h
theorem seenL_put {f : Nat → Fv} {ix : List Nat} {j : Nat} (h : ∀ j' ∈ ix, (f j').id ≠ (f j).id) : putAt (seenL f ix) (f j).id (.bool true) = seenL f (ix ++ [j]) := by
  rw [findAt_none _ _ 0 _ (seen_none h)]
  unfold seenL
  rw [List.map_append]
  rfl
/-- The program's row of what was met: ix are the facts' places; all parents of the first i are in it, and the first c parents of the i-th. -/
structure MetInv (n : Nat) (f : Nat → Fv) (s : ByteArray) (ix : List Nat) (i c : Nat) : Prop where
  nodup : ix.Nodup
  lt : ∀ j ∈ ix, j < n
  met : ∀ j ∈ ix, Met n f s (f j).id
  start : ∃ j ∈ ix, (f j).id = s
  done : ∀ a, (ha : a < ix.length) → ∀ k, k < (f ix[a]).np → (a < i ∨ (a = i ∧ k < c)) → ∃ j ∈ ix, (f j).id = (f ix[a]).p k
theorem MetInv.init {n : Nat} {f : Nat → Fv} {i : Nat} (hi : i < n) : MetInv n f (f i).id [i] 0 0 where
  nodup := by simp
  lt := by simpa using hi
  met := by simpa using Met.self
  start := ⟨i, by simp, rfl⟩
  done a _ k _ h := by omega
theorem MetInv.next {n : Nat} {f : Nat → Fv} {s : ByteArray} {ix : List Nat} {i : Nat} (hi : i < ix.length) (h : MetInv n f s ix i (f ix[i]).np) : MetInv n f s ix (i + 1) 0 :=
  ⟨h.nodup, h.lt, h.met, h.start, fun a ha k hk hak => by
    rcases Nat.lt_or_ge a i with h1 | h1
    · exact h.done a ha k hk (Or.inl h1)
    · obtain rfl : a = i := by omega
      exact h.done a ha k hk (Or.inr ⟨rfl, hk⟩)⟩
theorem MetInv.parent {n : Nat} {f : Nat → Fv} {s : ByteArray} {ix : List Nat} {i c : Nat} (hi : i < ix.length) (h : MetInv n f s ix i c) (hc : c < (f ix[i]).np) : Met n f s ((f ix[i]).p c) :=
  Met.step (h.lt _ (List.getElem_mem hi)) (h.met _ (List.getElem_mem hi)) hc
theorem MetInv.old {n : Nat} {f : Nat → Fv} {s : ByteArray} {ix : List Nat} {i c : Nat} (hi : i < ix.length) (h : MetInv n f s ix i c) {j : Nat} (hj : j ∈ ix) (he : (f j).id = (f ix[i]).p c) : MetInv n f s ix i (c + 1) :=
  ⟨h.nodup, h.lt, h.met, h.start, fun a ha k hk hak => by
    by_cases hx : a = i ∧ k = c
    · obtain ⟨rfl, rfl⟩ := hx
      exact ⟨j, hj, he⟩
    · exact h.done a ha k hk (by omega)⟩
theorem MetInv.new {n : Nat} {f : Nat → Fv} {s : ByteArray} {ix : List Nat} {i c : Nat} (hi : i < ix.length) (h : MetInv n f s ix i c) (hc : c < (f ix[i]).np) {j : Nat} (hj : j < n) (he : (f j).id = (f ix[i]).p c) (hn : ∀ j' ∈ ix, (f j').id ≠ (f j).id) : MetInv n f s (ix ++ [j]) i (c + 1) where
  nodup := List.nodup_append.2 ⟨h.nodup, by simp, fun a ha b hb e => by
    rw [List.mem_singleton.1 hb] at e
    exact hn a ha (by rw [e])⟩
  lt j' hj' := by
    rcases List.mem_append.1 hj' with h1 | h1
    · exact h.lt j' h1
    · rw [List.mem_singleton.1 h1]; exact hj
  met j' hj' := by
    rcases List.mem_append.1 hj' with h1 | h1
    · exact h.met j' h1
    · rw [List.mem_singleton.1 h1, he]; exact h.parent hi hc
  start := by
    obtain ⟨j0, h1, h2⟩ := h.start
    exact ⟨j0, by simp [h1], h2⟩
  done a ha k hk hak := by
    have ha' : a < ix.length := by
      simp at ha
      omega
    rw [List.getElem_append_left ha'] at hk ⊢
    by_cases hx : a = i ∧ k = c
    · obtain ⟨rfl, rfl⟩ := hx
      exact ⟨j, by simp, he⟩
    · obtain ⟨j0, h1, h2⟩ := h.done a ha' k hk (by omega)
      exact ⟨j0, by simp [h1], h2⟩
theorem MetInv.all {n : Nat} {f : Nat → Fv} {s : ByteArray} {ix : List Nat} (h : MetInv n f s ix ix.length 0) (hd : Dist n f) {x : ByteArray} (hx : Met n f s x) : ∃ j ∈ ix, (f j).id = x := by
  induction hx with
  | self => exact h.start
  | @step i k hi hr hk ih =>
    obtain ⟨j, hj, he⟩ := ih
    obtain rfl := hd _ _ (h.lt j hj) hi he
    obtain ⟨a, ha, hja⟩ := List.getElem_of_mem hj
    subst hja
    exact h.done a ha k hk (Or.inl ha)
theorem MetInv.len {n : Nat} {f : Nat → Fv} {s : ByteArray} {ix : List Nat} {i c : Nat} (h : MetInv n f s ix i c) : ix.length ≤ n := length_le_of_lt n ix h.nodup h.lt
/-- What was met, once its rows are closed and put in order, is the log. -/
theorem MetInv.mem {n : Nat} {f : Nat → Fv} {s : ByteArray} {ix : List Nat} (h : MetInv n f s ix ix.length 0) (hd : Dist n f) (x : Fv) : x ∈ ix.map f ↔ ∃ i, i < n ∧ Met n f s (f i).id ∧ f i = x := by
  rw [List.mem_map]
  constructor
  · rintro ⟨j, hj, rfl⟩
    exact ⟨j, h.lt j hj, h.met j hj, rfl⟩
  · rintro ⟨i, hi, hm, rfl⟩
    obtain ⟨j, hj, he⟩ := h.all hd hm
    obtain rfl := hd _ _ (h.lt j hj) hi he
    exact ⟨j, hj, rfl⟩
theorem ite_seen {c : Prop} [Decidable c] {b : Bool} (h : b = true) : (if c then true else b) = true := by rw [h, ite_self]
/-- The reference's rounds: seen tells what was met; all parents of those before i are seen to (and the first c of the i-th), if this round has found nothing new. -/
structure RefInv (n : Nat) (f : Nat → Fv) (s : ByteArray) (seen : Nat → Bool) (whole grown : Bool) (i c : Nat) : Prop where
  met : ∀ j, j < n → seen j = true → Met n f s (f j).id
  start : ∃ j, j < n ∧ seen j = true ∧ (f j).id = s
  open_ : whole = false → ∃ x, Met n f s x ∧ ¬ Here n f x
  done : grown = false → ∀ j, j < n → seen j = true → ∀ k, k < (f j).np → (j < i ∨ (j = i ∧ k < c)) → (place f ((f j).p k) n < n → seen (place f ((f j).p k) n) = true) ∧ (whole = true → Here n f ((f j).p k))
theorem RefInv.round {n : Nat} {f : Nat → Fv} {s : ByteArray} {seen : Nat → Bool} {whole grown : Bool} {i c : Nat} (h : RefInv n f s seen whole grown i c) : RefInv n f s seen whole false 0 0 :=
  ⟨h.met, h.start, h.open_, fun _ j hj hs k hk hjk => by omega⟩
theorem RefInv.next {n : Nat} {f : Nat → Fv} {s : ByteArray} {seen : Nat → Bool} {whole grown : Bool} {i c : Nat} (h : RefInv n f s seen whole grown i c) (hc : seen i = true → (f i).np ≤ c) : RefInv n f s seen whole grown (i + 1) 0 :=
  ⟨h.met, h.start, h.open_, fun hg j hj hs k hk hjk => by
    rcases Nat.lt_or_ge j i with h1 | h1
    · exact h.done hg j hj hs k hk (Or.inl h1)
    · obtain rfl : j = i := by omega
      exact h.done hg j hj hs k hk (Or.inr ⟨rfl, by have := hc hs; omega⟩)⟩
theorem RefInv.none_ {n : Nat} {f : Nat → Fv} {s : ByteArray} {seen : Nat → Bool} {whole grown : Bool} {i c : Nat} (h : RefInv n f s seen whole grown i c) (hi : i < n) (hs : seen i = true) (hc : c < (f i).np) (hp : ¬ place f ((f i).p c) n < n) : RefInv n f s seen false grown i (c + 1) :=
  ⟨h.met, h.start, fun _ => ⟨_, Met.step hi (h.met i hi hs) hc, fun hh => hp (place_here.2 hh)⟩, fun hg j hj hs k hk hjk => by
    refine ⟨fun hp' => ?_, fun h => by cases h⟩
    by_cases hx : j = i ∧ k = c
    · obtain ⟨rfl, rfl⟩ := hx
      exact absurd hp' hp
    · exact (h.done hg j hj hs k hk (by omega)).1 hp'⟩
theorem RefInv.old {n : Nat} {f : Nat → Fv} {s : ByteArray} {seen : Nat → Bool} {whole grown : Bool} {i c : Nat} (h : RefInv n f s seen whole grown i c) (hp : place f ((f i).p c) n < n) (ho : seen (place f ((f i).p c) n) = true) : RefInv n f s seen whole grown i (c + 1) :=
  ⟨h.met, h.start, h.open_, fun hg j hj hs k hk hjk => by
    by_cases hx : j = i ∧ k = c
    · obtain ⟨rfl, rfl⟩ := hx
      exact ⟨fun _ => ho, fun _ => place_here.1 hp⟩
    · exact h.done hg j hj hs k hk (by omega)⟩
theorem RefInv.new {n : Nat} {f : Nat → Fv} {s : ByteArray} {seen : Nat → Bool} {whole grown : Bool} {i c : Nat} (h : RefInv n f s seen whole grown i c) (hi : i < n) (hs : seen i = true) (hc : c < (f i).np) (hp : place f ((f i).p c) n < n) :
    RefInv n f s (fun j => if j = place f ((f i).p c) n then true else seen j) whole true i (c + 1) :=
  ⟨fun j hj hs' => by
    by_cases hx : j = place f ((f i).p c) n
    · rw [hx, place_at f _ n hp]
      exact Met.step hi (h.met i hi hs) hc
    · rw [if_neg hx] at hs'
      exact h.met j hj hs', by
    obtain ⟨j, h1, h2, h3⟩ := h.start
    exact ⟨j, h1, ite_seen h2, h3⟩, h.open_, fun hg => by cases hg⟩
theorem RefInv.all {n : Nat} {f : Nat → Fv} {s : ByteArray} {seen : Nat → Bool} {i c : Nat} (h : RefInv n f s seen true false i c) (hi : n ≤ i) (hd : Dist n f) {x : ByteArray} (hx : Met n f s x) : ∃ j, j < n ∧ seen j = true ∧ (f j).id = x := by
  induction hx with
  | self => exact h.start
  | @step i' k hi' hr hk ih =>
    obtain ⟨j, hj, hs, he⟩ := ih
    obtain rfl := hd _ _ hj hi' he
    obtain ⟨h1, h2⟩ := h.done rfl j hj hs k hk (Or.inl (by omega))
    have hp := place_here.2 (h2 rfl)
    exact ⟨_, hp, h1 hp, place_at f _ n hp⟩
/-- How many of the first n are not seen. -/
def unseen (seen : Nat → Bool) : Nat → Nat
  | 0 => 0
  | k + 1 => unseen seen k + if seen k then 0 else 1
theorem unseen_le (seen : Nat → Bool) : ∀ n, unseen seen n ≤ n
  | 0 => Nat.le_refl _
  | k + 1 => by
    have := unseen_le seen k
    unfold unseen
    split <;> omega
theorem unseen_set (seen : Nat → Bool) (i : Nat) : ∀ n, unseen (fun j => if j = i then true else seen j) n + (if i < n ∧ seen i = false then 1 else 0) = unseen seen n
  | 0 => by simp [unseen]
  | k + 1 => by
    have ih := unseen_set seen i k
    unfold unseen
    by_cases h1 : k = i
    · subst h1
      have e : ¬ (k < k ∧ seen k = false) := by omega
      rw [if_neg e] at ih
      generalize unseen (fun j => if j = k then true else seen j) k = U at *
      cases hs : seen k <;> simp <;> omega
    · have e : (i < k + 1 ∧ seen i = false) ↔ (i < k ∧ seen i = false) := ⟨fun h => ⟨by omega, h.2⟩, fun h => ⟨by omega, h.2⟩⟩
      simp only [h1, if_false, e]
      omega
/-- A fact put into a falling row. -/
def insF (x : Fv) : List Fv → List Fv
  | [] => [x]
  | y :: r => if cmpF x y > 0 then x :: y :: r else y :: insF x r
theorem insF_at (x : Fv) : ∀ (O : List Fv) (k : Nat) (hk : k < O.length), (∀ y ∈ O.take k, ¬ cmpF x y > 0) → cmpF x O[k] > 0 → insF x O = O.take k ++ x :: O.drop k
  | y :: r, 0, _, _, h => by
    simp only [List.getElem_cons_zero] at h
    simp [insF, h]
  | y :: r, k + 1, hk, h1, h => by
    have h2 := h1 y (by simp)
    simp only [List.getElem_cons_succ] at h
    rw [insF, if_neg h2, insF_at x r k (by simpa using hk) (fun z hz => h1 z (by simp [hz])) h]
    rfl
theorem insF_end (x : Fv) : ∀ (O : List Fv), (∀ y ∈ O, ¬ cmpF x y > 0) → insF x O = O ++ [x]
  | [], _ => rfl
  | y :: r, h => by
    rw [insF, if_neg (h y (by simp)), insF_end x r fun z hz => h z (by simp [hz])]
    rfl
theorem insF_mem (x : Fv) : ∀ (O : List Fv) (y : Fv), y ∈ insF x O ↔ y = x ∨ y ∈ O
  | [], y => by simp [insF]
  | z :: r, y => by
    unfold insF
    split
    · simp
    · rw [List.mem_cons, insF_mem x r y, List.mem_cons]
      constructor
      · rintro (h | h | h)
        · exact Or.inr (Or.inl h)
        · exact Or.inl h
        · exact Or.inr (Or.inr h)
      · rintro (h | h | h)
        · exact Or.inr (Or.inl h)
        · exact Or.inl h
        · exact Or.inr (Or.inr h)
theorem insF_falls (x : Fv) : ∀ (O : List Fv), O.Pairwise (fun x y => lowF y x) → (∀ y ∈ O, y.id ≠ x.id) → (insF x O).Pairwise fun x y => lowF y x
  | [], _, _ => by simp [insF]
  | z :: r, h, hn => by
    have h' := List.pairwise_cons.1 h
    unfold insF
    split
    · next hc =>
      have hz : lowF z x := (cmp_neg _ _).1 (by rw [cmp_anti]; omega)
      refine List.pairwise_cons.2 ⟨fun y hy => ?_, h⟩
      rcases List.mem_cons.1 hy with rfl | hy
      · exact hz
      · exact low_trans (h'.1 y hy) hz
    · next hc =>
      have hxz : lowF x z := by
        rcases low_total x z with h1 | h1 | h1
        · exact h1
        · exact absurd ((cmp_neg _ _).2 h1) (by rw [cmp_anti]; omega)
        · exact absurd h1.2.symm (hn z (by simp))
      refine List.pairwise_cons.2 ⟨fun y hy => ?_, insF_falls x r h'.2 fun y hy => hn y (by simp [hy])⟩
      rcases (insF_mem x r y).1 hy with rfl | hy
      · exact hxz
      · exact h'.1 y hy
end Go.Proofs.YthcgdpdijdmelaaGreat.Ord
