/- The laws of the reference's list of what was met: a fact put into a falling row, step by step. No conditions, no program's code. (Layer 11.) -/
import Derived.Test.YthcgdpdijdmelaaGreatOrd12
import Derived.Test.YthcgdpdijdmelaaGreatOrd13
import Derived.Test.YthcgdpdijdmelaaGreatOrd14
namespace Go.Proofs.YthcgdpdijdmelaaGreat.Ord
set_option linter.unusedVariables false
open Go.RowKit Go.Sort Go.Lib
/-- How far a fact is put into a row: m of it are gone over. -/
def InsAt (x : Fv) (O : List Fv) (m : Nat) (put : Bool) (N : List Fv) : Prop :=
  (put = true → N ++ O.drop m = insF x O) ∧ (put = false → N = O.take m ∧ ∀ y ∈ O.take m, ¬ cmpF x y > 0) ∧ N.length ≤ m + 1
theorem InsAt.start (x : Fv) (O : List Fv) : InsAt x O 0 false [] := ⟨(fun h => nomatch h), fun _ => ⟨rfl, by simp⟩, by simp⟩
theorem InsAt.past {x : Fv} {O N : List Fv} {m : Nat} (h : InsAt x O m true N) (hm : m < O.length) : InsAt x O (m + 1) true (N ++ [O[m]]) :=
  ⟨fun _ => by rw [← h.1 rfl, List.append_assoc, List.drop_eq_getElem_cons hm]; rfl, (fun h => nomatch h), by have := h.2.2; simp; omega⟩
theorem InsAt.here {x : Fv} {O N : List Fv} {m : Nat} (h : InsAt x O m false N) (hm : m < O.length) (hc : cmpF x O[m] > 0) : InsAt x O (m + 1) true (N ++ [x] ++ [O[m]]) := by
  obtain ⟨h1, h2⟩ := h.2.1 rfl
  refine ⟨fun _ => ?_, (fun h => nomatch h), ?_⟩
  · rw [insF_at x O m hm h2 hc, h1]
    have e : O.drop m = O[m] :: O.drop (m + 1) := List.drop_eq_getElem_cons hm
    rw [e]
    simp
  · rw [h1]
    simp
    omega
theorem InsAt.pass {x : Fv} {O N : List Fv} {m : Nat} (h : InsAt x O m false N) (hm : m < O.length) (hc : ¬ cmpF x O[m] > 0) : InsAt x O (m + 1) false (N ++ [O[m]]) := by
  obtain ⟨h1, h2⟩ := h.2.1 rfl
  have e : O.take (m + 1) = O.take m ++ [O[m]] := by rw [List.take_succ_eq_append_getElem hm]
  refine ⟨(fun h => nomatch h), fun _ => ⟨by rw [e, h1], fun y hy => ?_⟩, ?_⟩
  · rw [e] at hy
    rcases List.mem_append.1 hy with hy | hy
    · exact h2 y hy
    · rw [List.mem_singleton.1 hy]; exact hc
  · rw [h1]; simp; omega
theorem InsAt.endT {x : Fv} {O N : List Fv} (h : InsAt x O O.length true N) : N = insF x O := by
  have := h.1 rfl
  simpa using this
theorem InsAt.endF {x : Fv} {O N : List Fv} (h : InsAt x O O.length false N) : N ++ [x] = insF x O := by
  obtain ⟨h1, h2⟩ := h.2.1 rfl
  simp at h1 h2
  rw [h1, insF_end x O (by simpa using h2)]
theorem insF_length (x : Fv) : ∀ O : List Fv, (insF x O).length = O.length + 1
  | [] => rfl
  | y :: r => by
    unfold insF
    split
    · simp
    · simp [insF_length x r]
/-- What the reference's rounds over the facts keep. -/
structure RLog (w1 : World) (n : Nat) (f : Nat → Fv) (seen : Nat → Bool) (k : Nat) (O : List Fv) (v : Value) (wr : World) : Prop where
  sl : SlIs wr w1.heap.size 28 3 v O.length (fcells O)
  falls : O.Pairwise fun x y => lowF y x
  mem : ∀ x, x ∈ O ↔ ∃ j, j < k ∧ seen j = true ∧ f j = x
  right : ∀ j, j < k → seen j = true → RightF n f (f j)
  below : Below w1.heap.size w1 wr
  len : O.length ≤ k
theorem RLog.skip {w1 : World} {n : Nat} {f : Nat → Fv} {seen : Nat → Bool} {k : Nat} {O : List Fv} {v : Value} {wr : World} (h : RLog w1 n f seen k O v wr) (hs : seen k = false) : RLog w1 n f seen (k + 1) O v wr where
  sl := h.sl
  falls := h.falls
  mem x := by
    rw [h.mem]
    constructor
    · rintro ⟨j, h1, h2, h3⟩
      exact ⟨j, by omega, h2, h3⟩
    · rintro ⟨j, h1, h2, h3⟩
      refine ⟨j, ?_, h2, h3⟩
      rcases Nat.lt_or_ge j k with h4 | h4
      · exact h4
      · obtain rfl : j = k := by omega
        rw [hs] at h2; cases h2
  right j hj hsj := by
    rcases Nat.lt_or_ge j k with h4 | h4
    · exact h.right j h4 hsj
    · obtain rfl : j = k := by omega
      rw [hs] at hsj; cases hsj
  below := h.below
  len := by have := h.len; omega
theorem RLog.next {w1 W : World} {n : Nat} {f : Nat → Fv} {seen : Nat → Bool} {k : Nat} {O N : List Fv} {v v' : Value} {wr w' : World} (h : RLog w1 n f seen k O v wr) (hd : Dist n f) (hk : k < n) (hs : seen k = true) (hr : RightF n f (f k))
    (hN : N = insF (f k) O) (hsl : SlIs w' W.heap.size 28 3 v' N.length (fcells N)) (hW : w1.heap.size ≤ W.heap.size) (hb : Below w1.heap.size w1 w') : RLog w1 n f seen (k + 1) N v' w' where
  sl := hsl.mono hW
  falls := by
    rw [hN]
    refine insF_falls _ _ h.falls fun y hy he => ?_
    obtain ⟨j, h1, h2, rfl⟩ := (h.mem y).1 hy
    have := hd j k (by omega) hk he
    omega
  mem x := by
    rw [hN, insF_mem, h.mem]
    constructor
    · rintro (rfl | ⟨j, h1, h2, h3⟩)
      · exact ⟨k, by omega, hs, rfl⟩
      · exact ⟨j, by omega, h2, h3⟩
    · rintro ⟨j, h1, h2, h3⟩
      rcases Nat.lt_or_ge j k with h4 | h4
      · exact Or.inr ⟨j, h4, h2, h3⟩
      · obtain rfl : j = k := by omega
        exact Or.inl h3.symm
  right j hj hsj := by
    rcases Nat.lt_or_ge j k with h4 | h4
    · exact h.right j h4 hsj
    · obtain rfl : j = k := by omega
      exact hr
  below := hb
  len := by rw [hN, insF_length]; have := h.len; omega
theorem RefInv.closed {n : Nat} {f : Nat → Fv} {s : ByteArray} {seen : Nat → Bool} (h : RefInv n f s seen true false n 0) (hd : Dist n f) (x : ByteArray) (hx : Met n f s x) : Here n f x := by
  obtain ⟨j, hj, _, he⟩ := h.all (Nat.le_refl _) hd hx
  exact ⟨j, hj, he⟩
theorem RefInv.is {n : Nat} {f : Nat → Fv} {s : ByteArray} {seen : Nat → Bool} (h : RefInv n f s seen true false n 0) (hd : Dist n f) {i : Nat} (hi : i < n) : seen i = true ↔ Met n f s (f i).id := by
  constructor
  · exact h.met i hi
  · intro hm
    obtain ⟨j, hj, hs, he⟩ := h.all (Nat.le_refl _) hd hm
    obtain rfl := hd j i hj hi he
    exact hs
theorem RLog.final {w1 : World} {n : Nat} {f : Nat → Fv} {s : ByteArray} {seen : Nat → Bool} {O : List Fv} {v : Value} {wr : World} (h : RLog w1 n f seen n O v wr) (hd : Dist n f) (hi : RefInv n f s seen true false n 0) :
    (∀ x, x ∈ O ↔ ∃ i, i < n ∧ Met n f s (f i).id ∧ f i = x) ∧ ∀ j, j < O.length → RightF n f O[j]! := by
  refine ⟨fun x => ?_, fun j hj => ?_⟩
  · rw [h.mem]
    constructor
    · rintro ⟨j, h1, h2, h3⟩
      exact ⟨j, h1, (hi.is hd h1).1 h2, h3⟩
    · rintro ⟨j, h1, h2, h3⟩
      exact ⟨j, h1, (hi.is hd h1).2 h2, h3⟩
  · have hm : O[j]! ∈ O := by rw [getElem!_pos O j hj]; exact List.getElem_mem hj
    obtain ⟨i, h1, h2, h3⟩ := (h.mem _).1 hm
    rw [← h3]
    exact h.right i h1 h2
/-- A fact of a row as it lies. -/
theorem row_cells {w : World} {base : Nat} {e : TypeId} {v : Value} {O : List Fv} (h : SlIs w base e 3 v O.length (fcells O)) {m : Nat} (hm : m < O.length) :
    ∃ b off cap, v = .slice (some ⟨b, off, none⟩) O.length cap ∧ b < w.heap.size ∧ ∀ w', Below w.heap.size w w' → w'.cell? ⟨b, off + m * 3, none⟩ = some (.string O[m].id) ∧ w'.cell? ⟨b, off + m * 3 + 1, none⟩ = some (.int .i64 O[m].h) ∧ w'.cell? ⟨b, off + m * 3 + 2, none⟩ = some (.slice O[m].pa O[m].np O[m].pc) := by
  obtain ⟨b, off, cap, hv, h1, h2, h3, h4, h5, h6⟩ := h.at_ (by omega)
  refine ⟨b, off, cap, hv, h2, fun w' hb => ?_⟩
  have hl := fcells_length O
  obtain ⟨e0, e1, e2⟩ := fcells_get O m hm
  rw [hb.cell h2, hb.cell h2, hb.cell h2]
  refine ⟨?_, ?_, ?_⟩
  · rw [h5 (m * 3) (by omega), e0]
  · rw [Nat.add_assoc, h5 (m * 3 + 1) (by omega), e1]
  · rw [Nat.add_assoc, h5 (m * 3 + 2) (by omega), e2]
theorem dist_of_places {n : Nat} {f : Nat → Fv} (h : ∀ j, j < n → placeV f n (f j).id = (j : Int)) : Dist n f := fun i j hi hj he => by
  have h1 := h i hi
  have h2 := h j hj
  rw [he, h2] at h1
  omega
end Go.Proofs.YthcgdpdijdmelaaGreat.Ord
