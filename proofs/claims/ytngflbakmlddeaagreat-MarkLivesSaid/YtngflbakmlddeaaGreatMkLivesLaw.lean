/- Plain laws: an ack more makes none live, more nodes make none go; where a token that lives stands. No program is walked. (Layer 12.) -/
import Derived.Test.YtngflbakmlddeaaGreatMk33
namespace Go.Proofs.YtngflbakmlddeaaGreat.Mk
set_option linter.unusedVariables false
open Go.RowKit
def withAck (a : Int) (t : Tb) : Tb := ⟨t.node, t.n, t.id, t.cov, t.acks ++ [a]⟩
theorem sure_more {a : Int} {t : Tb} {n : Int} (h : sureB t n = true) : sureB (withAck a t) n = true := by
  unfold sureB withAck at *
  simp only [decide_eq_true_eq, List.length_append, List.length_singleton] at *
  omega
theorem sure_less {t : Tb} {n : Int} (h : sureB t (n + 1) = true) : sureB t n = true := by
  unfold sureB at *
  simp only [decide_eq_true_eq] at *
  omega
theorem covB_more {a : Int} {ts : List Tb} {n : Int} {x : Tok} (h : covB ts n x = true) : covB (ts.map (withAck a)) n x = true := by
  unfold covB at *
  rw [List.any_eq_true] at *
  obtain ⟨t, ht, h⟩ := h
  rw [Bool.and_eq_true] at h
  exact ⟨withAck a t, List.mem_map.2 ⟨t, ht, rfl⟩, by rw [Bool.and_eq_true]; exact ⟨sure_more h.1, h.2⟩⟩
theorem covB_less {ts : List Tb} {n : Int} {x : Tok} (h : covB ts (n + 1) x = true) : covB ts n x = true := by
  unfold covB at *
  rw [List.any_eq_true] at *
  obtain ⟨t, ht, h⟩ := h
  rw [Bool.and_eq_true] at h
  exact ⟨t, ht, by rw [Bool.and_eq_true]; exact ⟨sure_less h.1, h.2⟩⟩
theorem filter_le {α : Type} {p q : α → Bool} (h : ∀ x, p x = true → q x = true) : ∀ (l : List α), (l.filter p).length ≤ (l.filter q).length
  | [] => Nat.le_refl _
  | x :: l => by
    have ih := filter_le h l
    cases hp : p x
    · rw [List.filter_cons_of_neg (by rw [hp]; simp)]
      cases hq : q x
      · rw [List.filter_cons_of_neg (by rw [hq]; simp)]; exact ih
      · rw [List.filter_cons_of_pos hq, List.length_cons]; omega
    · rw [List.filter_cons_of_pos hp, List.filter_cons_of_pos (h x hp), List.length_cons, List.length_cons]; omega
theorem live_more (m m' : Mks) (a n : Int) (h1 : m'.toks = m.toks) (h2 : m'.tombs = m.tombs.map (withAck a)) : (liveL m' n).length ≤ (liveL m n).length := by
  unfold liveL
  rw [h1, h2]
  refine filter_le (fun x hx => ?_) _
  cases hc : covB m.tombs n x
  · rfl
  · rw [covB_more hc] at hx; cases hx
theorem live_up (m : Mks) (n : Int) : (liveL m n).length ≤ (liveL m (n + 1)).length := by
  unfold liveL
  refine filter_le (fun x hx => ?_) _
  cases hc : covB m.tombs (n + 1) x
  · rfl
  · rw [covB_less hc] at hx; cases hx
theorem filter_at {α : Type} (p : α → Bool) (l : List α) {i : Nat} (hi : i < l.length) (hp : p l[i] = true) : (l.filter p)[((l.take i).filter p).length]? = some l[i] ∧ ((l.take i).filter p).length < (l.filter p).length := by
  have h : l.filter p = (l.take i).filter p ++ l[i] :: (l.drop (i + 1)).filter p := by
    conv => lhs; rw [← List.take_append_drop i l]
    rw [List.filter_append, List.drop_eq_getElem_cons hi, List.filter_cons_of_pos hp]
  constructor
  · rw [h, List.getElem?_append_right (Nat.le_refl _), Nat.sub_self]
    rfl
  · rw [h, List.length_append, List.length_cons]; omega
theorem filter_snoc {α : Type} (p : α → Bool) (l : List α) {i : Nat} (hi : i < l.length) : ((l.take (i + 1)).filter p).length = ((l.take i).filter p).length + if p l[i] = true then 1 else 0 := by
  rw [take_snoc' hi, List.filter_append, List.length_append]
  congr 1
  cases hp : p l[i]
  · rw [List.filter_cons_of_neg (by rw [hp]; simp)]; rfl
  · rw [List.filter_cons_of_pos hp]; rfl
theorem mid_no {ts : List Tb} {t : Tb} {n : Int} {j : Nat} {x : Tok} (h : sureB t n = false) : midF ts t n j x = covB (ts ++ [t]) n x := by
  rw [covB_snoc]
  unfold midF
  rw [h]
  rfl
theorem mid_up {ts : List Tb} {t : Tb} {n : Int} {j : Nat} {x y : Tok} (h : sureB t n = true) (hy : t.cov[j]? = some y) : midF ts t n (j + 1) x = (midF ts t n j x || eqB y x) := by
  unfold midF
  rw [List.take_add_one, hy, List.any_append, h, eqB_flip y x]
  simp [Bool.or_assoc]
end Go.Proofs.YtngflbakmlddeaaGreat.Mk
