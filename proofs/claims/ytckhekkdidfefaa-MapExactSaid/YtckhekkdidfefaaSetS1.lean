/- Slices of texts: BinarySearch, in the words of SlIs. (Layer 08.) -/
import Derived.Test.YtckhekkdidfefaaSetI1
import Derived.Test.YtckhekkdidfefaaSetS0
namespace Go.Proofs.Ytckhekkdidfefaa.Set
set_option linter.unusedVariables false
open Go.RowKit Go.Sort Go.Lib
theorem less_lt (S T : ByteArray) : Op.bytesLess S.toList T.toList = decide (El.lt S T) := by
  rw [Go.Proofs.bytesLess_eq, ByteArray.toList_eq, ByteArray.toList_eq]
  exact decide_eq_decide.2 Iff.rfl
theorem pos_low {α : Type} [El α] : ∀ {l : List α} {x : α}, Rise l → ∀ t (h : t < l.length), t < pos l x → El.lt l[t] x
  | [], _, _, t, h, _ => absurd h (Nat.not_lt_zero _)
  | y :: r, x, hr, t, h, ht => by
    by_cases hlt : El.lt y x
    · cases t with
      | zero => exact hlt
      | succ t => exact pos_low (List.pairwise_cons.1 hr).2 t (by simpa using h) (by rw [pos_cons_pos hlt] at ht; omega)
    · rw [pos_zero hr hlt] at ht; omega
theorem pos_high {α : Type} [El α] : ∀ {l : List α} {x : α}, Rise l → ∀ t (h : t < l.length), pos l x ≤ t → ¬ El.lt l[t] x
  | [], _, _, t, h, _ => absurd h (Nat.not_lt_zero _)
  | y :: r, x, hr, t, h, ht => by
    have hp := List.pairwise_cons.1 hr
    by_cases hlt : El.lt y x
    · rw [pos_cons_pos hlt] at ht
      cases t with
      | zero => omega
      | succ t => exact pos_high hp.2 t (by simpa using h) (by omega)
    · cases t with
      | zero => exact hlt
      | succ t => exact fun h2 => hlt (El.tr (hp.1 _ (List.getElem_mem _)) h2)
theorem search_string (v : Value) (l : List ByteArray) (x : ByteArray) (w : World) (h : StrAt w v l) (hr : Rise l) (hn : l.length ≤ 1000000) :
    Calls Try.prog 63 #[v, .string x] w fun e w' => e = .returned (.tuple #[.int .i64 ((pos l x : Nat) : Int), .bool (has l x)]) ∧ DrawsOf w w' := by
  obtain ⟨ao, cap, rfl, h1, h2, h3⟩ := h
  rcases Nat.eq_zero_or_pos l.length with h0 | h0
  · have hl : l = [] := List.eq_nil_of_length_eq_zero h0
    subst hl
    refine (Any2.slices_BinarySearch_string_empty Try.bsS ao cap x w).mono ?_
    rintro e w' ⟨rfl, rfl⟩
    exact ⟨by rw [has_false (by simp)]; rfl, DrawsOf.refl _⟩
  · obtain ⟨b, off, rfl, hlt, hc⟩ := h3 h0
    refine (Any2.slices_BinarySearch_string Try.bsS b off l.length cap (fun t => if h : t < l.length then l[t] else x) x w (by omega) (fun j hj => by rw [hc j hj, dif_pos hj])).mono ?_
    rintro e w' ⟨rfl, q, rfl⟩
    have hp : Lib.bsGo (fun t => Op.bytesLess (if h : t < l.length then l[t] else x).toList x.toList) l.length 0 l.length = pos l x := by
      refine Lib.bsGo_spec _ (pos l x) (fun t ht => ?_) (fun t ht => ?_) _ _ _ (by omega) (Nat.zero_le _) (pos_le l x)
      · have h1 := pos_le l x
        simp only [less_lt]
        rw [dif_pos (by omega)]
        exact decide_eq_true (pos_low hr t _ ht)
      · simp only [less_lt]
        by_cases h : t < l.length
        · rw [dif_pos h]
          exact decide_eq_false (pos_high hr t h ht)
        · rw [dif_neg h]
          exact decide_eq_false (El.irr x)
    refine ⟨?_, ⟨q, rfl⟩⟩
    rw [hp]
    by_cases hm : x ∈ l
    · obtain ⟨h4, h5⟩ := pos_at hr hm
      rw [has_true hm, decide_eq_true]
      exact ⟨h4, by rw [dif_pos h4]; exact h5⟩
    · rw [has_false hm, decide_eq_false]
      rintro ⟨h4, h5⟩
      rw [dif_pos h4] at h5
      exact hm (h5 ▸ List.getElem_mem h4)
end Go.Proofs.Ytckhekkdidfefaa.Set
