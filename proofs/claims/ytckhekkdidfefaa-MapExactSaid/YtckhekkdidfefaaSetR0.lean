/- Plain lists as the document has them (reliquaryref08): the laws of Put; no program. (Layer 08.) -/
import Derived.Test.YtckhekkdidfefaaSetLaw
namespace Go.Proofs.Ytckhekkdidfefaa.Set
set_option linter.unusedVariables false
variable {α : Type} [El α]
theorem app_high {m : List α} {x y : α} (h : Rise (m ++ [y])) (hx : ∃ z ∈ m, El.lt x z) : ins x m ++ [y] = ins x (m ++ [y]) := by
  have hp := List.pairwise_append.1 h
  obtain ⟨z, hz, hxz⟩ := hx
  have hzy : El.lt z y := hp.2.2 z hz y (by simp)
  refine rise_ext (List.pairwise_append.2 ⟨ins_rise hp.1, by simp, fun a ha b hb => ?_⟩) (ins_rise h) fun u => by simp [mem_ins, or_assoc]
  rw [List.mem_singleton] at hb
  subst hb
  rcases mem_ins.1 ha with rfl | ha
  · exact El.tr hxz hzy
  · exact hp.2.2 a ha b (by simp)
theorem app_new {m : List α} {x y : α} (h : Rise (m ++ [y])) (hx : El.lt x y) (hl : ∀ z ∈ m, El.lt z x) : m ++ [x] ++ [y] = ins x (m ++ [y]) := by
  have hp := List.pairwise_append.1 h
  refine rise_ext (List.pairwise_append.2 ⟨List.pairwise_append.2 ⟨hp.1, by simp, fun a ha b hb => ?_⟩, by simp, fun a ha b hb => ?_⟩) (ins_rise h) fun u => ?_
  · rw [List.mem_singleton] at hb
    exact hb ▸ hl a ha
  · rw [List.mem_singleton] at hb
    subst hb
    rcases List.mem_append.1 ha with ha | ha
    · exact hp.2.2 a ha b (by simp)
    · rw [List.mem_singleton] at ha
      exact ha ▸ hx
  · simp only [mem_ins, List.mem_append, List.mem_singleton]
    constructor
    · rintro ((h | h) | h)
      · exact Or.inr (Or.inl h)
      · exact Or.inl h
      · exact Or.inr (Or.inr h)
    · rintro (h | h | h)
      · exact Or.inl (Or.inr h)
      · exact Or.inl (Or.inl h)
      · exact Or.inr h
theorem app_end {m : List α} {x : α} (h : Rise m) (hl : ∀ z ∈ m, El.lt z x) : m ++ [x] = ins x m := by
  refine rise_ext (List.pairwise_append.2 ⟨h, by simp, fun a ha b hb => ?_⟩) (ins_rise h) fun u => ?_
  · rw [List.mem_singleton] at hb
    exact hb ▸ hl a ha
  · simp only [mem_ins, List.mem_append, List.mem_singleton]
    exact ⟨fun h => h.symm, fun h => h.symm⟩
theorem ins_le (x : α) (l : List α) : (ins x l).length ≤ l.length + 1 := by
  by_cases h : x ∈ l
  · rw [ins_of h]; omega
  · rw [ins_length h]; omega
/-- Where Put stands behind k of l. -/
structure PutSt (l : List α) (x : α) (k : Nat) (b : Bool) (m : List α) : Prop where
  is : m = if b then ins x (l.take k) else l.take k
  no : ¬ x ∈ l.take k
  low : b = false → ∀ y ∈ l.take k, El.lt y x
  high : b = true → ∃ y ∈ l.take k, El.lt x y
theorem PutSt.start (l : List α) (x : α) : PutSt l x 0 false [] := ⟨by simp, by simp, by simp, by simp⟩
theorem PutSt.len {l : List α} {x : α} {k : Nat} {b : Bool} {m : List α} (h : PutSt l x k b m) : m.length ≤ k + 1 := by
  rw [h.is]
  split
  · have := ins_le x (l.take k)
    rw [List.length_take] at this
    omega
  · rw [List.length_take]; omega
omit [El α] in
theorem take_snoc {l : List α} {k : Nat} (hk : k < l.length) : l.take (k + 1) = l.take k ++ [l[k]] := List.take_succ_eq_append_getElem hk
theorem PutSt.new {l : List α} {x : α} {k : Nat} {m : List α} (h : PutSt l x k false m) (hr : Rise l) (hk : k < l.length) (hx : El.lt x l[k]) : PutSt l x (k + 1) true (m ++ [x] ++ [l[k]]) := by
  have hr' : Rise (l.take k ++ [l[k]]) := by rw [← take_snoc hk]; exact hr.sublist (List.take_sublist _ _)
  refine ⟨?_, ?_, by simp, fun _ => ⟨l[k], by rw [take_snoc hk]; exact List.mem_append_right _ (List.mem_singleton.2 rfl), hx⟩⟩
  · rw [h.is, if_pos rfl, take_snoc hk]
    exact app_new hr' hx (h.low rfl)
  · rw [take_snoc hk, List.mem_append, List.mem_singleton]
    rintro (h1 | h1)
    · exact h.no h1
    · exact El.irr x (by rw [← h1] at hx; exact hx)
theorem PutSt.low_ {l : List α} {x : α} {k : Nat} {m : List α} (h : PutSt l x k false m) (hk : k < l.length) (hne : l[k] ≠ x) (hx : ¬ El.lt x l[k]) : PutSt l x (k + 1) false (m ++ [l[k]]) := by
  refine ⟨?_, ?_, fun _ y hy => ?_, by simp⟩
  · rw [h.is, take_snoc hk]; rfl
  · rw [take_snoc hk, List.mem_append, List.mem_singleton]
    rintro (h1 | h1)
    · exact h.no h1
    · exact hne h1.symm
  · rw [take_snoc hk, List.mem_append, List.mem_singleton] at hy
    rcases hy with hy | rfl
    · exact h.low rfl y hy
    · rcases El.tri l[k] x with h1 | h1 | h1
      · exact h1
      · exact (hne h1).elim
      · exact (hx h1).elim
theorem PutSt.on {l : List α} {x : α} {k : Nat} {m : List α} (h : PutSt l x k true m) (hr : Rise l) (hk : k < l.length) (hne : l[k] ≠ x) : PutSt l x (k + 1) true (m ++ [l[k]]) := by
  have hr' : Rise (l.take k ++ [l[k]]) := by rw [← take_snoc hk]; exact hr.sublist (List.take_sublist _ _)
  refine ⟨?_, ?_, by simp, fun _ => ?_⟩
  · rw [h.is, if_pos rfl, if_pos rfl, take_snoc hk]
    exact app_high hr' (h.high rfl)
  · rw [take_snoc hk, List.mem_append, List.mem_singleton]
    rintro (h1 | h1)
    · exact h.no h1
    · exact hne h1.symm
  · obtain ⟨y, hy, hxy⟩ := h.high rfl
    exact ⟨y, by rw [take_snoc hk]; exact List.mem_append_left _ hy, hxy⟩
theorem PutSt.done {l : List α} {x : α} {m : List α} (h : PutSt l x l.length true m) : m = ins x l := by
  rw [h.is, if_pos rfl, List.take_length]
theorem PutSt.last {l : List α} {x : α} {m : List α} (h : PutSt l x l.length false m) (hr : Rise l) : m ++ [x] = ins x l := by
  have h1 := h.is
  have h2 := h.low rfl
  rw [List.take_length] at h1 h2
  rw [h1]
  exact app_end hr h2
theorem isOf_snoc {pre m : List α} {x : α} (h : IsOf pre m) : IsOf (pre ++ [x]) (ins x m) := by
  refine ⟨ins_rise h.1, fun y => ?_⟩
  rw [mem_ins, h.2 y, List.mem_append, List.mem_singleton]
  exact ⟨fun h => h.symm, fun h => h.symm⟩
noncomputable def ofL : List α → List α
  | [] => []
  | x :: xs => ins x (ofL xs)
theorem ofL_is : ∀ l : List α, IsOf l (ofL l)
  | [] => ⟨by simp [Rise, ofL], by simp [ofL]⟩
  | x :: xs => ⟨ins_rise (ofL_is xs).1, fun y => by rw [ofL, mem_ins, (ofL_is xs).2 y, List.mem_cons]⟩
theorem ofL_len : ∀ l : List α, (ofL l).length ≤ l.length
  | [] => by simp [ofL]
  | x :: xs => by
    have h1 := ofL_len xs
    have h2 := ins_le x (ofL xs)
    rw [ofL, List.length_cons]
    omega
theorem isOf_len {pre m : List α} (h : IsOf pre m) : m.length ≤ pre.length := by
  rw [isOf_unique h (ofL_is pre)]
  exact ofL_len pre
theorem ofL_nodup : ∀ {l : List α}, l.Nodup → (ofL l).length = l.length
  | [], _ => rfl
  | x :: xs, h => by
    have hp := List.nodup_cons.1 h
    rw [ofL, ins_length (fun hx => hp.1 (((ofL_is xs).2 x).1 hx)), ofL_nodup hp.2, List.length_cons]
theorem isOf_nodup {pre m : List α} (h : IsOf pre m) (hd : pre.Nodup) : m.length = pre.length := by
  rw [isOf_unique h (ofL_is pre)]
  exact ofL_nodup hd
theorem rise_nodup {l : List α} (h : Rise l) : l.Nodup := List.Pairwise.imp (S := fun a b => a ≠ b) (fun {a b} hab e => El.irr b (by rw [e] at hab; exact hab)) h
end Go.Proofs.Ytckhekkdidfefaa.Set
