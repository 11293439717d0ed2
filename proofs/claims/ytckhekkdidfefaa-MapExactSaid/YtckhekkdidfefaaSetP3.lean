/- reliquaryref08.Set, walked: mput. (Layer 08.) -/
import Derived.Test.YtckhekkdidfefaaSetP2
namespace Go.Proofs.Ytckhekkdidfefaa.Set
set_option linter.unusedVariables false
open Go.RowKit Go.Sort Go.Lib
theorem ks_app (L M : Row) : ks (L ++ M) = ks L ++ ks M := by simp [ks]
theorem rise_snoc {α : Type} [El α] {l : List α} {x : α} (h : Rise l) (hx : ∀ y ∈ l, El.lt y x) : Rise (l ++ [x]) :=
  List.pairwise_append.2 ⟨h, List.pairwise_singleton _ _, fun a ha b hb => by rcases List.mem_singleton.1 hb with rfl; exact hx a ha⟩
theorem rise_take {L : Row} (hr : Rise (ks L)) (k : Nat) : Rise (ks (L.take k)) := hr.sublist (List.Sublist.map _ (List.take_sublist _ _))
theorem take_below {L : Row} (hr : Rise (ks L)) {k : Nat} (hk : k < L.length) : ∀ y ∈ ks (L.take k), El.lt y L[k].1 := by
  intro y hy
  have h2 : Rise (ks (L.take (k + 1))) := rise_take hr _
  rw [take_snoc hk, ks_app] at h2
  exact (List.pairwise_append.1 h2).2.2 y hy _ (by simp [ks])
theorem mput_rise {x : ByteArray} {y : Int} {L : Row} (hr : Rise (ks L)) : Rise (ks (mput x y L)) := by rw [ks_put hr]; exact ins_rise hr
/-- Behind all. -/
theorem mput_last {x : ByteArray} {y : Int} {L : Row} (hr : Rise (ks L)) (h : ∀ u ∈ ks L, El.lt u x) : mput x y L = L ++ [(x, y)] := by
  refine row_ext (mput_rise hr) (by rw [ks_app]; exact rise_snoc hr h) fun u v => ?_
  rw [mput_mem hr, List.mem_append, List.mem_singleton]
  constructor
  · rintro (⟨rfl, rfl⟩ | ⟨_, h1⟩)
    · exact Or.inr rfl
    · exact Or.inl h1
  · rintro (h1 | h1)
    · exact Or.inr ⟨fun e => by subst e; exact El.irr _ (h _ (mem_key h1)), h1⟩
    · injection h1 with e1 e2; exact Or.inl ⟨e1, e2⟩
/-- In the place of the last one. -/
theorem mput_there {x : ByteArray} {y v : Int} {L : Row} (hr : Rise (ks (L ++ [(x, v)]))) : mput x y (L ++ [(x, v)]) = L ++ [(x, y)] := by
  have hr' : Rise (ks (L ++ [(x, y)])) := by rw [ks_app] at hr ⊢; exact hr
  have hp := hr
  rw [ks_app] at hp
  have hlt := (List.pairwise_append.1 hp).2.2
  refine row_ext (mput_rise hr) hr' fun u w => ?_
  rw [mput_mem hr, List.mem_append, List.mem_append, List.mem_singleton, List.mem_singleton]
  constructor
  · rintro (⟨rfl, rfl⟩ | ⟨hne, h1 | h1⟩)
    · exact Or.inr rfl
    · exact Or.inl h1
    · injection h1 with e1 e2; exact (hne e1).elim
  · rintro (h1 | h1)
    · exact Or.inr ⟨fun e => by subst e; exact El.irr _ (hlt _ (mem_key h1) _ (by simp [ks])), Or.inl h1⟩
    · injection h1 with e1 e2; exact Or.inl ⟨e1, e2⟩
/-- Ahead of the last one. -/
theorem mput_ahead {x u : ByteArray} {y v : Int} {L : Row} (hr : Rise (ks (L ++ [(u, v)]))) (h : ∀ z ∈ ks L, El.lt z x) (hx : El.lt x u) : mput x y (L ++ [(u, v)]) = L ++ [(x, y)] ++ [(u, v)] := by
  have hl : Rise (ks L) := by rw [ks_app] at hr; exact (List.pairwise_append.1 hr).1
  have hr1 : Rise (ks (L ++ [(x, y)])) := by rw [ks_app]; exact rise_snoc hl h
  have hr' : Rise (ks (L ++ [(x, y)] ++ [(u, v)])) := by
    rw [ks_app]
    refine rise_snoc hr1 fun z hz => ?_
    rw [ks_app, List.mem_append] at hz
    rcases hz with hz | hz
    · exact El.tr (h z hz) hx
    · obtain rfl : z = x := by simpa [ks] using hz
      exact hx
  refine row_ext (mput_rise hr) hr' fun a b => ?_
  rw [mput_mem hr, List.mem_append, List.mem_append, List.mem_append, List.mem_singleton, List.mem_singleton]
  constructor
  · rintro (⟨rfl, rfl⟩ | ⟨hne, h1 | h1⟩)
    · exact Or.inl (Or.inr rfl)
    · exact Or.inl (Or.inl h1)
    · exact Or.inr h1
  · rintro ((h1 | h1) | h1)
    · exact Or.inr ⟨fun e => by subst e; exact El.irr _ (h _ (mem_key h1)), Or.inl h1⟩
    · injection h1 with e1 e2; exact Or.inl ⟨e1, e2⟩
    · injection h1 with e1 e2
      exact Or.inr ⟨fun e => by rw [e1] at e; subst e; exact El.irr _ hx, Or.inr (by rw [e1, e2])⟩
/-- One more behind what holds it already. -/
theorem mput_more {x u : ByteArray} {y v : Int} {L : Row} (hr : Rise (ks (L ++ [(u, v)]))) (hx : El.lt x u) : mput x y (L ++ [(u, v)]) = mput x y L ++ [(u, v)] := by
  have hl : Rise (ks L) := by rw [ks_app] at hr; exact (List.pairwise_append.1 hr).1
  have hlt : ∀ z ∈ ks L, El.lt z u := by
    rw [ks_app] at hr
    exact fun z hz => (List.pairwise_append.1 hr).2.2 z hz u (by simp [ks])
  have hr' : Rise (ks (mput x y L ++ [(u, v)])) := by
    rw [ks_app]
    refine rise_snoc (mput_rise hl) fun z hz => ?_
    rw [ks_put hl, mem_ins] at hz
    rcases hz with rfl | hz
    · exact hx
    · exact hlt z hz
  refine row_ext (mput_rise hr) hr' fun a b => ?_
  rw [mput_mem hr, List.mem_append, List.mem_append, List.mem_singleton, mput_mem hl]
  constructor
  · rintro (h1 | ⟨hne, h1 | h1⟩)
    · exact Or.inl (Or.inl h1)
    · exact Or.inl (Or.inr ⟨hne, h1⟩)
    · exact Or.inr h1
  · rintro ((h1 | ⟨hne, h1⟩) | h1)
    · exact Or.inl h1
    · exact Or.inr ⟨hne, Or.inl h1⟩
    · injection h1 with e1 e2
      exact Or.inr ⟨fun e => by rw [e1] at e; subst e; exact El.irr _ hx, Or.inr (by rw [e1, e2])⟩
/-- Where the going stands: M is what is made of the first k. -/
def SetSt (L : Row) (x : ByteArray) (y : Int) (k : Nat) (b : Bool) (M : Row) : Prop :=
  if b then M = mput x y (L.take k) ∧ ∃ z ∈ ks (L.take k), ¬ El.lt z x else M = L.take k ∧ ∀ z ∈ ks (L.take k), El.lt z x
theorem SetSt.start (L : Row) (x : ByteArray) (y : Int) : SetSt L x y 0 false [] := ⟨by simp, by simp [ks]⟩
theorem SetSt.low {L : Row} {x : ByteArray} {y : Int} {k : Nat} {M : Row} (h : SetSt L x y k false M) (hk : k < L.length) (hx : El.lt L[k].1 x) : SetSt L x y (k + 1) false (M ++ [L[k]]) := by
  obtain ⟨h1, h2⟩ := h
  refine ⟨by rw [h1, take_snoc hk], fun z hz => ?_⟩
  rw [take_snoc hk, ks_app, List.mem_append] at hz
  rcases hz with hz | hz
  · exact h2 z hz
  · obtain rfl : z = L[k].1 := by simpa [ks] using hz
    exact hx
theorem SetSt.here {L : Row} {x : ByteArray} {y : Int} {k : Nat} {M : Row} (hr : Rise (ks L)) (h : SetSt L x y k false M) (hk : k < L.length) (hx : L[k].1 = x) : SetSt L x y (k + 1) true (M ++ [(x, y)]) := by
  obtain ⟨h1, h2⟩ := h
  have e : L[k] = (x, L[k].2) := by rw [← hx]
  have h3 := rise_take hr (k + 1)
  rw [take_snoc hk, e] at h3
  refine ⟨?_, x, ?_, El.irr x⟩
  · rw [take_snoc hk, e, mput_there h3, h1]
  · rw [take_snoc hk, ks_app, List.mem_append]
    exact Or.inr (by simp [ks, hx])
theorem SetSt.new {L : Row} {x : ByteArray} {y : Int} {k : Nat} {M : Row} (hr : Rise (ks L)) (h : SetSt L x y k false M) (hk : k < L.length) (hx : El.lt x L[k].1) : SetSt L x y (k + 1) true (M ++ [(x, y)] ++ [L[k]]) := by
  obtain ⟨h1, h2⟩ := h
  have h3 := rise_take hr (k + 1)
  rw [take_snoc hk] at h3
  refine ⟨?_, L[k].1, ?_, fun h => El.irr _ (El.tr h hx)⟩
  · obtain ⟨u, v, huv⟩ : ∃ u v, L[k] = (u, v) := ⟨_, _, rfl⟩
    rw [take_snoc hk]
    rw [huv] at h3 hx ⊢
    rw [mput_ahead h3 h2 hx, h1]
  · rw [take_snoc hk, ks_app, List.mem_append]
    exact Or.inr (by simp [ks])
theorem SetSt.more {L : Row} {x : ByteArray} {y : Int} {k : Nat} {M : Row} (hr : Rise (ks L)) (h : SetSt L x y k true M) (hk : k < L.length) : El.lt x L[k].1 ∧ SetSt L x y (k + 1) true (M ++ [L[k]]) := by
  obtain ⟨h1, z, hz, hzx⟩ := h
  have hlt : El.lt x L[k].1 := by
    have h4 := take_below hr hk z hz
    rcases El.tri x z with h | h | h
    · exact El.tr h h4
    · rw [h]; exact h4
    · exact (hzx h).elim
  have h3 := rise_take hr (k + 1)
  rw [take_snoc hk] at h3
  refine ⟨hlt, ?_, z, ?_, hzx⟩
  · obtain ⟨u, v, huv⟩ : ∃ u v, L[k] = (u, v) := ⟨_, _, rfl⟩
    rw [take_snoc hk]
    rw [huv] at h3 hlt ⊢
    rw [mput_more h3 hlt, h1]
  · rw [take_snoc hk, ks_app, List.mem_append]
    exact Or.inl hz
theorem SetSt.last {L : Row} {x : ByteArray} {y : Int} {M : Row} (hr : Rise (ks L)) (h : SetSt L x y L.length false M) : M ++ [(x, y)] = mput x y L := by
  obtain ⟨h1, h2⟩ := h
  rw [List.take_length] at h1 h2
  rw [h1, mput_last hr h2]
theorem SetSt.done {L : Row} {x : ByteArray} {y : Int} {M : Row} (h : SetSt L x y L.length true M) : M = mput x y L := by
  have := h.1
  rwa [List.take_length] at this
theorem SetSt.len {L : Row} {x : ByteArray} {y : Int} {k : Nat} {b : Bool} {M : Row} (hr : Rise (ks L)) (hk : k ≤ L.length) (h : SetSt L x y k b M) : M.length ≤ k + 1 := by
  have hl : (L.take k).length = k := by rw [List.length_take]; omega
  cases b
  · have h1 : M = L.take k := h.1
    rw [h1, hl]; omega
  · have h1 : M = mput x y (L.take k) := h.1
    rw [h1, ← ks_len, ks_put (rise_take hr k)]
    have := ins_le x (ks (L.take k))
    rw [ks_len, hl] at this
    exact this
end Go.Proofs.Ytckhekkdidfefaa.Set
