/- order's met, walked. Conditions: the book as a map, the facts' parents readable. (Layer 11.) -/
import Derived.Test.YthcgdpdijdmelaaGreatOrd8
namespace Go.Proofs.YthcgdpdijdmelaaGreat.Ord
set_option linter.unusedVariables false
open Go.RowKit Go.Sort Go.Lib
theorem met_closed {n : Nat} {f : Nat → Fv} {s : ByteArray} {ix : List Nat} (hd : Dist n f) (hi : MetInv n f s ix ix.length 0) (x : ByteArray) (hx : Met n f s x) : Here n f x := by
  obtain ⟨j, hj, he⟩ := hi.all hd hx
  exact ⟨j, hi.lt j hj, he⟩
theorem met_sorted {n : Nat} {f : Nat → Fv} {s : ByteArray} {ix : List Nat} (hd : Dist n f) (hi : MetInv n f s ix ix.length 0) {L : List Fv} (hp : L.Perm (ix.map f)) (ho : ∀ i j, i < j → j < L.length → ¬ lowF L[i]! L[j]!) :
    (∀ x, x ∈ L ↔ ∃ i, i < n ∧ Met n f s (f i).id ∧ f i = x) ∧ L.Pairwise (fun x y => lowF y x) ∧ L.length ≤ n := by
  refine ⟨fun x => hp.mem_iff.trans (hi.mem hd x), ?_, by rw [hp.length_eq, List.length_map]; exact hi.len⟩
  have hnd : (L.map (·.id)).Nodup := by
    refine (hp.map (·.id)).nodup_iff.2 ?_
    rw [List.map_map]
    exact List.pairwise_map.2 (hi.nodup.imp_of_mem fun {a b} ha hb hne he => hne (hd a b (hi.lt a ha) (hi.lt b hb) he))
  rw [List.Nodup, List.pairwise_map] at hnd
  rw [List.pairwise_iff_getElem] at hnd ⊢
  intro i j hi' hj' hij
  have h1 := ho i j hij hj'
  rw [getElem!_pos L i hi', getElem!_pos L j hj'] at h1
  rcases low_total L[i] L[j] with h | h | h
  · exact absurd h h1
  · exact h
  · exact absurd h.2 (hnd i j hi' hj' hij)
theorem met_end0 {n : Nat} {f : Nat → Fv} {s : ByteArray} {w w' : World} (h : ¬ Here n f s) (hb : Below w.heap.size w w') : MetOut n f s w w' (.returned (.tuple #[.slice none 0 0, .int .i64 12])) := Or.inl ⟨h, rfl, hb⟩
theorem met_end1 {n : Nat} {f : Nat → Fv} {s : ByteArray} {w w' : World} (hs : Here n f s) {x : ByteArray} (hm : Met n f s x) (hx : ¬ Here n f x) (hb : Below w.heap.size w w') : MetOut n f s w w' (.returned (.tuple #[.slice none 0 0, .int .i64 21])) := Or.inr (Or.inl ⟨hs, ⟨x, hm, hx⟩, rfl, hb⟩)
theorem met_end2 {n : Nat} {f : Nat → Fv} {s : ByteArray} {w w1 w' : World} {ix : List Nat} {v : Value} (hd : Dist n f) (hs : Here n f s) (hst : ∀ i, i < n → StrsAt w (f i).pa (f i).np (f i).p) (hn : n < 4611686018427387904) (hi : MetInv n f s ix ix.length 0) (ho : SortOut (ix.map f) v w1 w') (hb : Below w.heap.size w w') :
    MetOut n f s w w' (.returned (.tuple #[v, .int .i64 0])) := by
  obtain ⟨L, ao, cap, rfl, hp, hl, hc⟩ := ho
  obtain ⟨h1, h2, h3⟩ := met_sorted hd hi hp hl
  refine Or.inr (Or.inr ⟨hs, met_closed hd hi, L, ao, cap, rfl, ⟨by omega, hc, fun i hi' => ?_⟩, h1, h2, h3, hb⟩)
  have hm : L[i]! ∈ L := by rw [getElem!_pos L i hi']; exact List.getElem_mem hi'
  obtain ⟨j, hj, _, he⟩ := (h1 _).1 hm
  show StrsAt w' (L[i]!).pa (L[i]!).np (L[i]!).p
  rw [← he]
  exact (hst j hj).later hb
theorem smap_new1 (w : World) (o : Obj) (c : Nat) : SMap ((w.alloc o).alloc (.map #[] c)) (w.heap.size + 1) [] := by
  have := SMap.new (w.alloc o) c
  simpa using this
end Go.Proofs.YthcgdpdijdmelaaGreat.Ord
