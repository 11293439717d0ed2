/- Rising rows of pairs with the same pairs are the same; Cut is mdel. No program is walked. (Layer 08.) -/
import Derived.Test.YtckhekkdidfefaaSetP1
namespace Go.Proofs.Ytckhekkdidfefaa.Set
set_option linter.unusedVariables false
theorem row_ext {L M : Row} (hL : Rise (ks L)) (hM : Rise (ks M)) (h : ∀ u v, (u, v) ∈ L ↔ (u, v) ∈ M) : L = M := by
  have hk : ks L = ks M := by
    refine rise_ext hL hM fun u => ?_
    constructor
    · intro hu
      obtain ⟨⟨a, b⟩, hm, rfl⟩ := List.mem_map.1 hu
      exact mem_key ((h a b).1 hm)
    · intro hu
      obtain ⟨⟨a, b⟩, hm, rfl⟩ := List.mem_map.1 hu
      exact mem_key ((h a b).2 hm)
  have hl : L.length = M.length := by rw [← ks_len L, hk, ks_len]
  refine List.ext_getElem hl fun i h1 h2 => ?_
  have e1 : L[i].1 = M[i].1 := by
    have h3 : i < (ks L).length := by simpa using h1
    have h4 : i < (ks M).length := by simpa using h2
    have : (ks L)[i] = (ks M)[i] := by simp only [hk]
    simpa using this
  have m1 : mget M L[i].1 = L[i].2 := mget_mem hM ((h _ _).1 (List.getElem_mem h1))
  have m2 : mget M M[i].1 = M[i].2 := mget_mem hM (List.getElem_mem h2)
  rw [e1, m2] at m1
  exact Prod.ext e1 m1.symm
theorem cutL_mem {x : ByteArray} {L : Row} {u : ByteArray} {v : Int} : (u, v) ∈ cutL x L ↔ u ≠ x ∧ (u, v) ∈ L := by
  unfold cutL
  rw [List.mem_filter]
  have hcu : (u.toList == x.toList) = true ↔ u = x := by rw [beq_iff_eq, ByteArray.toList_eq, ByteArray.toList_eq]; exact ⟨bytes_inj, fun h => by rw [h]⟩
  constructor
  · rintro ⟨h1, h2⟩
    refine ⟨fun e => ?_, h1⟩
    rw [hcu.2 e] at h2
    cases h2
  · rintro ⟨h1, h2⟩
    refine ⟨h2, ?_⟩
    cases hh : (u.toList == x.toList)
    · rfl
    · exact (h1 (hcu.1 hh)).elim
theorem cutL_rise {x : ByteArray} {L : Row} (hr : Rise (ks L)) : Rise (ks (cutL x L)) := hr.sublist (List.Sublist.map _ List.filter_sublist)
theorem cutL_is {x : ByteArray} {L : Row} (hr : Rise (ks L)) : cutL x L = mdel x L :=
  row_ext (cutL_rise hr) (ks_del_rise hr) fun u v => cutL_mem.trans (mdel_mem hr).symm
end Go.Proofs.Ytckhekkdidfefaa.Set
