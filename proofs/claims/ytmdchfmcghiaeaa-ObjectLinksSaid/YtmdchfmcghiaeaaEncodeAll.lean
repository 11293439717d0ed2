/- object.Encode of any object whose slices are known: its bytes, or none. Conditions: at most 1,000,000 entries; the parents' slice within its capacity. -/
import Derived.Test.YtmdchfmcghiaeaaEncodeC
namespace Go.Proofs.Ytmdchfmcghiaeaa.Obj
open Go.RowKit
/-- The bytes of an object that can be. -/
def encB (o : Plain) : List UInt8 :=
  if o.k = 1 then 1 :: o.d.data.toList else if o.k = 2 then treeB o.ne o.nm o.kd o.id else comB o.t o.np o.f o.h.toNat o.n
/-- What Encode hands back. -/
def enc (o : Plain) : ByteArray := if o.good then ⟨(encB o).toArray⟩ else ⟨#[]⟩
theorem encode_any (o : Plain) (es ps : Value) (w : World) (he : EntsV w es o) (hp : StrsC w ps o) (hn : o.ne ≤ 1000000) :
    Calls Try.prog 28 #[obj o.k o.d es o.t ps o.h o.n] w fun e w' => e = .returned (.tuple #[.string (enc o), .int .i64 (if o.good then 0 else 1)]) ∧ Below w.heap.size w w' := by
  cases hg : o.good
  · have h := encode_bad o.k o.d es o.t ps o.h o.n w fun w1 hb => by
      have := good_any o es ps w1 (he.later hb) (hp.strs.later hb) hn
      rw [hg] at this
      exact this
    unfold enc
    rw [hg]
    exact h
  · unfold enc
    rw [hg]
    obtain ⟨k, d, ne, nm, kd, id, t, np, f, h, n⟩ := o
    obtain ⟨ao, cap, rfl, he⟩ := he
    obtain ⟨ap, cp, rfl, hc, hp⟩ := hp
    simp only [Plain.good] at *
    simp only [encB, if_true]
    by_cases h1 : k = 1
    · subst h1
      rw [if_pos rfl] at hg ⊢
      exact encode_blob d _ t _ h n w (by have := of_decide_eq_true hg; omega)
    rw [if_neg h1] at hg ⊢
    by_cases h2 : k = 2
    · subst h2
      rw [if_pos rfl] at hg ⊢
      exact encode_tree d ao ne cap nm kd id t _ h n w he hg
    rw [if_neg h2] at hg ⊢
    by_cases h3 : k = 3
    · subst h3
      rw [if_pos rfl] at hg
      obtain ⟨_, _, h0, _⟩ := commit_fields hg
      obtain ⟨hh, rfl⟩ := Int.eq_ofNat_of_zero_le h0
      exact encode_commit d _ t ap np cp f hh n w hp hc hg
    rw [if_neg h3] at hg
    cases hg
end Go.Proofs.Ytmdchfmcghiaeaa.Obj
