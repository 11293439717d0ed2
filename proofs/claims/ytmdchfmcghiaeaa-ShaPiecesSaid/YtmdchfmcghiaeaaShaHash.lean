/- A Hash as an object: what it holds, Add and End on it; on a nil one. -/
import Derived.Test.YtmdchfmcghiaeaaShaRef4
namespace Go.Proofs.Ytmdchfmcghiaeaa.Sha
open Go.RowKit

/-- At block g lies a Hash to which the bytes T were added; its memory is from B on. -/
def HashOf (w : World) (g B : Nat) (T : List UInt8) : Prop :=
  ∃ v, BlkIs w g 66 (hcells (absorb T.length H0 T).1 v T.length) ∧ SlIs w B 5 1 v (absorb T.length H0 T).2.length (bcells (absorb T.length H0 T).2) ∧ B ≤ g
theorem HashOf.lt {w : World} {g B : Nat} {T : List UInt8} (h : HashOf w g B T) : g < w.heap.size := by
  obtain ⟨v, h1, _⟩ := h; exact h1.lt
theorem HashOf.later {w w' : World} {g B : Nat} {T : List UInt8} (h : HashOf w g B T) (hb : Below w.heap.size w w') : HashOf w' g B T := by
  obtain ⟨v, h1, h2, h3⟩ := h
  exact ⟨v, h1.below hb h1.lt, h2.later hb, h3⟩
theorem hash_new (w : World) : Calls Try.prog 16 #[] w fun e w' => ∃ g, e = .returned (.pointer (some ⟨g, 0, none⟩)) ∧ HashOf w' g w.heap.size [] ∧ Below w.heap.size w w' :=
  (new_any w).mono fun _ _ ⟨g, he, hg, hb, hbe⟩ => ⟨g, he, ⟨_, hb, SlIs.nil_ _ _ _ _, hg⟩, hbe⟩
theorem hash_add (g B : Nat) (s : ByteArray) (T : List UInt8) (w : World) (h : HashOf w g B T) (hs : T.length + s.size ≤ 140737488355328) :
    Calls Try.prog 18 #[.pointer (some ⟨g, 0, none⟩), .string s] w fun e w' => e = .returned (.tuple #[]) ∧ HashOf w' g B (T ++ s.data.toList) ∧ Below B w w' := by
  obtain ⟨v, h1, h2, h3⟩ := h
  have hl := absorb_le T.length H0 T
  have hsz : s.data.toList.length = s.size := rfl
  refine (add_any g B s _ v _ T.length w (absorb_isW _ _ _ H0_isW) h1 h2 h3 (by omega) (by omega) (by omega)).mono ?_
  rintro e w' ⟨he, v', h4, h5, h6⟩
  refine ⟨he, ⟨v', ?_, ?_, h3⟩, h6⟩
  · have e1 := absorb_append T.length H0 T s.data.toList (Nat.le_refl _)
    rw [hsz] at e1
    rw [List.length_append, hsz, e1]
    have e2 : ((T.length : Nat) : Int) + (s.size : Int) = ((T.length + s.size : Nat) : Int) := by omega
    rw [e2] at h4
    exact h4
  · have e1 := absorb_append T.length H0 T s.data.toList (Nat.le_refl _)
    rw [hsz] at e1
    rw [List.length_append, hsz, e1]
    exact h5
theorem hash_end (g B : Nat) (T : List UInt8) (w : World) (h : HashOf w g B T) (hs : T.length ≤ 140737488355328) :
    Calls Try.prog 17 #[.pointer (some ⟨g, 0, none⟩)] w fun e w' => e = .returned (.string ⟨(sum T).toArray⟩) ∧ Below w.heap.size w w' := by
  obtain ⟨v, h1, h2, h3⟩ := h
  have hr := absorb_rest T.length H0 T (Nat.le_refl _)
  exact end_any g B _ v _ T.length w (absorb_isW _ _ _ H0_isW) h1 h2 (by omega) (by omega)
theorem nil_add (s : ByteArray) (w : World) : Calls Try.prog 18 #[.pointer none, .string s] w fun e w' => e = .returned (.tuple #[]) ∧ w = w' := by
  go_enter Try.func18, Try.ntmps18
  go_wp2
  refine bodyPost_ret (results_none rfl _ _ _) rfl ⟨rfl, rfl⟩
theorem nil_end (w : World) : Calls Try.prog 17 #[.pointer none] w fun e w' => e = .returned (.string ⟨#[]⟩) ∧ w = w' := by
  go_enter Try.func17, Try.ntmps17
  go_wp2
  go_ret
  exact ⟨rfl, rfl⟩
end Go.Proofs.Ytmdchfmcghiaeaa.Sha
