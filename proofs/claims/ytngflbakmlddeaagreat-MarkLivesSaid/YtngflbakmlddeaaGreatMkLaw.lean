/- Common words for the laws of marks. (Layer 12.) -/
import Derived.Test.YtngflbakmlddeaaGreatMk13
import Derived.Test.YtngflbakmlddeaaGreatMk19
import Derived.Test.YtngflbakmlddeaaGreatMk28
namespace Go.Proofs.YtngflbakmlddeaaGreat
set_option linter.unusedVariables false
open Go.RowKit
theorem LaterOf.next {w0 : World} (x : LaterOf w0) {w' : World} (hb : Below x.w.heap.size x.w w') : ∃ y : LaterOf w0, w' = y.w := ⟨⟨w', x.h.trans (hb.mono x.h.size)⟩, rfl⟩
theorem LaterOf.at_ (w0 : World) : ∃ x : LaterOf w0, w0 = x.w := ⟨⟨w0, Below.refl _ _⟩, rfl⟩
theorem LaterOf.up {w0 w1 : World} (h : Below w0.heap.size w0 w1) (x : LaterOf w1) : ∃ y : LaterOf w0, x.w = y.w := ⟨⟨x.w, h.trans (x.h.mono h.size)⟩, rfl⟩
theorem LaterOf.allocs {w0 : World} (x : LaterOf w0) (o : Obj) : ∃ y : LaterOf w0, x.w.alloc o = y.w := ⟨⟨x.w.alloc o, x.h.alloc x.h.size _⟩, rfl⟩
theorem LaterOf.drawn {w0 : World} (x : LaterOf w0) : ∃ y : LaterOf w0, { x.w with drawn := x.w.drawn + 1 } = y.w := ⟨⟨{ x.w with drawn := x.w.drawn + 1 }, x.h.trans ⟨rfl, rfl, rfl, Nat.le_refl _, fun _ _ => rfl⟩⟩, rfl⟩
namespace Mk
theorem MkR.form {m : MkR} {w : World} (h : m.Reads w) : ∃ o1 n1 f1 o2 n2 f2 o3 n3 f3, aMk m = .agg #[.slice o1 n1 f1, .slice o2 n2 f2, .slice o3 n3 f3] := by
  obtain ⟨o1, f1, g1, -, -⟩ := h.1.form
  obtain ⟨o2, f2, g2, -, -⟩ := h.2.1.form
  obtain ⟨o3, f3, g3, -, -⟩ := h.2.2.1.form
  exact ⟨o1, _, f1, o2, _, f2, o3, _, f3, by unfold aMk; rw [g1, g2, g3]⟩
theorem dec_none_any (s : ByteArray) (hd : dec s = none) (w : World) : Calls Tryz.prog 16 #[.string s] w fun e w' => e = .returned (.tuple #[.agg #[.slice none 0 0, .slice none 0 0, .slice none 0 0], .int .i64 4]) ∧ Below w.heap.size w w' := by
  refine (decode_any s w).mono ?_
  rintro e w' ⟨m, k, rfl, -, -, hb, h⟩
  rcases h with ⟨h, -⟩ | ⟨-, rfl, rfl⟩
  · rw [hd] at h; cases h
  · exact ⟨rfl, hb⟩
theorem dec_some_any (s : ByteArray) (M : Mks) (hd : dec s = some M) (w : World) : Calls Tryz.prog 16 #[.string s] w fun e w' => (∃ m : MkR, e = .returned (.tuple #[aMk m, .int .i64 0]) ∧ m.mk_ = M ∧ m.Reads w' ∧ m.Small) ∧ Below w.heap.size w w' := by
  refine (decode_any s w).mono ?_
  rintro e w' ⟨m, k, rfl, hr, hs, hb, h⟩
  rcases h with ⟨h, rfl⟩ | ⟨h, -, -⟩
  · rw [hd] at h
    injection h with h
    exact ⟨⟨m, rfl, h.symm, hr, hs⟩, hb⟩
  · rw [hd] at h; cases h
/-- What Encode hands back, one way or the other. -/
theorem enc_cases (m : MkR) (hs : m.Small) : (goodB m.mk_ = true ∧ ∀ W, m.Reads W → Calls Tryz.prog 12 #[aMk m] W fun e w' => e = .returned (.tuple #[.string (enMk m.mk_), .int .i64 0]) ∧ Below W.heap.size W w') ∨
    (goodB m.mk_ = false ∧ ∀ W, m.Reads W → Calls Tryz.prog 12 #[aMk m] W fun e w' => e = .returned (.tuple #[.string ⟨#[]⟩, .int .i64 1]) ∧ Below W.heap.size W w') := by
  cases hg : goodB m.mk_
  · exact .inr ⟨rfl, fun W h => encode_bad m W h hs.2.2.2 hg⟩
  · exact .inl ⟨rfl, fun W h => encode_good m W h hs.2.2.2 hg⟩
theorem enMk_size {m : Mks} (h : goodB m = true) : 12 ≤ (enMk m).size ∧ (enMk m).size ≤ 170000 := by
  have h1 := pre3_size (ok_mk h) m.tombs.length
  rw [pre3_end] at h1
  refine ⟨?_, h1⟩
  unfold enMk Oct.enMany
  simp only [ByteArray.size_append, enNum_size]
  omega
end Mk
end Go.Proofs.YtngflbakmlddeaaGreat
