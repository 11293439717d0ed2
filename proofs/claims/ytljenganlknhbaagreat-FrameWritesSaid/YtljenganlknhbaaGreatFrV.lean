/- Words for the laws' walks: a message's value, Encode's two ways, Decode to a given answer. Printed by gen_frback.py. (Layer 19.) -/
import Derived.Test.YtljenganlknhbaaGreatFrW
import Derived.Test.YtljenganlknhbaaGreatFrS
import Derived.Test.YtljenganlknhbaaGreatFrGr
namespace Go.Proofs.YtljenganlknhbaaGreat.Fr
set_option linter.unusedVariables false
set_option linter.unusedSimpArgs false
open Go.RowKit Go.Lib Oct
open Mk (eqB eqB_yes eqB_iff bytes_eq)
theorem lat_next {w0 : World} (x : LaterOf w0) {w' : World} (hb : Below x.w.heap.size x.w w') : ∃ y : LaterOf w0, w' = y.w := ⟨⟨w', x.h.trans (hb.mono x.h.size)⟩, rfl⟩
theorem lat_allocs {w0 : World} (x : LaterOf w0) (o : Obj) : ∃ y : LaterOf w0, x.w.alloc o = y.w := ⟨⟨x.w.alloc o, x.h.alloc x.h.size _⟩, rfl⟩
theorem MsgR.agg {m : MsgR} {w : World} (h : m.Reads w) : ∃ akk asc ads ase ast ao1 an1 af1 ao2 an2 af2 ao3 an3 af3 ao4 an4 af4 ao5 an5 af5 ao6 an6 af6 ao7 an7 af7, aMsg m = .agg #[.int .i64 akk, .int .i64 asc, .int .i64 ads, .int .i64 ase, .int .i64 ast, .slice ao1 an1 af1, .slice ao2 an2 af2, .slice ao3 an3 af3, .slice ao4 an4 af4, .slice ao5 an5 af5, .slice ao6 an6 af6, .slice ao7 an7 af7] := by
  obtain ⟨o1, f1, o2, f2, o3, f3, o4, f4, o5, f5, o6, f6, o7, f7, e1, e2, e3, e4, e5, e6, e7⟩ := MsgR.form h
  exact ⟨m.kind, m.src, m.dst, m.ses, m.step, o1, _, f1, o2, _, f2, o3, _, f3, o4, _, f4, o5, _, f5, o6, _, f6, o7, _, f7, by unfold aMsg; rw [e1, e2, e3, e4, e5, e6, e7]⟩
theorem same_to (a b : MsgR) (W : World) (t : Bool) (ha : a.Reads W) (hb : b.Reads W) (hna : a.Small) (hnb : b.Small) (ht : eqB a.msg b.msg = t) : Calls Tryz.prog 16 #[aMsg a, aMsg b] W fun e w' => e = .returned (.bool t) ∧ Below W.heap.size W w' := by
  rw [← ht]; exact same_any a b W ha hb hna hnb
theorem enc_cases (m : MsgR) (hs : m.Small) : (goodM m.msg = false ∧ ∀ w, m.Reads w → Calls Tryz.prog 10 #[aMsg m] w fun e w' => e = .returned (.tuple #[.string ⟨#[]⟩, .int .i64 1]) ∧ Below w.heap.size w w') ∨
    (goodM m.msg = true ∧ ∀ w, m.Reads w → Calls Tryz.prog 10 #[aMsg m] w fun e w' => e = .returned (.tuple #[.string (encM m.msg), .int .i64 0]) ∧ Below w.heap.size w w') := by
  cases hg : goodM m.msg
  · exact .inl ⟨rfl, fun w h => encode_bad m w h hs hg⟩
  · exact .inr ⟨rfl, fun w h => encode_good m w h hs hg⟩
theorem dec_to (s : ByteArray) (w : World) (hs : s.size ≤ 1073741824) {n : Int} {M : Msg} (hd : decM s = (n, M)) : Calls Tryz.prog 14 #[.string s] w fun e w' => ∃ x : MsgR, e = .returned (.tuple #[aMsg x, .int .i64 n]) ∧ x.msg = M ∧ x.Reads w' ∧ x.Small ∧ Below w.heap.size w w' := by
  refine (decode_any s w hs).mono ?_
  rintro e w' ⟨x, h1, h2, h3, h4, h5⟩
  rw [hd] at h1 h2
  exact ⟨x, h1, h2, h3, h4, h5⟩
theorem encM_size {m : Msg} (h : goodM m = true) : (encM m).size ≤ 1073741824 := by
  have := enBody_size h
  unfold encM frameB
  simp only [ByteArray.size_append, Mk.enNum_size]
  omega
theorem decM_split (s : ByteArray) : (∃ n, decM s = (n, noMsg) ∧ n ≠ 0) ∨ ∃ M, decM s = (0, M) ∧ goodM M = true ∧ encM M = s := by
  rcases decM_cases s with ⟨h1, h2⟩ | ⟨h1, h2, h3⟩
  · exact .inl ⟨(decM s).1, Prod.ext rfl h1, by omega⟩
  · exact .inr ⟨(decM s).2, Prod.ext h1 rfl, h2, h3⟩
end Go.Proofs.YtljenganlknhbaaGreat.Fr
