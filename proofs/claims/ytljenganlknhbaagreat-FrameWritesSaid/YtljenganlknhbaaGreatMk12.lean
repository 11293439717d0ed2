/- mark.num, walked; how long the bytes of marks are. (Layer 12.) -/
import Derived.Test.YtljenganlknhbaaGreatPkX
import Derived.Test.YtljenganlknhbaaGreatPkH
import Derived.Test.YtljenganlknhbaaGreatPkB
namespace Go.Proofs.YtljenganlknhbaaGreat.Mk
set_option linter.unusedVariables false
open Go.RowKit Oct
theorem enNum_size (n : Int) : (enNum n).size = 4 := rfl
theorem enText_size (s : ByteArray) : (enText s).size = 4 + s.size := by
  show (txt s.data.toList).length = _
  unfold txt
  rw [List.length_append, le32_length]
  rfl
theorem mnum_any (n : Int) (h : okN n) (w : World) : Calls Tryz.prog 118 #[.int .i64 n] w fun e w' => e = .returned (.string (enNum n)) ∧ Below w.heap.size w w' := by
  obtain ⟨h1, h2⟩ := h
  obtain ⟨k, rfl⟩ := Int.eq_ofNat_of_zero_le h1
  have hn := Oct.num k
  have e : (enNum (k : Int)) = ⟨(le32 k).toArray⟩ := rfl
  rw [← e] at hn
  obtain ⟨T, hT⟩ : ∃ T, T = enNum (k : Int) := ⟨_, rfl⟩
  rw [← hT] at hn ⊢
  have Hn := Lib.hid hn
  have hw : IntKind.u32.wrap (k : Int) = (k : Int) := by rw [IntKind.wrap_u32]; omega
  clear hn e hT h1 h2
  go_enter Tryz.func118, Tryz.ntmps118
  go_wp2_with fail
  refine (Hn.out _).mono ?_
  rintro e w2 ⟨rfl, hb⟩
  have H := Lib.hid hb
  clear hb
  go_wp2_with fail
  go_ret
  exact ⟨rfl, H.out⟩
theorem mtext_any (s : ByteArray) (h : s.size ≤ 140737488355328) (w : World) : Calls Tryz.prog 72 #[.string s] w fun e w' => e = .returned (.string (enText s)) ∧ Below w.heap.size w w' := Oct.text s w h
theorem enAll_size {α : Type} {en : α → ByteArray} {c : Nat} : ∀ (l : List α), (∀ x ∈ l, (en x).size ≤ c) → (enAll en l).size ≤ c * l.length
  | [], _ => by show (0 : Nat) ≤ _; omega
  | x :: l, h => by
    have h1 := h x (by simp)
    have h2 := enAll_size l fun y hy => h y (by simp [hy])
    show (en x ++ enAll en l).size ≤ _
    rw [ByteArray.size_append, List.length_cons, Nat.mul_succ]
    omega
theorem enRf_size {r : Rf} (h : okRf r) : (enRf r).size ≤ 295 := by
  obtain ⟨h1, h2, h3⟩ := h
  unfold enRf
  rw [ByteArray.size_append, ByteArray.size_append, enText_size, enNum_size]
  omega
theorem enTok_size {x : Tok} (h : okTok x) : (enTok x).size ≤ 40 := by
  obtain ⟨h1, h2, h3⟩ := h
  unfold enTok
  rw [ByteArray.size_append, ByteArray.size_append, enNum_size, enNum_size]
  omega
theorem enCov_size (x : Tok) : (enCov x).size ≤ 8 := by
  unfold enCov
  rw [ByteArray.size_append, enNum_size, enNum_size]
  omega
theorem enTb_size {t : Tb} (h : okTb t) : (enTb t).size ≤ 2124 := by
  obtain ⟨h1, ⟨h2, _⟩, h4, _⟩ := h
  have e1 := enAll_size (en := enCov) (c := 8) t.cov fun x _ => enCov_size x
  have e2 := enAll_size (en := enNum) (c := 4) t.acks fun x _ => Nat.le_of_eq (enNum_size x)
  have e3 : t.id.size = 32 := h1.2.2
  unfold enTb enMany
  simp only [ByteArray.size_append, enNum_size]
  omega
/-- What is written when k refs, k tokens, k tombs are. -/
def pre1 (m : Mks) (k : Nat) : ByteArray := enNum m.refs.length ++ enAll enRf (m.refs.take k)
def pre2 (m : Mks) (k : Nat) : ByteArray := enMany enRf m.refs ++ (enNum m.toks.length ++ enAll enTok (m.toks.take k))
def pre3 (m : Mks) (k : Nat) : ByteArray := enMany enRf m.refs ++ enMany enTok m.toks ++ (enNum m.tombs.length ++ enAll enTb (m.tombs.take k))
theorem pre1_succ {m : Mks} {k : Nat} (h : k < m.refs.length) : pre1 m (k + 1) = pre1 m k ++ enRf m.refs[k] := by
  unfold pre1
  rw [take_snoc' h, enAll_snoc, ByteArray.append_assoc]
theorem pre2_succ {m : Mks} {k : Nat} (h : k < m.toks.length) : pre2 m (k + 1) = pre2 m k ++ enTok m.toks[k] := by
  unfold pre2
  rw [take_snoc' h, enAll_snoc]
  simp only [ByteArray.append_assoc]
theorem pre3_succ {m : Mks} {k : Nat} (h : k < m.tombs.length) : pre3 m (k + 1) = pre3 m k ++ enTb m.tombs[k] := by
  unfold pre3
  rw [take_snoc' h, enAll_snoc]
  simp only [ByteArray.append_assoc]
theorem pre1_end (m : Mks) : pre1 m m.refs.length = enMany enRf m.refs := by
  unfold pre1 enMany
  rw [List.take_length]
theorem pre2_end (m : Mks) : pre2 m m.toks.length = enMany enRf m.refs ++ enMany enTok m.toks := by
  unfold pre2
  rw [List.take_length]
  rfl
theorem pre3_end (m : Mks) : pre3 m m.tombs.length = enMk m := by
  unfold pre3 enMk
  rw [List.take_length]
  rfl
theorem pre1_size {m : Mks} (h : okMk m) (k : Nat) : (pre1 m k).size ≤ 20000 := by
  obtain ⟨⟨h1, h2⟩, _⟩ := h
  have := enAll_size (en := enRf) (c := 295) (m.refs.take k) fun x hx => enRf_size (h2 x (List.mem_of_mem_take hx))
  have hl : (m.refs.take k).length ≤ m.refs.length := List.length_take_le' _ _
  unfold pre1
  rw [ByteArray.size_append, enNum_size]
  omega
theorem pre2_size {m : Mks} (h : okMk m) (k : Nat) : (pre2 m k).size ≤ 31000 := by
  have h0 := pre1_size h m.refs.length
  rw [pre1_end] at h0
  obtain ⟨_, ⟨h1, h2⟩, _⟩ := h
  have := enAll_size (en := enTok) (c := 40) (m.toks.take k) fun x hx => enTok_size (h2 x (List.mem_of_mem_take hx))
  have hl : (m.toks.take k).length ≤ m.toks.length := List.length_take_le' _ _
  unfold pre2
  rw [ByteArray.size_append, ByteArray.size_append, enNum_size]
  omega
theorem pre3_size {m : Mks} (h : okMk m) (k : Nat) : (pre3 m k).size ≤ 170000 := by
  have h0 := pre2_size h m.toks.length
  rw [pre2_end] at h0
  obtain ⟨_, _, h1, h2⟩ := h
  have := enAll_size (en := enTb) (c := 2124) (m.tombs.take k) fun x hx => enTb_size (h2 x (List.mem_of_mem_take hx))
  have hl : (m.tombs.take k).length ≤ m.tombs.length := List.length_take_le' _ _
  rw [ByteArray.size_append] at h0
  unfold pre3
  simp only [ByteArray.size_append, enNum_size]
  omega
end Go.Proofs.YtljenganlknhbaaGreat.Mk
