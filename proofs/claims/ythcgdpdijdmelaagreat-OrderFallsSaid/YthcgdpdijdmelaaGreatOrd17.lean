/- Above and Base, the program's and the reference's, walked. Conditions: at most 1,000,000 facts of 1,000,000 parents, readable. (Layer 11.) -/
import Derived.Test.YthcgdpdijdmelaaGreatOrd16
namespace Go.Proofs.YthcgdpdijdmelaaGreat.Ord
set_option linter.unusedVariables false
open Go.RowKit Go.Sort Go.Lib
theorem contains_any (ao : Option Addr) (cap : Nat) (L : List ByteArray) (x : ByteArray) (w : World) (h : StrsAt w ao L.length (fun i => L[i]!)) :
    Calls Tryz.prog 32 #[.slice ao L.length cap, .string x] w fun e w' => e = .returned (.bool (holds (x ∈ L))) ∧ w = w' := by
  rcases Nat.eq_zero_or_pos L.length with h0 | h0
  · have : L = [] := List.eq_nil_of_length_eq_zero h0
    subst this
    exact (Tryz.slices_Contains_string_empty ao cap x w).mono fun e w' ⟨h1, h2⟩ => ⟨by rw [h1, holds_false (by simp)], h2.symm⟩
  · obtain ⟨b, off, rfl, hlt, hc⟩ := h.2 h0
    refine (Tryz.slices_Contains_string b off L.length cap L x w (Nat.le_refl _) (by have := h.1; omega) (fun j hj => ?_)).mono fun e w' ⟨h1, h2⟩ => ⟨?_, h2.symm⟩
    · rw [hc j hj]
      show some (Value.string L[j]!) = _
      rw [getElem!_pos L j hj, List.getD_eq_getElem?_getD, List.getElem?_eq_getElem hj]
      rfl
    · rw [h1, List.take_length]
      congr 2
      by_cases hx : x ∈ L
      · rw [holds_true hx, Lib.containsS_iff]; exact hx
      · rw [holds_false hx, ← Bool.not_eq_true, Lib.containsS_iff]; exact hx
/-- What Above answers. -/
def AboveOut (n : Nat) (f : Nat → Fv) (s old : ByteArray) (w w' : World) (e : Ending) : Prop :=
  ∃ (c : Int) (L : List ByteArray), e = .returned (.tuple #[.bool (holds (s ≠ old ∧ old ∈ L)), .int .i64 c]) ∧ LogIs n f s c L ∧ Below w.heap.size w w'
theorem log_refusal {n : Nat} {f : Nat → Fv} {s : ByteArray} {c : Int} {L : List ByteArray} (h : LogIs n f s c L) (hc : c ≠ 0) : L = [] := by
  cases h with
  | ok => exact absurd rfl hc
  | _ => rfl
set_option maxRecDepth 100000 in
theorem above_any (ao : Option Addr) (n cap : Nat) (f : Nat → Fv) (s old : ByteArray) (w : World) (h : FactsAt w ao n f) (hn : n ≤ 1000000) (hnp : ∀ i, i < n → (f i).np ≤ 1000000) :
    Calls Tryz.prog 14 #[.slice ao n cap, .string s, .string old] w fun e w' => AboveOut n f s old w w' e := by
  have LG := Lib.hid (log_any ao n cap f s w h hn hnp)
  clear h hn hnp
  by_cases he : s = old
  · subst he
    have z : (s.toList == s.toList) = true := by simp
    go_enter Tryz.func14, Tryz.ntmps14
    go_wp2_with fail
    refine LG.out.mono ?_
    rintro e w1 ⟨c, L, ao1, cap1, rfl, hL, hS, hb⟩
    have H1 := Lib.hid (And.intro hL hb)
    clear hL hS hb LG
    go_wp2_with fail
    go_ret2
    exact ⟨c, L, by rw [holds_false (fun h => h.1 rfl)]; rfl, H1.out.1, H1.out.2⟩
  · have z := ne_list he
    have z' : (s.toList != old.toList) = true := by rw [bne, z]; rfl
    have HE := Lib.hid he
    clear he
    go_enter Tryz.func14, Tryz.ntmps14
    go_wp2_with fail
    refine LG.out.mono ?_
    rintro e w1 ⟨c, L, ao1, cap1, rfl, hL, hS, hb⟩
    have H1 := Lib.hid (And.intro hL hb)
    have C := Lib.hid (contains_any ao1 cap1 L old w1 hS)
    obtain ⟨r, hr⟩ : ∃ r, r = holds (old ∈ L) := ⟨_, rfl⟩
    rw [← hr] at C
    have HR := Lib.hid hr
    clear hL hS hb LG hr
    go_wp2_with fail
    refine C.out.mono ?_
    rintro e w2 ⟨rfl, rfl⟩
    clear C
    go_wp2_with fail
    go_ret2
    refine ⟨c, L, ?_, H1.out.1, H1.out.2⟩
    have e : holds (s ≠ old ∧ old ∈ L) = r := by
      rw [HR.out]
      have hx := HE.out
      by_cases h : old ∈ L
      · rw [holds_true h, holds_true ⟨hx, h⟩]
      · rw [holds_false h, holds_false fun hh => h hh.2]
    rw [e]
    rfl
/-- The first of some texts that is among others; none: empty. -/
noncomputable def firstIn (L M : List ByteArray) : ByteArray := (L.find? fun x => holds (x ∈ M)).getD ⟨#[]⟩
theorem firstIn_at {L M : List ByteArray} {k : Nat} (hk : k < L.length) (h : ∀ j, j < k → ¬ L[j]! ∈ M) (he : L[k]! ∈ M) : firstIn L M = L[k]! := by
  unfold firstIn
  rw [getElem!_pos L k hk] at he ⊢
  have : L.find? (fun x => holds (x ∈ M)) = some L[k] := by
    rw [List.find?_eq_some_iff_getElem]
    refine ⟨holds_true he, k, hk, rfl, fun j hj => ?_⟩
    have := h j hj
    rw [getElem!_pos L j (by omega)] at this
    rw [holds_false this]
    rfl
  rw [this]
  rfl
theorem firstIn_none {L M : List ByteArray} (h : ∀ j, j < L.length → ¬ L[j]! ∈ M) : firstIn L M = ⟨#[]⟩ := by
  unfold firstIn
  have : L.find? (fun x => holds (x ∈ M)) = none := by
    rw [List.find?_eq_none]
    intro x hx
    obtain ⟨j, hj, hje⟩ := List.getElem_of_mem hx
    have := h j hj
    rw [getElem!_pos L j hj, hje] at this
    rw [holds_false this]
    simp
  rw [this]
  rfl
/-- What Base answers. -/
def BaseOut (n : Nat) (f : Nat → Fv) (a b : ByteArray) (w w' : World) (e : Ending) : Prop :=
  Below w.heap.size w w' ∧ ∃ (c : Int) (L : List ByteArray), LogIs n f a c L ∧ ((c ≠ 0 ∧ e = .returned (.tuple #[.string ⟨#[]⟩, .int .i64 c])) ∨ (c = 0 ∧ ∃ (d : Int) (M : List ByteArray), LogIs n f b d M ∧
    ((d ≠ 0 ∧ e = .returned (.tuple #[.string ⟨#[]⟩, .int .i64 d])) ∨ (d = 0 ∧ e = .returned (.tuple #[.string (firstIn L M), .int .i64 0])))))
set_option maxRecDepth 100000 in
theorem base_any (ao : Option Addr) (n cap : Nat) (f : Nat → Fv) (a b : ByteArray) (w : World) (h : FactsAt w ao n f) (hn : n ≤ 1000000) (hnp : ∀ i, i < n → (f i).np ≤ 1000000) :
    Calls Tryz.prog 15 #[.slice ao n cap, .string a, .string b] w fun e w' => BaseOut n f a b w w' e := by
  have LG := Lib.hid (fun (s : ByteArray) (w : World) (h : FactsAt w ao n f) => log_any ao n cap f s w h hn hnp)
  have HF := Lib.hid h
  clear h hn hnp
  go_enter Tryz.func15, Tryz.ntmps15
  go_wp2_with fail
  refine (LG.out a w HF.out).mono ?_
  rintro e w1 ⟨c, L, ao1, cap1, rfl, hL, hS, hb⟩
  have H1 := Lib.hid (And.intro hL (And.intro hb hS))
  clear hL hb
  by_cases hc : c = 0
  · subst hc
    have hmL := hS.1
    clear hS
    go_wp2_with fail
    refine (LG.out b w1 (HF.out.later H1.out.2.1)).mono ?_
    rintro e w2 ⟨d, M, ao2, cap2, rfl, hM, hS2, hb2⟩
    have H2 := Lib.hid (And.intro hM (And.intro (H1.out.2.1.trans (hb2.mono H1.out.2.1.size)) (And.intro (H1.out.2.2.later hb2) hS2)))
    clear hM hb2 hS2 LG
    by_cases hd : d = 0
    · subst hd
      go_wp2_with fail
      go_loopw [33] (fun i wr => ∃ k : Nat, i = .int .i64 (k : Int) ∧ k ≤ L.length ∧ Hid (∀ j, j < k → ¬ L[j]! ∈ M) ∧ w2 = wr) (fun i _ => ((L.length : Int) - intOf i).toNat)
      case atStart => exact ⟨0, rfl, by omega, Lib.hid (fun j hj => by omega), rfl⟩
      case round =>
        obtain ⟨k, rfl, hk, HK, rfl⟩ := hrel
        rcases Nat.lt_or_ge k L.length with hk1 | hk1
        · obtain ⟨bL, offL, rfl, hlt, hcell⟩ := H2.out.2.2.1.2 (by omega)
          have c0 := hcell k hk1
          have ki : (k : Int) < L.length := by omega
          obtain ⟨y, hy⟩ : ∃ y, y = L[k]! := ⟨_, rfl⟩
          simp only [← hy] at c0
          have HY := Lib.hid hy
          have C := Lib.hid (contains_any ao2 cap2 M y w2 H2.out.2.2.2)
          clear hcell hy
          by_cases hx : y ∈ M
          · rw [holds_true hx] at C
            have HX := Lib.hid hx
            clear hx
            go_wp2_with fail
            refine C.out.mono ?_
            rintro e w3 ⟨rfl, rfl⟩
            clear C
            go_wp2_with fail
            go_ret2
            refine ⟨H2.out.2.1, 0, L, H1.out.1, Or.inr ⟨rfl, 0, M, H2.out.1, Or.inr ⟨rfl, ?_⟩⟩⟩
            rw [firstIn_at hk1 HK.out (by rw [← HY.out]; exact HX.out), ← HY.out]
            rfl
          · rw [holds_false hx] at C
            have HX := Lib.hid hx
            clear hx
            go_wp2_with fail
            refine C.out.mono ?_
            rintro e w3 ⟨rfl, rfl⟩
            clear C
            go_wp2_with fail
            refine ⟨⟨k + 1, rfl, hk1, Lib.hid fun j hj => ?_, trivial⟩, ?_⟩
            · rcases Nat.lt_or_ge j k with h1 | h1
              · exact HK.out j h1
              · obtain rfl : j = k := by omega
                rw [← HY.out]; exact HX.out
            · simp [intOf]
              omega
        · have ki : (L.length : Int) ≤ (k : Int) := by omega
          go_wp2_with fail
          go_ret2
          refine ⟨H2.out.2.1, 0, L, H1.out.1, Or.inr ⟨rfl, 0, M, H2.out.1, Or.inr ⟨rfl, ?_⟩⟩⟩
          rw [firstIn_none fun j hj => HK.out j (by omega)]
          rfl
    · have hd1 : (d != 0) = true := by simpa using hd
      have hd2 : (d == 0) = false := by simpa using hd
      have HD := Lib.hid hd
      clear hd
      go_wp2_with fail
      go_ret2
      exact ⟨H2.out.2.1, 0, L, H1.out.1, Or.inr ⟨rfl, d, M, H2.out.1, Or.inl ⟨HD.out, rfl⟩⟩⟩
  · have hc1 : (c != 0) = true := by simpa using hc
    have hc2 : (c == 0) = false := by simpa using hc
    have HC := Lib.hid hc
    clear hc hS LG
    go_wp2_with fail
    go_ret2
    exact ⟨H1.out.2.1, c, L, H1.out.1, Or.inl ⟨HC.out, rfl⟩⟩
end Go.Proofs.YthcgdpdijdmelaaGreat.Ord
