/- Texts compared by the reference, and the laws' own small functions: same, great, heights, walked. Conditions: the slices' cells as they lie. (Layer 11.) -/
import Derived.Test.YthcgdpdijdmelaaOrd4
namespace Go.Proofs.Ythcgdpdijdmelaa.Ord
set_option linter.unusedVariables false
open Go.RowKit Go.Sort Go.Lib
/-- Whether something holds, as a bool. -/
noncomputable def holds (p : Prop) : Bool := @decide p (Classical.propDecidable p)
theorem holds_true {p : Prop} (h : p) : holds p = true := by unfold holds; exact @decide_eq_true p (Classical.propDecidable p) h
theorem holds_false {p : Prop} (h : ¬ p) : holds p = false := by unfold holds; exact @decide_eq_false p (Classical.propDecidable p) h
theorem holds_iff {p : Prop} : holds p = true ↔ p := by unfold holds; exact @decide_eq_true_iff p (Classical.propDecidable p)
def SameTexts (n m : Nat) (f g : Nat → ByteArray) : Prop := n = m ∧ ∀ i, i < n → f i = g i
theorem texts_any (ao : Option Addr) (n c : Nat) (f : Nat → ByteArray) (bo : Option Addr) (m d : Nat) (g : Nat → ByteArray) (w : World) (h : StrsAt w ao n f) (h' : StrsAt w bo m g) :
    Calls Try.prog 18 #[.slice ao n c, .slice bo m d] w fun e w' => e = .returned (.bool (holds (SameTexts n m f g))) ∧ Below w.heap.size w w' := by
  obtain ⟨r, hr⟩ : ∃ r, r = holds (SameTexts n m f g) := ⟨_, rfl⟩
  rw [← hr]
  have HR := Lib.hid hr
  obtain ⟨hm, hc⟩ := h
  obtain ⟨hm', hc'⟩ := h'
  have Hc := Lib.hid (And.intro hc hc')
  clear hc hc' hr
  by_cases hnm : n = m
  · subst hnm
    go_enter Try.func18, Try.ntmps18
    go_wp2_with fail
    go_loopw [5] (fun i wr => ∃ k : Nat, i = .int .i64 (k : Int) ∧ k ≤ n ∧ Hid (∀ j, j < k → f j = g j) ∧ DrawsOf w wr) (fun i _ => ((n : Int) - intOf i).toNat)
    case atStart => exact ⟨0, rfl, by omega, Lib.hid (fun j hj => by omega), DrawsOf.refl _⟩
    case round =>
      obtain ⟨k, rfl, hk, hb, hd⟩ := hrel
      have Hd := Lib.hid hd
      rcases Nat.lt_or_ge k n with hk1 | hk1
      · obtain ⟨b, off, rfl, hlt, hcell⟩ := Hc.out.1 (by omega)
        obtain ⟨b', off', rfl, hlt', hcell'⟩ := Hc.out.2 (by omega)
        have c0 : wr.cell? ⟨b, off + k, none⟩ = some (.string (f k)) := by rw [hd.cell]; exact hcell k hk1
        have c1 : wr.cell? ⟨b', off' + k, none⟩ = some (.string (g k)) := by rw [hd.cell]; exact hcell' k hk1
        have ki : (k : Int) < n := by omega
        obtain ⟨y, hy⟩ : ∃ y, y = f k := ⟨_, rfl⟩
        obtain ⟨z, hz⟩ : ∃ z, z = g k := ⟨_, rfl⟩
        rw [← hy] at c0
        rw [← hz] at c1
        have HY := Lib.hid (And.intro hy hz)
        clear hcell hcell' hy hz hd
        by_cases he : y = z
        · subst he
          have z' : (y.toList == y.toList) = true := by simp
          go_wp2_with fail
          go_quiet (fail)
          go_wp2_with fail
          refine ⟨⟨k + 1, rfl, hk1, Lib.hid fun j hj => ?_, Hd.out.drewN _⟩, ?_⟩
          · rcases Nat.lt_or_ge j k with h1 | h1
            · exact hb.out j h1
            · obtain rfl : j = k := by omega
              rw [← HY.out.1, ← HY.out.2]
          · simp [intOf]
            omega
        · have z' := ne_list he
          have HE := Lib.hid he
          clear he
          go_wp2_with fail
          go_quiet (fail)
          go_wp2_with fail
          go_ret
          refine ⟨?_, (Hd.out.drewN _).below _⟩
          rw [HR.out, holds_false]
          · rfl
          · rintro ⟨_, h2⟩
            exact HE.out (by rw [HY.out.1, HY.out.2]; exact h2 k hk1)
      · have ki : (n : Int) ≤ (k : Int) := by omega
        clear hd
        go_wp2_with fail
        go_ret
        refine ⟨?_, Hd.out.below _⟩
        rw [HR.out, holds_true]
        · rfl
        · exact ⟨rfl, fun i hi => hb.out i (by omega)⟩
  · have hne : ((n : Int) == (m : Int)) = false := by simp; omega
    have HN := Lib.hid hnm
    clear hnm
    go_enter Try.func18, Try.ntmps18
    go_wp2_with fail
    go_ret
    refine ⟨?_, Below.refl _ _⟩
    rw [HR.out, holds_false]
    · rfl
    · exact fun h => HN.out h.1
def SameF (x y : Fv) : Prop := x.id = y.id ∧ x.h = y.h ∧ SameTexts x.np y.np x.p y.p
theorem same_any (x y : Fv) (w : World) (h : StrsAt w x.pa x.np x.p) (h' : StrsAt w y.pa y.np y.p) :
    Calls Try.prog 14 #[.agg #[.string x.id, .int .i64 x.h, .slice x.pa x.np x.pc], .agg #[.string y.id, .int .i64 y.h, .slice y.pa y.np y.pc]] w fun e w' => e = .returned (.bool (holds (SameF x y))) ∧ Below w.heap.size w w' := by
  have hb := ((Below.refl w.heap.size w).alloc (Nat.le_refl _) (.cells #[.string x.id, .int .i64 x.h, .slice x.pa x.np x.pc] 24)).alloc (by simp) (.cells #[.string y.id, .int .i64 y.h, .slice y.pa y.np y.pc] 24)
  have T := Lib.hid (texts_any x.pa x.np x.pc x.p y.pa y.np y.pc y.p _ (h.later hb) (h'.later hb))
  have HB := Lib.hid hb
  obtain ⟨r, hr⟩ : ∃ r, r = holds (SameF x y) := ⟨_, rfl⟩
  rw [← hr]
  unfold SameF at hr
  generalize SameTexts x.np y.np x.p y.p = st at *
  obtain ⟨i1, h1, a1, n1, p1, q1⟩ := x
  obtain ⟨i2, h2, a2, n2, p2, q2⟩ := y
  simp only at hr T HB ⊢
  clear h h' hb
  by_cases hi : i1 = i2
  · subst hi
    have z : (i1.toList == i1.toList) = true := by simp
    by_cases hh : h1 = h2
    · subst hh
      have e : r = holds st := by
        rw [hr]
        by_cases hs : st
        · rw [holds_true hs, holds_true ⟨rfl, rfl, hs⟩]
        · rw [holds_false hs, holds_false fun h => hs h.2.2]
      subst e
      generalize holds st = r at *
      clear hr
      go_enter Try.func14, Try.ntmps14
      go_wp2_with fail
      refine T.out.mono ?_
      rintro e w1 ⟨rfl, hb1⟩
      have hb2 := Lib.hid (HB.out.trans (hb1.mono HB.out.size))
      clear hb1
      go_wp2_with fail
      go_ret
      exact ⟨rfl, hb2.out⟩
    · have e : r = false := by rw [hr]; exact holds_false fun h => hh h.2.1
      subst e
      have z2 : (h1 == h2) = false := by simpa using hh
      clear hr hh
      go_enter Try.func14, Try.ntmps14
      go_wp2_with fail
      go_ret
      exact ⟨rfl, HB.out⟩
  · have e : r = false := by rw [hr]; exact holds_false fun h => hi h.1
    subst e
    have z := ne_list hi
    clear hr hi
    go_enter Try.func14, Try.ntmps14
    go_wp2_with fail
    go_ret
    exact ⟨rfl, HB.out⟩
def GreatF (n : Nat) (f : Nat → Fv) : Prop := 60 < n ∨ ∃ i, i < n ∧ 20 < (f i).np
theorem great_any (ao : Option Addr) (n c : Nat) (f : Nat → Fv) (w : World) (h : FactsAt w ao n f) :
    Calls Try.prog 9 #[.slice ao n c] w fun e w' => e = .returned (.bool (holds (GreatF n f))) ∧ w = w' := by
  obtain ⟨r, hr⟩ : ∃ r, r = holds (GreatF n f) := ⟨_, rfl⟩
  rw [← hr]
  have HR := Lib.hid hr
  obtain ⟨hm, hc, hp⟩ := h
  have Hc := Lib.hid hc
  have Hp := Lib.hid (fun i hi => (hp i hi).1)
  clear hc hp hr
  by_cases hg : 60 < n
  · have hg' : (60 : Int) < n := by omega
    have HG := Lib.hid hg
    clear hg
    go_enter Try.func9, Try.ntmps9
    go_wp2_with fail
    go_ret
    exact ⟨by rw [HR.out, holds_true (p := GreatF n f) (Or.inl HG.out)]; rfl, rfl⟩
  have hg' : decide ((60 : Int) < n) = false := by simp; omega
  have HG := Lib.hid hg
  clear hg
  go_enter Try.func9, Try.ntmps9
  go_wp2_with fail
  go_loopw [3] (fun i wr => ∃ k : Nat, i = .int .i64 (k : Int) ∧ k ≤ n ∧ Hid (∀ j, j < k → ¬ 20 < (f j).np) ∧ wr = w) (fun i _ => ((n : Int) - intOf i).toNat)
  case atStart => exact ⟨0, rfl, by omega, Lib.hid (fun j hj => by omega), rfl⟩
  case round =>
    obtain ⟨k, rfl, hk, hb, rfl⟩ := hrel
    rcases Nat.lt_or_ge k n with hk1 | hk1
    · obtain ⟨b, off, rfl, hlt, hcell⟩ := Hc.out (by omega)
      have c0 := (hcell k hk1).2.2
      have ki : (k : Int) < n := by omega
      have hp1 := Hp.out k hk1
      obtain ⟨y, hy⟩ : ∃ y, y = f k := ⟨_, rfl⟩
      rw [← hy] at c0 hp1
      have HY := Lib.hid hy
      clear hcell hy
      by_cases he : 20 < y.np
      · have he' : (20 : Int) < y.np := by omega
        have HE := Lib.hid he
        clear he
        go_wp2_with fail
        go_ret
        exact ⟨by rw [HR.out, holds_true (p := GreatF n f) (Or.inr ⟨k, hk1, by rw [← HY.out]; exact HE.out⟩)]; rfl, rfl⟩
      · have he' : decide ((20 : Int) < y.np) = false := by simp; omega
        have HE := Lib.hid he
        clear he
        go_wp2_with fail
        refine ⟨⟨k + 1, rfl, hk1, Lib.hid fun j hj => ?_, trivial⟩, ?_⟩
        · rcases Nat.lt_or_ge j k with h1 | h1
          · exact hb.out j h1
          · obtain rfl : j = k := by omega
            rw [← HY.out]; exact HE.out
        · simp [intOf]
          omega
    · have ki : (n : Int) ≤ (k : Int) := by omega
      go_wp2_with fail
      go_ret
      refine ⟨?_, rfl⟩
      rw [HR.out, holds_false]
      · rfl
      · rintro (h | ⟨i, hi, h⟩)
        · exact HG.out h
        · exact hb.out i (by omega) h
def HighF (n : Nat) (f : Nat → Fv) : Prop := ∀ i, i < n → (f i).h ≠ 9223372036854775807
theorem heights_any (ao : Option Addr) (n c : Nat) (f : Nat → Fv) (w : World) (h : FactsAt w ao n f) :
    Calls Try.prog 15 #[.slice ao n c] w fun e w' => e = .returned (.bool (holds (HighF n f))) ∧ w = w' := by
  obtain ⟨r, hr⟩ : ∃ r, r = holds (HighF n f) := ⟨_, rfl⟩
  rw [← hr]
  have HR := Lib.hid hr
  obtain ⟨hm, hc, hp⟩ := h
  have Hc := Lib.hid hc
  clear hc hp hr
  go_enter Try.func15, Try.ntmps15
  go_wp2_with fail
  go_loopw [3] (fun i wr => ∃ k : Nat, i = .int .i64 (k : Int) ∧ k ≤ n ∧ Hid (∀ j, j < k → (f j).h ≠ 9223372036854775807) ∧ wr = w) (fun i _ => ((n : Int) - intOf i).toNat)
  case atStart => exact ⟨0, rfl, by omega, Lib.hid (fun j hj => by omega), rfl⟩
  case round =>
    obtain ⟨k, rfl, hk, hb, rfl⟩ := hrel
    rcases Nat.lt_or_ge k n with hk1 | hk1
    · obtain ⟨b, off, rfl, hlt, hcell⟩ := Hc.out (by omega)
      have c0 := (hcell k hk1).2.1
      have ki : (k : Int) < n := by omega
      obtain ⟨y, hy⟩ : ∃ y, y = (f k).h := ⟨_, rfl⟩
      rw [← hy] at c0
      have HY := Lib.hid hy
      clear hcell hy
      by_cases he : y = 9223372036854775807
      · subst he
        go_wp2_with fail
        go_ret
        exact ⟨by rw [HR.out, holds_false fun h => h k hk1 HY.out.symm]; rfl, rfl⟩
      · have he' : (y == 9223372036854775807) = false := by simpa using he
        have HE := Lib.hid he
        clear he
        go_wp2_with fail
        refine ⟨⟨k + 1, rfl, hk1, Lib.hid fun j hj => ?_, trivial⟩, ?_⟩
        · rcases Nat.lt_or_ge j k with h1 | h1
          · exact hb.out j h1
          · obtain rfl : j = k := by omega
            rw [← HY.out]; exact HE.out
        · simp [intOf]
          omega
    · have ki : (n : Int) ≤ (k : Int) := by omega
      go_wp2_with fail
      go_ret
      refine ⟨?_, rfl⟩
      rw [HR.out, holds_true]
      · rfl
      · exact fun i hi => hb.out i (by omega)
end Go.Proofs.Ythcgdpdijdmelaa.Ord
