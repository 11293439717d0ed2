/- The reference's Texts, walked: whether two lists of texts are the same. (Layer 12.) -/
import Derived.Test.YtljenganlknhbaaGreatMkSet
import Derived.Test.YtljenganlknhbaaGreatPkX
import Derived.Deep.QuietTactic
namespace Go.Proofs.YtljenganlknhbaaGreat.Mk
set_option linter.unusedVariables false
open Go.RowKit Set
theorem bytes_ne {a b : ByteArray} (h : a ≠ b) : (a.toList == b.toList) = false := by
  cases hq : (a.toList == b.toList)
  · rfl
  · exact absurd (bytes_eq.1 hq) h
set_option maxRecDepth 100000 in
set_option maxHeartbeats 2000000 in
theorem texts10_any (v v' : Value) (l m : List ByteArray) (w : World) (h : StrAt w v l) (h' : StrAt w v' m) (hn : l.length ≤ 1000000) (hm : m.length ≤ 1000000) : Calls Tryz.prog 65 #[v, v'] w fun e w' => e = .returned (.bool (eqB l m)) ∧ Below w.heap.size w w' := by
  obtain ⟨ao, cap, rfl, -, -, hc1⟩ := h
  obtain ⟨ao', cap', rfl, -, -, hc2⟩ := h'
  have HC := Lib.hid (And.intro hc1 hc2)
  obtain ⟨q, hq⟩ : ∃ q, q = eqB l m := ⟨_, rfl⟩
  rw [← hq]
  have HQ := Lib.hid hq
  obtain ⟨n, hnn⟩ : ∃ n, n = l.length := ⟨_, rfl⟩
  obtain ⟨n', hnn'⟩ : ∃ n, n = m.length := ⟨_, rfl⟩
  rw [← hnn] at hn ⊢
  rw [← hnn'] at hm ⊢
  have HL := Lib.hid (And.intro hnn hnn')
  clear hc1 hc2 hq hnn hnn'
  go_enter Tryz.func65, Tryz.ntmps65
  by_cases hd : n = n'
  case neg =>
    have e1 : ((n : Int) != n') = true := by simp; omega
    have e2 : (n == n') = false := by simp; omega
    have HD := Lib.hid hd
    clear hd
    go_wp2_with fail
    go_ret
    exact ⟨by rw [HQ.out, eqB_no fun e => HD.out (by rw [HL.out.1, HL.out.2, e])]; rfl, Below.refl _ _⟩
  subst hd
  have e1 : ((n : Int) != n) = false := by simp
  go_wp2_with fail
  go_loopw [5] (fun i wr => ∃ k : Nat, i = .int .i64 (k : Int) ∧ k ≤ n ∧ Hid (l.take k = m.take k) ∧ Hid (DrawsOf w wr)) (fun i _ => n - (intOf i).toNat)
  case atStart => exact ⟨0, rfl, Nat.zero_le _, Lib.hid (by simp), Lib.hid (DrawsOf.refl _)⟩
  case round =>
    obtain ⟨k, rfl, hkl, HM, HB⟩ := hrel
    rcases Nat.lt_or_ge k n with hlt | hge
    · have ki : (k : Int) < n := by omega
      have hk1 : k < l.length := by rw [← HL.out.1]; exact hlt
      have hk2 : k < m.length := by rw [← HL.out.2]; exact hlt
      obtain ⟨b, off, rfl, hb1, hc1⟩ := HC.out.1 (by omega)
      obtain ⟨b', off', rfl, hb2, hc2⟩ := HC.out.2 (by omega)
      obtain ⟨x, hx⟩ : ∃ x, x = l[k] := ⟨_, rfl⟩
      obtain ⟨y, hy⟩ : ∃ y, y = m[k] := ⟨_, rfl⟩
      have x0 : wr.cell? ⟨b, off + k, none⟩ = some (.string x) := by rw [HB.out.cell, hc1 k hk1, hx]
      have y0 : wr.cell? ⟨b', off' + k, none⟩ = some (.string y) := by rw [HB.out.cell, hc2 k hk2, hy]
      have HXY := Lib.hid (And.intro (show l.take (k + 1) = l.take k ++ [x] by rw [take_snoc' hk1, hx]) (And.intro (show m.take (k + 1) = m.take k ++ [y] by rw [take_snoc' hk2, hy]) (show x ≠ y → l ≠ m from fun hne e => hne (by rw [hx, hy]; subst e; rfl))))
      have kw : IntKind.i64.wrap ((k : Int) + 1) = ((k + 1 : Nat) : Int) := IntWalk.i64_in _ (by omega)
      clear hc1 hc2 hx hy hk1 hk2
      by_cases hxy : x = y
      · subst hxy
        have q0 : (x.toList == x.toList) = true := by simp
        go_wp2_with fail
        go_quiet (fail)
        go_wp2_with fail
        exact ⟨⟨k + 1, by simp, by omega, Lib.hid (by rw [HXY.out.1, HXY.out.2.1, HM.out]), Lib.hid (HB.out.drewN _)⟩, by simp [intOf]; omega⟩
      · have q0 : (x.toList == y.toList) = false := bytes_ne hxy
        have HXn := Lib.hid hxy
        clear hxy
        go_wp2_with fail
        go_quiet (fail)
        go_wp2_with fail
        go_ret
        exact ⟨by rw [HQ.out, eqB_no (HXY.out.2.2 HXn.out)]; rfl, (HB.out.drewN _).below _⟩
    · have ki : decide (k < n) = false := decide_eq_false (by omega)
      obtain rfl : n = k := by omega
      go_wp2_with fail
      go_ret
      have hm := HM.out
      rw [show l.take n = l by rw [HL.out.1, List.take_length], show m.take n = m by rw [HL.out.2, List.take_length]] at hm
      exact ⟨by rw [HQ.out, eqB_yes hm]; rfl, HB.out.below _⟩
end Go.Proofs.YtljenganlknhbaaGreat.Mk
