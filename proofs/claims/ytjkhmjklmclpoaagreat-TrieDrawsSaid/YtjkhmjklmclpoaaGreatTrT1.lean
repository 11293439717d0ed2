/- The reference's list and check, walked: in, Check. Conditions: at most 1,000,000 ids. (Layer 10.) -/
import Derived.Test.YtjkhmjklmclpoaaGreatTrR4
namespace Go.Proofs.YtjkhmjklmclpoaaGreat.Tr
set_option linter.unusedVariables false
set_option linter.unusedSimpArgs false
open Go.RowKit Go.Lib
open Set (StrAt scells El Rise)
set_option maxRecDepth 100000 in
set_option maxHeartbeats 1000000 in
theorem rin_any (v : Value) (l : List ByteArray) (x : ByteArray) (w : World) (h : StrAt w v l) (hn : l.length ≤ 1000000) :
    Calls Tryz.prog 46 #[v, .string x] w fun e w' => e = .returned (.bool (Set.has l x)) ∧ w = w' := by
  have HS := Lib.hid h
  obtain ⟨ao, cap, rfl, h1, h2, -⟩ := h
  obtain ⟨n, hln⟩ : ∃ n, n = l.length := ⟨_, rfl⟩
  rw [← hln] at HS hn h1 ⊢
  have HL := Lib.hid hln
  clear hln
  go_enter Tryz.func46, Tryz.ntmps46
  go_wp2_with fail
  go_loopw [5] (fun c wr => ∃ k : Nat, c = .int .i64 (k : Int) ∧ k ≤ n ∧ wr = w ∧ Hid (∀ j, j < k → l[j]! ≠ x)) (fun c _ => ((n : Int) - intOf c).toNat)
  case atStart => exact ⟨0, rfl, by omega, rfl, Lib.hid fun j hj => by omega⟩
  case round =>
    obtain ⟨k, rfl, hk, rfl, HK⟩ := hrel
    rcases Nat.lt_or_ge k n with h3 | h3
    · have k1 : (k : Int) < n := by omega
      have kw : IntKind.i64.wrap ((k : Int) + 1) = ((k + 1 : Nat) : Int) := IntWalk.i64_in _ (by omega)
      obtain ⟨b, off, hao, hlt, hc⟩ := strAt_at HS.out (by omega)
      subst hao
      have c0 := hc k h3
      obtain ⟨y, hy⟩ : ∃ y, y = l[k]! := ⟨_, rfl⟩
      rw [← hy] at c0
      have HY := Lib.hid hy
      clear hc hy
      by_cases he : y = x
      · have z : (y.toList == x.toList) = true := by rw [he]; simp
        have HE := Lib.hid he
        clear he
        go_wp2_with fail
        go_ret
        refine ⟨?_, rfl⟩
        have h4 : k < l.length := by rw [← HL.out]; exact h3
        rw [Set.has_true (l := l) (x := x)]
        · rfl
        rw [← HE.out, HY.out, getElem!_pos l k h4]
        exact List.getElem_mem h4
      · have z := ne_list he
        have HE := Lib.hid he
        clear he
        go_wp2_with fail
        refine ⟨⟨k + 1, by simp, by omega, by simp, Lib.hid fun j hj => ?_⟩, ?_⟩
        · rcases Nat.lt_or_ge j k with h5 | h5
          · exact HK.out j h5
          · obtain rfl : j = k := by omega
            rw [← HY.out]; exact HE.out
        · simp [intOf]
          omega
    · have k1 : decide ((k : Int) < n) = false := decide_eq_false (by omega)
      have k2 : ¬ ((k : Int) < n) := by omega
      obtain rfl : k = n := by omega
      go_wp2_with fail
      go_ret
      refine ⟨?_, rfl⟩
      rw [Set.has_false (l := l) (x := x)]
      · rfl
      intro hx
      obtain ⟨i, hi, he⟩ := List.getElem_of_mem hx
      refine HK.out i (by rw [HL.out]; exact hi) ?_
      rw [getElem!_pos l i hi]
      exact he
/-- A digit and texts of 32 bytes behind it: the text, its digest. -/
theorem joint (b : UInt8) {l : List ByteArray} (hs : ∀ x, x ∈ l → x.size = 32) (hn : l.length ≤ 100) :
    ∃ C E : ByteArray, C = ⟨(catL l).toArray⟩ ∧ (⟨#[b]⟩ : ByteArray) ++ C = E ∧ ¬ (9223372036854775807 < (⟨#[b]⟩ : ByteArray).size + C.size) ∧ ¬ (9223372036854775807 < 1 + C.size) ∧ C.size ≤ 1000000000 ∧
      ∀ w, Calls Tryz.prog 42 #[.string E] w fun e w' => e = .returned (.string ⟨(Sha.sum (b :: catL l)).toArray⟩) ∧ Below w.heap.size w w' := by
  have e : (⟨(catL l).toArray⟩ : ByteArray).size = (catL l).length := by simp [ByteArray.size]
  have h1 : (⟨#[b]⟩ : ByteArray).size = 1 := rfl
  have h2 := catL_length hs
  refine ⟨_, _, rfl, rfl, by rw [e, h1]; omega, by rw [e]; omega, by rw [e]; omega, fun w => ?_⟩
  have hEl : ((⟨#[b]⟩ : ByteArray) ++ ⟨(catL l).toArray⟩).data.toList = b :: catL l := by simp
  have S := Sha.refsum_any ((⟨#[b]⟩ : ByteArray) ++ ⟨(catL l).toArray⟩) w (by rw [ByteArray.size_append, e, h1]; omega)
  rw [hEl] at S
  exact S
end Go.Proofs.YtjkhmjklmclpoaaGreat.Tr
