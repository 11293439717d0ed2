/- The law ObjectRises, walked. No conditions but the slice of ints as it came in. -/
import Derived.Test.YtmdchfmcghiaeaaHeight
namespace Go.Proofs.Ytmdchfmcghiaeaa.Obj
open Go.RowKit
set_option maxRecDepth 100000 in
theorem rises_law (ao : Option Addr) (n cap : Nat) (f : Nat → Int) (w : World) (h : IntRow w ao n f) :
    Calls Try.prog 10 #[.slice ao n cap] w fun e w' => e = .returned (.bool true) ∧ Below w.heap.size w w' := by
  have A := awake w
  go_enter Try.func10, Try.ntmps10
  go_wp2_with fail
  refine A.mono ?_
  rintro e w1 ⟨rfl, hb1⟩
  have h1 := h.later hb1
  obtain ⟨hw, hm, hc⟩ := id h1
  have Hc := Lib.hid hc
  have A1 := height ao n cap f w1 h1
  have hr : ∀ x : Int, (if n = 0 then (0 : Int) else wrap64 (most f (n - 1) + 1)) = x → (n = 0 ∧ x = 0) ∨ (0 < n ∧ x = wrap64 (most f (n - 1) + 1)) := by
    intro x hx
    rcases Nat.eq_zero_or_pos n with h0 | h0
    · rw [if_pos h0] at hx; exact Or.inl ⟨h0, hx.symm⟩
    · rw [if_neg (by omega)] at hx; exact Or.inr ⟨h0, hx.symm⟩
  generalize (if n = 0 then (0 : Int) else wrap64 (most f (n - 1) + 1)) = r at A1 hr
  have hr := hr r rfl
  clear A h hc hw h1
  go_wp2_with fail
  refine A1.mono ?_
  rintro e w2 ⟨rfl, rfl⟩
  clear A1
  rcases hr with ⟨rfl, rfl⟩ | ⟨hn, hr⟩
  · go_wp2_with fail
    go_ret
    exact ⟨rfl, hb1⟩
  have n1 : ((n : Int) == 0) = false := by simp; omega
  have Hr := Lib.hid hr
  have Hm := Lib.hid hm
  clear hr hm
  go_wp2_with fail
  have hm := Hm.out
  clear n1
  go_loopw [4, 5] (fun b i wr => ∃ (k : Nat) (y : Bool), i = .int .i64 (k : Int) ∧ b = .bool y ∧ k ≤ n ∧ (∀ j, j < k → 0 ≤ f j ∧ f j ≤ 1073741824) ∧ (y = true ↔ ∃ j, j < k ∧ r = f j + 1) ∧ wr = w1) (fun _ i _ => ((n : Int) - intOf i).toNat)
  case atStart => exact ⟨0, false, rfl, rfl, by omega, fun j hj => by omega, by simp, rfl⟩
  case round =>
    obtain ⟨k, y, rfl, rfl, hk, hall, hy, rfl⟩ := hrel
    have Hall := Lib.hid hall
    have Hy := Lib.hid hy
    clear hall hy
    rcases Nat.lt_or_ge k n with hk1 | hk1
    · obtain ⟨b, off, rfl, hb, hcell⟩ := Hc.out (by omega)
      have ck : wr.cell? ⟨b, off + k, none⟩ = some (.int .i64 (f k)) := hcell k hk1
      have ki : (k : Int) < n := by omega
      clear hcell
      by_cases hneg : f k < 0
      · go_wp2_with fail
        go_ret
        exact ⟨rfl, hb1⟩
      · have hpos : 0 ≤ f k := by omega
        by_cases hbig : 1073741824 < f k
        · clear hneg
          go_wp2_with fail
          go_ret
          exact ⟨rfl, hb1⟩
        · have hle : f k ≤ 1073741824 := by omega
          have hnext : ∀ j, j < k + 1 → 0 ≤ f j ∧ f j ≤ 1073741824 := fun j hj => by
            rcases Nat.lt_or_ge j k with h | h
            · exact Hall.out j h
            · obtain rfl : j = k := by omega
              exact ⟨hpos, hle⟩
          have hyn : ∀ z : Bool, (z = true ↔ (y = true ∨ r = f k + 1)) → (z = true ↔ ∃ j, j < k + 1 ∧ r = f j + 1) := fun z hz => by
            rw [hz, Hy.out]
            constructor
            · rintro (⟨j, hj, h⟩ | h)
              · exact ⟨j, by omega, h⟩
              · exact ⟨k, by omega, h⟩
            · rintro ⟨j, hj, h⟩
              rcases Nat.lt_or_ge j k with h' | h'
              · exact Or.inl ⟨j, h', h⟩
              · obtain rfl : j = k := by omega
                exact Or.inr h
          have Hn := Lib.hid (And.intro hnext hyn)
          clear hnext hyn hneg hbig
          cases y
          · go_wp2_with fail
            refine ⟨⟨k + 1, _, rfl, rfl, hk1, Hn.out.1, Hn.out.2 _ (by simp), trivial⟩, ?_⟩
            simp [intOf]
            omega
          · go_wp2_with fail
            refine ⟨⟨k + 1, true, rfl, rfl, hk1, Hn.out.1, Hn.out.2 _ (by simp), trivial⟩, ?_⟩
            simp [intOf]
            omega
    · have ki : (n : Int) ≤ (k : Int) := by omega
      go_wp2_with fail
      obtain rfl : k = n := by omega
      have hhi : ∀ j, j < k → f j < r := fun j hj => by
        have hr := Hr.out
        obtain ⟨i, hi, hmi⟩ := most_one f (k - 1)
        have h1 := most_le f (k - 1) j (by omega)
        have h2 := Hall.out i (by omega)
        rw [Go.IntWalk.wrap64_in _ (by omega)] at hr
        omega
      have hyt : y = true := Hy.out.2 (by
        have hr := Hr.out
        obtain ⟨i, hi, hmi⟩ := most_one f (k - 1)
        have h2 := Hall.out i (by omega)
        rw [Go.IntWalk.wrap64_in _ (by omega)] at hr
        exact ⟨i, by omega, by omega⟩)
      subst hyt
      have Hh := Lib.hid hhi
      clear hhi Hall Hy Hr
      go_loopw [6] (fun i wr' => ∃ m : Nat, i = .int .i64 (m : Int) ∧ m ≤ k ∧ wr' = wr) (fun i _ => ((k : Int) - intOf i).toNat)
      case atStart => exact ⟨0, rfl, by omega, rfl⟩
      case round =>
        obtain ⟨m, rfl, hmk, rfl⟩ := hrel
        rcases Nat.lt_or_ge m k with hk1 | hk1
        · obtain ⟨b, off, rfl, hb, hcell⟩ := Hc.out (by omega)
          have ck : wr.cell? ⟨b, off + m, none⟩ = some (.int .i64 (f m)) := hcell m hk1
          have mi : (m : Int) < k := by omega
          have hlt : f m < r := Hh.out m hk1
          clear hcell
          go_wp2_with fail
          refine ⟨⟨m + 1, rfl, hk1, trivial⟩, ?_⟩
          simp [intOf]
          omega
        · have mi : (k : Int) ≤ (m : Int) := by omega
          go_wp2_with fail
          go_ret
          exact ⟨rfl, hb1⟩
end Go.Proofs.Ytmdchfmcghiaeaa.Obj
