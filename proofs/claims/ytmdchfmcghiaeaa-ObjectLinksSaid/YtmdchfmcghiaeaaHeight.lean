/- Heights: slices.Max of ints, the program and the reference; awake of layer 6; the law ObjectHeights walked. No conditions but the slice of ints as it came in. -/
import Derived.Test.YtmdchfmcghiaeaaObj2
import Derived.Test.YtmdchfmcghiaeaaInts
namespace Go.Proofs.Ytmdchfmcghiaeaa.Obj
open Go.RowKit
/-- The greatest of the first k + 1 numbers of a row. -/
def most (f : Nat → Int) : Nat → Int
  | 0 => f 0
  | k + 1 => if most f k < f (k + 1) then f (k + 1) else most f k
theorem most_wf (f : Nat → Int) (n : Nat) (h : ∀ i, i < n → -9223372036854775808 ≤ f i ∧ f i ≤ 9223372036854775807) : ∀ k, k < n → -9223372036854775808 ≤ most f k ∧ most f k ≤ 9223372036854775807
  | 0, hk => h 0 hk
  | k + 1, hk => by
    have := most_wf f n h k (by omega)
    have := h (k + 1) hk
    unfold most
    split <;> omega
theorem most_one (f : Nat → Int) : ∀ k, ∃ i, i ≤ k ∧ most f k = f i
  | 0 => ⟨0, Nat.le_refl _, rfl⟩
  | k + 1 => by
    obtain ⟨i, hi, h⟩ := most_one f k
    unfold most
    split
    · exact ⟨k + 1, Nat.le_refl _, rfl⟩
    · exact ⟨i, by omega, h⟩
theorem most_le (f : Nat → Int) : ∀ k i, i ≤ k → f i ≤ most f k
  | 0, i, hi => by obtain rfl : i = 0 := by omega
                   exact Int.le_refl _
  | k + 1, i, hi => by
    unfold most
    rcases Nat.lt_or_ge k i with h | h
    · obtain rfl : i = k + 1 := by omega
      split <;> omega
    · have := most_le f k i h
      split <;> omega
theorem max_int (ao : Option Addr) (n cap : Nat) (f : Nat → Int) (w : World) (h : IntRow w ao n f) (hn : 0 < n) :
    Calls Try.prog 54 #[.slice ao n cap] w fun e w' => e = .returned (.int .i64 (most f (n - 1))) ∧ w = w' := by
  obtain ⟨hw, hm, hc⟩ := h
  obtain ⟨b, off, rfl, hb, hcell⟩ := hc hn
  have Hc := Lib.hid hcell
  have c0 : w.cell? ⟨b, off, none⟩ = some (.int .i64 (f 0)) := hcell 0 hn
  have n1 : (1 : Int) ≤ n := by omega
  clear hw hcell hc
  go_enter Try.func54, Try.ntmps54
  go_wp2_with fail
  clear c0
  go_loopw [3, 4] (fun m i wr => ∃ k : Nat, i = .int .i64 ((k : Int) + 1) ∧ m = .int .i64 (most f k) ∧ k < n ∧ wr = w) (fun _ i _ => ((n : Int) - intOf i).toNat)
  case atStart => exact ⟨0, rfl, rfl, hn, rfl⟩
  case round =>
    obtain ⟨k, rfl, rfl, hk, rfl⟩ := hrel
    rcases Nat.lt_or_ge (k + 1) n with hk1 | hk1
    · have ck : wr.cell? ⟨b, off + (k + 1), none⟩ = some (.int .i64 (f (k + 1))) := Hc.out (k + 1) hk1
      have ki : (k : Int) + 1 < n := by omega
      go_wp2_with fail
      refine ⟨⟨k + 1, rfl, rfl, hk1, trivial⟩, ?_⟩
      simp [intOf]
      omega
    · have ki : (n : Int) ≤ (k : Int) + 1 := by omega
      go_wp2_with fail
      go_ret
      exact ⟨by rw [show n - 1 = k by omega]; rfl, rfl⟩
theorem height (ao : Option Addr) (n cap : Nat) (f : Nat → Int) (w : World) (h : IntRow w ao n f) :
    Calls Try.prog 25 #[.slice ao n cap] w fun e w' => e = .returned (.int .i64 (if n = 0 then 0 else wrap64 (most f (n - 1) + 1))) ∧ w = w' := by
  rcases Nat.eq_zero_or_pos n with rfl | hn
  · go_enter Try.func25, Try.ntmps25
    go_wp2_with fail
    go_ret
    exact ⟨rfl, rfl⟩
  · have hM := max_int ao n cap f w h hn
    have n1 : (1 : Int) ≤ n := by omega
    rw [if_neg (by omega)]
    generalize most f (n - 1) = M at *
    go_enter Try.func25, Try.ntmps25
    go_wp2_with fail
    refine hM.mono ?_
    rintro e w1 ⟨rfl, rfl⟩
    go_wp2_with fail
    go_ret
    exact ⟨rfl, rfl⟩
theorem ref_height (ao : Option Addr) (n cap : Nat) (f : Nat → Int) (w : World) (h : IntRow w ao n f) :
    Calls Try.prog 26 #[.slice ao n cap] w fun e w' => e = .returned (.int .i64 (if n = 0 then 0 else wrap64 (most f (n - 1) + 1))) ∧ w = w' := by
  rcases Nat.eq_zero_or_pos n with rfl | hn
  · go_enter Try.func26, Try.ntmps26
    go_wp2_with fail
    go_ret
    exact ⟨rfl, rfl⟩
  · obtain ⟨hw, hm, hc⟩ := h
    obtain ⟨b, off, rfl, hb, hcell⟩ := hc hn
    have Hc := Lib.hid hcell
    have c0 : w.cell? ⟨b, off, none⟩ = some (.int .i64 (f 0)) := hcell 0 hn
    have n1 : (1 : Int) ≤ n := by omega
    rw [if_neg (by omega)]
    clear hw hcell hc
    go_enter Try.func26, Try.ntmps26
    go_wp2_with fail
    clear c0
    go_loopw [3, 4] (fun m i wr => ∃ k : Nat, i = .int .i64 ((k : Int) + 1) ∧ m = .int .i64 (most f k) ∧ k < n ∧ wr = w) (fun _ i _ => ((n : Int) - intOf i).toNat)
    case atStart => exact ⟨0, rfl, rfl, hn, rfl⟩
    case round =>
      obtain ⟨k, rfl, rfl, hk, rfl⟩ := hrel
      rcases Nat.lt_or_ge (k + 1) n with hk1 | hk1
      · have ck : wr.cell? ⟨b, off + (k + 1), none⟩ = some (.int .i64 (f (k + 1))) := Hc.out (k + 1) hk1
        have ki : (k : Int) + 1 < n := by omega
        by_cases hlt : most f k < f (k + 1)
        · go_wp2_with fail
          refine ⟨⟨k + 1, rfl, by rw [most, if_pos hlt], hk1, trivial⟩, ?_⟩
          simp [intOf]
          omega
        · have hle : f (k + 1) ≤ most f k := by omega
          go_wp2_with fail
          refine ⟨⟨k + 1, rfl, by rw [most, if_neg hlt], hk1, trivial⟩, ?_⟩
          simp [intOf]
          omega
      · have ki : (n : Int) ≤ (k : Int) + 1 := by omega
        go_wp2_with fail
        go_ret
        exact ⟨by rw [show n - 1 = k by omega]; rfl, rfl⟩
theorem id_any (s : ByteArray) (w : World) (hs : s.size ≤ 140737488355328) : Calls Try.prog 23 #[.string s] w fun e w' => e = .returned (.string ⟨(Sha.sum s.data.toList).toArray⟩) ∧ Below w.heap.size w w' := by
  have H := Lib.hid (Sha.sum_any s w hs)
  go_enter Try.func23, Try.ntmps23
  go_wp2_with fail
  refine H.out.mono ?_
  rintro e w1 ⟨rfl, hb1⟩
  go_wp2_with fail
  go_ret
  exact ⟨rfl, hb1⟩
theorem height_25 (w : World) : Calls Try.prog 25 #[.slice (some ⟨w.heap.size, 0, none⟩) 2 2] (w.alloc (.cells #[.int .i64 2, .int .i64 5] 3)) fun e w' => e = .returned (.int .i64 6) ∧ (w.alloc (.cells #[.int .i64 2, .int .i64 5] 3)) = w' := by
  have hb := BlkIs.new w 3 #[.int .i64 2, .int .i64 5]
  have e6 : (if (2 : Nat) = 0 then (0 : Int) else wrap64 (most (fun i => if i = 0 then 2 else 5) (2 - 1) + 1)) = 6 := by decide +kernel
  have H := height (some ⟨w.heap.size, 0, none⟩) 2 2 (fun i => if i = 0 then 2 else 5) (w.alloc (.cells #[.int .i64 2, .int .i64 5] 3))
  rw [e6] at H
  refine H ⟨fun i _ => by dsimp only; split <;> decide, by decide, fun _ => ⟨_, 0, rfl, hb.lt, fun i hi => ?_⟩⟩
  rw [hb.cell]
  match i, hi with
  | 0, _ => rfl
  | 1, _ => rfl
set_option maxRecDepth 100000 in
theorem awake (w : World) : Calls Try.prog 19 #[] w fun e w' => e = .returned (.bool true) ∧ Below w.heap.size w w' := by
  have E1 := fun w1 => encode_blob ⟨#[104, 105]⟩ (.slice none 0 0) ⟨#[]⟩ (.slice none 0 0) 0 ⟨#[]⟩ w1 (by decide)
  obtain ⟨a, ha⟩ : ∃ a : ByteArray, a = ⟨(1 :: (⟨#[104, 105]⟩ : ByteArray).data.toList).toArray⟩ := ⟨_, rfl⟩
  rw [← ha] at E1
  have E2 := fun w1 => encode_none ⟨#[]⟩ ⟨#[]⟩ (.slice none 0 0) 0 ⟨#[]⟩ w1
  have E3 := fun w1 => decode_blob ⟨#[1, 104, 105]⟩ ⟨#[104, 105]⟩ w1 (by decide) (by decide) (by decide +kernel) (by decide) (by decide) (by decide)
  have E4 := fun w1 => encode_bad 0 ⟨#[]⟩ (.slice none 0 0) ⟨#[]⟩ (.slice none 0 0) 0 ⟨#[]⟩ w1 (fun w2 _ => good_odd 0 ⟨#[]⟩ (.slice none 0 0) ⟨#[]⟩ (.slice none 0 0) 0 ⟨#[]⟩ w2 (by decide) (by decide) (by decide))
  have G := fun w1 => good_blob ⟨#[104, 105]⟩ (.slice none 0 0) ⟨#[]⟩ (.slice none 0 0) 0 ⟨#[]⟩ w1
  rw [show decide (((⟨#[104, 105]⟩ : ByteArray).size : Int) ≤ 65536) = true from by decide] at G
  have I := fun w1 => id_any a w1 (by rw [ha]; decide)
  obtain ⟨S, hS⟩ : ∃ S : ByteArray, S = ⟨(Sha.sum a.data.toList).toArray⟩ := ⟨_, rfl⟩
  rw [← hS] at I
  have s32 : ((S.size : Int) == 32) = true := by rw [hS, Sha.sum_size]; rfl
  have ea : (a.toList == [1, 104, 105]) = true := by rw [ha]; decide +kernel
  have I := Lib.hid I
  clear hS ha
  unfold obj at E1 E2 E3 E4 G
  have E1 := Lib.hid E1; have E2 := Lib.hid E2; have E3 := Lib.hid E3; have E4 := Lib.hid E4; have G := Lib.hid G
  go_enter Try.func19, Try.ntmps19
  go_wp2_with fail
  refine (E1.out _).mono ?_
  rintro e w1 ⟨rfl, hb1⟩
  go_wp2_with fail
  refine (E2.out _).mono ?_
  rintro e w2 ⟨rfl, hb2⟩
  have hb := hb1.trans (hb2.mono hb1.size)
  clear hb1 hb2
  go_wp2_with fail
  refine (E3.out _).mono ?_
  rintro e w3 ⟨rfl, hb3⟩
  have hb := hb.trans (hb3.mono hb.size)
  clear hb3
  go_wp2_with fail
  refine (E4.out _).mono ?_
  rintro e w4 ⟨rfl, hb4⟩
  have hblk := (BlkIs.new w3 34 #[.int .i64 1, .string ⟨#[104, 105]⟩, .slice none 0 0, .string ⟨#[]⟩, .slice none 0 0, .int .i64 0, .string ⟨#[]⟩]).below hb4 (by simp)
  have c0 : w4.cell? ⟨w3.heap.size, 0, none⟩ = some (.int .i64 1) := hblk.cell 0
  have c1 : w4.cell? ⟨w3.heap.size, 1, none⟩ = some (.string ⟨#[104, 105]⟩) := hblk.cell 1
  have hbz := hb.size
  have hb' := (hb.alloc hbz _).trans (hb4.mono (by simp; omega))
  have H := Lib.hid (And.intro hblk hb')
  clear hb4 hb' hblk hb
  go_wp2_with fail
  refine (I.out _).mono ?_
  rintro e w5 ⟨rfl, hb5⟩
  have hblk := H.out.1.below hb5 H.out.1.lt
  have d0 : w5.cell? ⟨w3.heap.size, 0, none⟩ = some (.int .i64 1) := hblk.cell 0
  have d1 : w5.cell? ⟨w3.heap.size, 1, none⟩ = some (.string ⟨#[104, 105]⟩) := hblk.cell 1
  have d2 : w5.cell? ⟨w3.heap.size, 2, none⟩ = some (.slice none 0 0) := hblk.cell 2
  have d3 : w5.cell? ⟨w3.heap.size, 3, none⟩ = some (.string ⟨#[]⟩) := hblk.cell 3
  have d4 : w5.cell? ⟨w3.heap.size, 4, none⟩ = some (.slice none 0 0) := hblk.cell 4
  have d5 : w5.cell? ⟨w3.heap.size, 5, none⟩ = some (.int .i64 0) := hblk.cell 5
  have d6 : w5.cell? ⟨w3.heap.size, 6, none⟩ = some (.string ⟨#[]⟩) := hblk.cell 6
  have hb := H.out.2.trans (hb5.mono H.out.2.size)
  clear hb5 hblk H c0 c1
  go_wp2_with fail
  refine (G.out _).mono ?_
  rintro e w6 ⟨rfl, hb6⟩
  have hb := hb.trans (hb6.mono hb.size)
  clear hb6 d0 d1 d2 d3 d4 d5 d6
  go_wp2_with fail
  refine (height_25 w6).mono ?_
  rintro e w7 ⟨rfl, rfl⟩
  have hb := hb.alloc hb.size (.cells #[.int .i64 2, .int .i64 5] 3)
  go_wp2_with fail
  go_ret
  exact ⟨rfl, hb⟩
set_option maxRecDepth 100000 in
theorem heights_law (ao : Option Addr) (n cap : Nat) (f : Nat → Int) (w : World) (h : IntRow w ao n f) :
    Calls Try.prog 7 #[.slice ao n cap] w fun e w' => e = .returned (.bool true) ∧ Below w.heap.size w w' := by
  have A := awake w
  go_enter Try.func7, Try.ntmps7
  go_wp2_with fail
  refine A.mono ?_
  rintro e w1 ⟨rfl, hb1⟩
  have h1 := h.later hb1
  obtain ⟨hw, hm, hc⟩ := id h1
  have H1 := Lib.hid h1
  have Hc := Lib.hid hc
  clear A h hc hw h1
  go_wp2_with fail
  go_loopw [3] (fun i wr => ∃ k : Nat, i = .int .i64 (k : Int) ∧ k ≤ n ∧ wr = w1) (fun i _ => ((n : Int) - intOf i).toNat)
  case atStart => exact ⟨0, rfl, by omega, rfl⟩
  case round =>
    obtain ⟨k, rfl, hk, rfl⟩ := hrel
    rcases Nat.lt_or_ge k n with hk1 | hk1
    · obtain ⟨b, off, rfl, hb, hcell⟩ := Hc.out (by omega)
      have ck : wr.cell? ⟨b, off + k, none⟩ = some (.int .i64 (f k)) := hcell k hk1
      have ki : (k : Int) < n := by omega
      clear hcell
      by_cases hx : f k = 9223372036854775807
      · rw [hx] at ck
        go_wp2_with fail
        go_ret
        exact ⟨rfl, hb1⟩
      · have hx' : (f k == 9223372036854775807) = false := by simpa using hx
        clear hx
        go_wp2_with fail
        refine ⟨⟨k + 1, rfl, hk1, trivial⟩, ?_⟩
        simp [intOf]
        omega
    · have ki : (n : Int) ≤ (k : Int) := by omega
      have A1 := height ao n cap f wr H1.out
      have A2 := ref_height ao n cap f wr H1.out
      generalize (if n = 0 then (0 : Int) else wrap64 (most f (n - 1) + 1)) = r at A1 A2
      clear H1 Hc hm
      go_wp2_with fail
      refine A1.mono ?_
      rintro e w2 ⟨rfl, rfl⟩
      go_wp2_with fail
      refine A2.mono ?_
      rintro e w3 ⟨rfl, rfl⟩
      go_wp2_with fail
      go_ret
      exact ⟨by simp, hb1⟩
end Go.Proofs.Ytmdchfmcghiaeaa.Obj
