/- What sha.Sum computes, and what the law's own 'awake' answers. -/
import Derived.Test.YtmdchfmcghiaeaaSha4
namespace Go.Proofs.Ytmdchfmcghiaeaa.Sha
open Go.RowKit
theorem sum_any (s : ByteArray) (w : World) (hs : s.size ≤ 140737488355328) : Calls Try.prog 14 #[.string s] w fun e w' => e = .returned (.string ⟨(sum s.data.toList).toArray⟩) ∧ Below w.heap.size w w' := by
  have hsz : s.data.toList.length = s.size := rfl
  have Hsz := Lib.hid hsz; clear hsz
  go_enter Try.func14, Try.ntmps14
  go_wp2_with fail
  refine (new_any _).mono ?_
  rintro e w1 ⟨g, rfl, hg, hblk, hb1⟩
  go_wp2_with fail
  refine (add_any g w.heap.size s H0 (.slice none 0 0) [] 0 w1 H0_isW hblk (SlIs.nil_ _ _ _ _) hg (by omega) (by omega) (by simpa using hs)).mono ?_
  rintro e w2 ⟨rfl, v, hblk2, hsl2, hb2⟩
  have hl1 : (absorb s.size H0 s.data.toList).2.length ≤ 1000 := by
    have := absorb_rest s.size H0 s.data.toList (by rw [Hsz.out]; omega); omega
  have hw1 := absorb_isW s.size H0 s.data.toList H0_isW
  simp only [List.length_nil, Nat.zero_add, List.nil_append, Int.zero_add] at hblk2 hsl2
  have hfin : sum s.data.toList = finish (absorb s.size H0 s.data.toList).1 (absorb s.size H0 s.data.toList).2 s.size := rfl
  generalize absorb s.size H0 s.data.toList = r at *
  have H := Lib.hid (And.intro hblk2 (And.intro hsl2 (And.intro hfin (hb1.trans hb2))))
  clear hblk2 hsl2 hfin hb1 hb2 hblk
  go_wp2_with fail
  refine (end_any g w.heap.size r.1 v r.2 s.size w2 hw1 H.out.1 H.out.2.1 (by omega) hl1).mono ?_
  rintro e w3 ⟨rfl, hb3⟩
  go_wp2_with fail
  go_ret
  exact ⟨by rw [H.out.2.2.1]; rfl, H.out.2.2.2.trans (hb3.mono H.out.2.2.2.size)⟩

theorem sum_nil : sum [] = [227, 176, 196, 66, 152, 252, 28, 20, 154, 251, 244, 200, 153, 111, 185, 36, 39, 174, 65, 228, 100, 155, 147, 76, 164, 149, 153, 27, 120, 82, 184, 85] := by decide +kernel
theorem sum_abc : sum [97, 98, 99] = [186, 120, 22, 191, 143, 1, 207, 234, 65, 65, 64, 222, 93, 174, 34, 35, 176, 3, 97, 163, 150, 23, 122, 156, 180, 16, 255, 97, 242, 0, 21, 173] := by decide +kernel
theorem awake_core (S1 S2 : ByteArray) (w : World) (h1 : ∀ w : World, Calls Try.prog 14 #[.string ⟨#[]⟩] w fun e w' => e = .returned (.string S1) ∧ Below w.heap.size w w')
    (h2 : ∀ w : World, Calls Try.prog 14 #[.string ⟨#[97, 98, 99]⟩] w fun e w' => e = .returned (.string S2) ∧ Below w.heap.size w w')
    (a1 : ((S1.size : Int) == 32) = true) (a2 : ((S2.size : Int) == 32) = true)
    (b1 : (30 : Int) ≤ (S1.size : Int)) (b2 : (30 : Int) ≤ (S2.size : Int)) (c1 : ((S1.extract 0 4).toList == [227, 176, 196, 66]) = true) (c2 : ((S2.extract 0 4).toList == [186, 120, 22, 191]) = true) (c3 : ((S2.extract 30 S2.size).toList == [21, 173]) = true) :
    Calls Try.prog 13 #[] w fun e w' => e = .returned (.bool true) ∧ Below w.heap.size w w' := by
  have H1 := Lib.hid h1; clear h1
  have H2 := Lib.hid h2; clear h2
  go_enter Try.func13, Try.ntmps13
  go_wp2_with fail
  refine (H1.out _).mono ?_
  rintro e w1 ⟨rfl, hb1⟩
  go_wp2_with fail
  refine (H2.out _).mono ?_
  rintro e w2 ⟨rfl, hb2⟩
  have hbe := hb1.trans (hb2.mono hb1.size)
  clear hb1 hb2
  go_wp2_with fail
  go_ret
  exact ⟨rfl, hbe⟩
/-- What is 32 bytes long. -/
theorem sum_size (l : List UInt8) : (ByteArray.mk (sum l).toArray).size = 32 := by
  show (sum l).toArray.size = 32
  rw [List.size_toArray]
  unfold sum finish
  rw [out_length]; rfl
theorem awake_any (w : World) : Calls Try.prog 13 #[] w fun e w' => e = .returned (.bool true) ∧ Below w.heap.size w w' := by
  obtain ⟨S1, h1⟩ : ∃ S1 : ByteArray, S1 = ⟨(sum []).toArray⟩ := ⟨_, rfl⟩
  obtain ⟨S2, h2⟩ : ∃ S2 : ByteArray, S2 = ⟨(sum [97, 98, 99]).toArray⟩ := ⟨_, rfl⟩
  have s1 : S1.size = 32 := by rw [h1, sum_size]
  have s2 : S2.size = 32 := by rw [h2, sum_size]
  refine awake_core S1 S2 w (fun w => ?_) (fun w => ?_) (by rw [s1]; rfl) (by rw [s2]; rfl) (by omega) (by omega) (by rw [h1]; decide +kernel) (by rw [h2]; decide +kernel) (by rw [h2]; decide +kernel)
  · rw [h1]; exact sum_any ⟨#[]⟩ w (by decide)
  · rw [h2]; exact sum_any ⟨#[97, 98, 99]⟩ w (by decide)
end Go.Proofs.Ytmdchfmcghiaeaa.Sha
