/- What sha.Sum computes, and what the law's own 'awake' answers. -/
import Derived.Test.YtjkhmjklmclpoaaGreatSha4
namespace Go.Proofs.YtjkhmjklmclpoaaGreat.Sha
open Go.RowKit
theorem sum_any (s : ByteArray) (w : World) (hs : s.size ≤ 140737488355328) : Calls Tryz.prog 21 #[.string s] w fun e w' => e = .returned (.string ⟨(sum s.data.toList).toArray⟩) ∧ Below w.heap.size w w' := by
  have hsz : s.data.toList.length = s.size := rfl
  have Hsz := Lib.hid hsz; clear hsz
  go_enter Tryz.func21, Tryz.ntmps21
  go_wp2_with fail
  refine (new_any _).mono ?_
  rintro e w1 ⟨g, rfl, hg, hblk, hb1⟩
  go_wp2_with fail
  refine (add_any g w.heap.size s H0 (.slice none 0 0) [] 0 w1 H0_isW hblk (SlIs.nil_ _ _ _ _) hg (by omega) (by omega) (by simpa using hs)).mono ?_
  rintro e w2 ⟨rfl, v, hblk2, hsl2, hb2⟩
  have hl1 : (absorb s.size H0 s.data.toList).2.length ≤ 1000 := by
    have := absorb_rest s.size H0 s.data.toList (by rw [Hsz.out]; omega); omega
  have hw1 := absorb_isW s.size H0 s.data.toList H0_isW
  simp only [List.length_nil, Nat.zero_add, List.nil_append, Int.zero_add] at hblk2 hsl2
  have hfin : sum s.data.toList = finish (absorb s.size H0 s.data.toList).1 (absorb s.size H0 s.data.toList).2 s.size := rfl
  generalize absorb s.size H0 s.data.toList = r at *
  have H := Lib.hid (And.intro hblk2 (And.intro hsl2 (And.intro hfin (hb1.trans hb2))))
  clear hblk2 hsl2 hfin hb1 hb2 hblk
  go_wp2_with fail
  refine (end_any g w.heap.size r.1 v r.2 s.size w2 hw1 H.out.1 H.out.2.1 (by omega) hl1).mono ?_
  rintro e w3 ⟨rfl, hb3⟩
  go_wp2_with fail
  go_ret
  exact ⟨by rw [H.out.2.2.1]; rfl, H.out.2.2.2.trans (hb3.mono H.out.2.2.2.size)⟩

theorem sum_nil : sum [] = [227, 176, 196, 66, 152, 252, 28, 20, 154, 251, 244, 200, 153, 111, 185, 36, 39, 174, 65, 228, 100, 155, 147, 76, 164, 149, 153, 27, 120, 82, 184, 85] := by decide +kernel
theorem sum_abc : sum [97, 98, 99] = [186, 120, 22, 191, 143, 1, 207, 234, 65, 65, 64, 222, 93, 174, 34, 35, 176, 3, 97, 163, 150, 23, 122, 156, 180, 16, 255, 97, 242, 0, 21, 173] := by decide +kernel
/-- What is 32 bytes long. -/
theorem sum_size (l : List UInt8) : (ByteArray.mk (sum l).toArray).size = 32 := by
  show (sum l).toArray.size = 32
  rw [List.size_toArray]
  unfold sum finish
  rw [out_length]; rfl
end Go.Proofs.YtjkhmjklmclpoaaGreat.Sha
