/- object.Decode walked, all bytes. Condition: at most 2^18 bytes. -/
import Derived.Test.YtmdchfmcghiaeaaDecode1
import Derived.Test.YtmdchfmcghiaeaaDecode3
namespace Go.Proofs.Ytmdchfmcghiaeaa.Obj
open Go.RowKit
open Oct (Rd takeR textR val Moved)
theorem decode_0 (s : ByteArray) (w : World) (hs : s.size = 0) (hne : (s.toList == []) = true) :
    Calls Try.prog 20 #[.string s] w fun e w' => DecOut w' s e ∧ Below w.heap.size w w' := by
  have hd := dec_zero s hs
  clear hs
  go_enter Try.func20, Try.ntmps20
  go_wp2_with fail
  have A0 := BlkIs.new w 34 #[.int .i64 0, .string ⟨#[]⟩, .slice none 0 0, .string ⟨#[]⟩, .slice none 0 0, .int .i64 0, .string ⟨#[]⟩]
  refine dec_end2 s w _ w.heap.size #[.int .i64 0, .string ⟨#[]⟩, .slice none 0 0, .string ⟨#[]⟩, .slice none 0 0, .int .i64 0, .string ⟨#[]⟩] 4 _ (by kernel_rfl) (by kernel_rfl) rfl A0 ((Below.refl _ _).alloc (Nat.le_refl _) _) ?_
  exact decOut_none _ s hd
theorem decode_any (s : ByteArray) (w : World) (hsi : (s.size : Int) ≤ 262144) :
    Calls Try.prog 20 #[.string s] w fun e w' => DecOut w' s e ∧ Below w.heap.size w w' := by
  have he := Path.empty_iff s
  rcases Nat.eq_zero_or_pos s.size with h0 | h0
  · exact decode_0 s w h0 (by rw [he]; simp; omega)
  have hne : (s.toList == []) = false := by rw [he]; simp; omega
  by_cases h1 : (s[0]'h0).toNat = 1
  · exact decode_1 s _ w h0 h1 hne rfl hsi
  by_cases h2 : (s[0]'h0).toNat = 2
  · exact decode_2 s _ w h0 h2 hne rfl hsi
  by_cases h3 : (s[0]'h0).toNat = 3
  · exact decode_3 s _ w h0 h3 hne rfl hsi
  exact decode_odd s _ w h0 _ rfl (by omega) (by omega) (by omega) hne rfl hsi
end Go.Proofs.Ytmdchfmcghiaeaa.Obj
