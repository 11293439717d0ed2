/- The reference's Num and Text (octets), walked: the same bytes as the program's. Condition: the text's length is within the form's reach. -/
import Derived.Test.YtabgpleiobpeoaaOctet1
namespace Go.Proofs.Ytabgpleiobpeoaa.Oct
open Go.RowKit
set_option maxRecDepth 100000 in
theorem ref_num (n : Nat) (w : World) : Calls Try.prog 50 #[.int .u32 n] w fun e w' => e = .returned (.string ⟨(le32 n).toArray⟩) ∧ Below w.heap.size w w' := by
  have ht : (convert 37 9 (.slice (some ⟨w.heap.size, 0, none⟩) 4 4)).run Try.prog (w.alloc (.cells #[.int .u8 ((n : Int) % 256), .int .u8 ((n : Int) / 256 % 256), .int .u8 ((n : Int) / 65536 % 256), .int .u8 ((n : Int) / 16777216 % 256)] 5)) =
      .ok (.string ⟨(le32 n).toArray⟩) (w.alloc (.cells #[.int .u8 ((n : Int) % 256), .int .u8 ((n : Int) / 256 % 256), .int .u8 ((n : Int) / 65536 % 256), .int .u8 ((n : Int) / 16777216 % 256)] 5)) := by
    refine run_convert_bytes_back _ 37 9 5 ⟨w.heap.size, 0, none⟩ 4 (le32 n) Try.underlying37 Try.underlying5 Try.underlying9 fun j hj => ?_
    have e : (bcells (le32 n))[j]? = some (.int .u8 ((le32 n)[j]).toNat) := by rw [bcells, List.getElem?_map, List.getElem?_eq_getElem hj]; rfl
    rw [Addr.add_lit, (BlkIs.new w 5 _).cell, ← e, ← lecells]
    simp [lecell]
  have hb := Lib.hid ((Below.refl w.heap.size w).alloc (Nat.le_refl _) (.cells #[.int .u8 ((n : Int) % 256), .int .u8 ((n : Int) / 256 % 256), .int .u8 ((n : Int) / 65536 % 256), .int .u8 ((n : Int) / 16777216 % 256)] 5))
  go_enter Try.func50, Try.ntmps50
  go_wp2_with fail
  go_ret
  exact ⟨rfl, hb.out⟩
end Go.Proofs.Ytabgpleiobpeoaa.Oct
