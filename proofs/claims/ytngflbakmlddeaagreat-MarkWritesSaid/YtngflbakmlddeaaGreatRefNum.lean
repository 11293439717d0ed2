/- The reference's Num and Text (octets), walked: the same bytes as the program's. Condition: the text's length is within the form's reach. -/
import Derived.Test.YtngflbakmlddeaaGreatOctet1
namespace Go.Proofs.YtngflbakmlddeaaGreat.Oct
open Go.RowKit
set_option maxRecDepth 100000 in
theorem ref_num (n : Nat) (w : World) : Calls Tryz.prog 87 #[.int .u32 n] w fun e w' => e = .returned (.string ⟨(le32 n).toArray⟩) ∧ Below w.heap.size w w' := by
  have ht : (convert 55 9 (.slice (some ⟨w.heap.size, 0, none⟩) 4 4)).run Tryz.prog (w.alloc (.cells #[.int .u8 ((n : Int) % 256), .int .u8 ((n : Int) / 256 % 256), .int .u8 ((n : Int) / 65536 % 256), .int .u8 ((n : Int) / 16777216 % 256)] 5)) =
      .ok (.string ⟨(le32 n).toArray⟩) (w.alloc (.cells #[.int .u8 ((n : Int) % 256), .int .u8 ((n : Int) / 256 % 256), .int .u8 ((n : Int) / 65536 % 256), .int .u8 ((n : Int) / 16777216 % 256)] 5)) := by
    refine run_convert_bytes_back _ 55 9 5 ⟨w.heap.size, 0, none⟩ 4 (le32 n) Tryz.underlying55 Tryz.underlying5 Tryz.underlying9 fun j hj => ?_
    have e : (bcells (le32 n))[j]? = some (.int .u8 ((le32 n)[j]).toNat) := by rw [bcells, List.getElem?_map, List.getElem?_eq_getElem hj]; rfl
    rw [Addr.add_lit, (BlkIs.new w 5 _).cell, ← e, ← lecells]
    simp [lecell]
  have hb := Lib.hid ((Below.refl w.heap.size w).alloc (Nat.le_refl _) (.cells #[.int .u8 ((n : Int) % 256), .int .u8 ((n : Int) / 256 % 256), .int .u8 ((n : Int) / 65536 % 256), .int .u8 ((n : Int) / 16777216 % 256)] 5))
  go_enter Tryz.func87, Tryz.ntmps87
  go_wp2_with fail
  go_ret
  exact ⟨rfl, hb.out⟩
theorem ref_text (s : ByteArray) (w : World) (hs : s.size ≤ 140737488355328) : Calls Tryz.prog 39 #[.string s] w fun e w' => e = .returned (.string ⟨(txt s.data.toList).toArray⟩) ∧ Below w.heap.size w w' := by
  obtain ⟨m, hm⟩ : ∃ m : Nat, m = s.size % 4294967296 := ⟨_, rfl⟩
  have hw : IntKind.u32.wrap (s.size : Int) = (m : Int) := by rw [hm, IntKind.wrap_u32]; omega
  have Hm := Lib.hid hm
  have hn := ref_num m
  obtain ⟨S, hS⟩ : ∃ S : ByteArray, S = ⟨(le32 m).toArray⟩ := ⟨_, rfl⟩
  have hS4 : S.size = 4 := by rw [hS]; rfl
  rw [← hS] at hn
  have Hn := Lib.hid hn
  have HS := Lib.hid hS
  clear hm hn hS
  have hsi : (s.size : Int) ≤ 140737488355328 := by omega
  go_enter Tryz.func39, Tryz.ntmps39
  go_wp2_with fail
  refine (Hn.out _).mono ?_
  rintro e w1 ⟨rfl, hb1⟩
  go_wp2_with fail
  go_ret
  refine ⟨?_, hb1⟩
  have e1 : s.data.toList.length = s.size := rfl
  simp only [txt, e1, ← Hm.out, HS.out]
  congr 2
end Go.Proofs.YtngflbakmlddeaaGreat.Oct
