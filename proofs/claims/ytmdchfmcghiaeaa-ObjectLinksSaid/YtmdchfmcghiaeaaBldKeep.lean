/- strings.Builder: WriteByte keeps any other block but the Builder's own row. Conditions: the Builder is the call's own; the block is of another type. -/
import Derived.Test.YtmdchfmcghiaeaaBuilder
import Derived.Test.YtmdchfmcghiaeaaBase
import Derived.Lib.Builder
namespace Go.Proofs.Ytmdchfmcghiaeaa.Bld
open Go.RowKit
set_option maxRecDepth 100000
theorem copyCheck_keep (E : Nat) (cs : Array Value) (te : TypeId) (B b : Nat) (bs : List Value) (w : World) (h : Lib.IsBuilder 81 5 B b bs w) (hE : BlkIs w E te cs) (hEb : E ≠ b) :
    Calls Try.prog 82 #[.pointer (some ⟨b, 0, none⟩)] w fun e w' => e = .returned (.tuple #[]) ∧ (Lib.BuilderAt 81 5 B b (.pointer (some ⟨b, 0, none⟩)) bs w' ∧ Below B w w' ∧ BlkIs w' E te cs) := by
  rcases h with h | h
  · refine (copyCheck_fresh b w h.cell0 h.shape h.frozen0).mono ?_
    rintro e w' ⟨rfl, rfl⟩
    exact ⟨rfl, h.used _, (Below.refl B w).setCell (p := ⟨b, 0, none⟩) h.1 _, hE.far (p := ⟨b, 0, none⟩) hEb _⟩
  · refine (copyCheck_used b w h.cell0).mono ?_
    rintro e w' ⟨rfl, rfl⟩
    exact ⟨rfl, h, Below.refl B _, hE⟩
set_option maxHeartbeats 2000000 in
theorem writeByte_keep (E : Nat) (cs : Array Value) (te : TypeId) (B b : Nat) (l : List UInt8) (c : UInt8) (w : World) (h : Is w B b l) (hlen : l.length + 1 ≤ 140737488355328) (hBw : B ≤ w.heap.size) (hE : BlkIs w E te cs) (hEb : E ≠ b) (hte : te ≠ 5) :
    Calls Try.prog 55 #[.pointer (some ⟨b, 0, none⟩), .int .u8 c.toNat] w fun e w' => e = .returned .nilIface ∧ Is w' B b (l ++ [c]) ∧ Below B w w' ∧ BlkIs w' E te cs := by
  obtain ⟨i0, hi, hz0, hz1, hz2⟩ := info_parts infoU8
  go_enter Try.func55, Try.ntmps55
  go_wp2_with fail
  refine (copyCheck_keep E cs te B b _ _ h hE hEb).mono ?_
  rintro e w1 ⟨rfl, h1, hb1, hE1⟩
  obtain ⟨hB, v, hbk, hown, hne⟩ := h1
  rw [Lib.byteCells_length] at hown
  have c0 : w1.cell? ⟨b, 0, none⟩ = some (.pointer (some ⟨b, 0, none⟩)) := by rw [Lib.cell_of_heap hbk]; rfl
  have c1 : w1.cell? ⟨b, 1, none⟩ = some v := by rw [Lib.cell_of_heap hbk]; rfl
  go_wp2_with (at_builtin; refine wpList_append_own _ rfl _ _ 31 rfl B 5 i0 (.int .u8 0) 1 1 Try.underlying31 hi hz0 hz1 hz2 rfl (by decide) _ _ _ rfl (hown.alloc _) ⟨w1.heap.size, 0, none⟩ 1 1 [.int .u8 c.toNat] rfl rfl ?c1 ?c2 ?c3 ?c4 ?c5 ?_)
  case c1 =>
    intro j u hj
    match j, hj with
    | 0, hj => simp at hj; subst hj; simp [Addr.add]
  case c2 => intro u hu; simp at hu; subst hu; rfl
  case c3 => unfold maxLen; omega
  case c4 => omega
  case c5 => have := hb1.size; simp; omega
  intro v' w2 hown' hgrow _
  have hlt : b < w1.heap.size := Lib.BuilderAt.lt (T := 81) (e := 5) (bs := Lib.byteCells l) ⟨hB, v, hbk, by rw [Lib.byteCells_length]; exact hown, hne⟩
  have hb2 : w2.heap[b]? = some (.cells #[.pointer (some ⟨b, 0, none⟩), v] 81 (0, 0)) := by
    rw [hgrow.block b (by simp; omega) (fun e => hne e.symm), Lib.alloc_old w1 _ b hlt]
    exact hbk
  have d0 : w2.cell? ⟨b, 0, none⟩ = some (.pointer (some ⟨b, 0, none⟩)) := by rw [Lib.cell_of_heap hb2]; rfl
  have d1 : w2.cell? ⟨b, 1, none⟩ = some v := by rw [Lib.cell_of_heap hb2]; rfl
  have f1 : w2.frozen? ⟨b, 1, none⟩ = false := Lib.frozen_of_heap hb2 1
  obtain ⟨g, cap, rfl⟩ : ∃ g cap, v' = .slice (some ⟨g, 0, none⟩) (l.length + 1) cap := by
    rcases hown'.2 with ⟨_, h0⟩ | ⟨g, cap, cur, hv, _⟩
    · omega
    · exact ⟨g, cap, hv⟩
  go_wp2
  go_ret
  have hne' : some E ≠ v.ownBlock := fun hh => by
    rcases hown.2 with ⟨h0, _⟩ | ⟨g0, cap0, cur, hv, _, hg, _⟩
    · rw [h0] at hh; cases hh
    · rw [hv] at hh
      have : E = g0 := by simpa [Value.ownBlock] using hh
      rw [this] at hE1
      unfold BlkIs at hE1
      rw [hg] at hE1
      simp at hE1
      exact hte hE1.2.symm
  refine ⟨rfl, Or.inr ?_, ?_, ((hE1.alloc _).grown hgrow hne').far (p := ⟨b, 1, none⟩) hEb _⟩
  · have hc : Lib.byteCells (l ++ [c]) = Lib.byteCells l ++ [.int .u8 c.toNat] := Lib.byteCells_append l [c]
    rw [hc]
    exact Lib.BuilderAt.put (T := 81) (e := 5) hB hb2 (bs' := Lib.byteCells l ++ [.int .u8 c.toNat]) (by simpa [Lib.byteCells_length] using hown') (by decide)
  · exact ((hb1.alloc (by have := hb1.size; omega) _).grown hgrow (by have := hb1.size; simp; omega) (fun k hk => (hown.lt k hk).1)).setCell (p := ⟨b, 1, none⟩) hB _
end Go.Proofs.Ytmdchfmcghiaeaa.Bld
