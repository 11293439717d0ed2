/- Several texts in one. (Layer 19.) -/
import Derived.Test.YtljenganlknhbaaGreatChecked
import Derived.Lib.Builder
import Derived.Lib.AppendStr
import Derived.Lib.UnsafeStr
import Derived.Lib.Hide
import Derived.WalkKit
import Derived.Laws.Externs
import Derived.Shelf.RegionOpenPlain
import Derived.BigQuiet
import Derived.Test.YtljenganlknhbaaGreatPkA
/- A strings.Builder of the call's own: what copyCheck, WriteByte, WriteString and String do to it. -/
namespace Go.Proofs.YtljenganlknhbaaGreat.Bld
open Go.RowKit
set_option linter.unusedVariables false
/-- At block b, of the call's own from B on, lies a Builder that holds these bytes. -/
def Is (w : World) (B b : Nat) (l : List UInt8) : Prop := Lib.IsBuilder 132 5 B b (Lib.byteCells l) w
theorem sizeB : (Tryz.prog.info? 132).map (·.size) = some 2 := by kernel_rfl
theorem liesB : liesAt Tryz.prog Tryz.prog.depth 132 (2 / Tryz.prog.cellsOf 132) 0 132 1 = true := by kernel_rfl
set_option maxRecDepth 100000
set_option maxHeartbeats 1000000 in
theorem copyCheck_used (b : Nat) (w : World) (h0 : w.cell? ⟨b, 0, none⟩ = some (.pointer (some ⟨b, 0, none⟩))) :
    Calls Tryz.prog 149 #[.pointer (some ⟨b, 0, none⟩)] w fun e w' => e = .returned (.tuple #[]) ∧ w' = w := by
  obtain ⟨j, hj, _⟩ := Option.map_eq_some_iff.1 sizeB
  go_enter Tryz.func149, Tryz.ntmps149
  go_wp2
  rw [Lib.run_neq_ptr_same w _ Tryz.underlying130 hj]
  go_wp2
  go_end0
  exact ⟨rfl, rfl⟩
set_option maxHeartbeats 1000000 in
theorem copyCheck_fresh (b : Nat) (w : World) (h0 : w.cell? ⟨b, 0, none⟩ = some (.pointer none)) (hsh : w.shape? b = some (132, 2)) (hfz : w.frozen? ⟨b, 0, none⟩ = false) :
    Calls Tryz.prog 149 #[.pointer (some ⟨b, 0, none⟩)] w fun e w' => e = .returned (.tuple #[]) ∧ w' = w.setCell ⟨b, 0, none⟩ (.pointer (some ⟨b, 0, none⟩)) := by
  obtain ⟨j, hj, hjs⟩ := Option.map_eq_some_iff.1 sizeB
  go_enter Tryz.func149, Tryz.ntmps149
  go_wp2
  rw [Lib.run_to_unsafe w ⟨b, 0, none⟩ Tryz.underlying130 Tryz.underlying168 hj (by rw [hjs]; decide) hsh (Nat.zero_lt_succ 1)]
  simp only [Result.andThen]
  rw [Oper.upon_value]
  go_wp2
  rw [run_callFunc_extern Tryz.func171 (by kernel_rfl) (by kernel_rfl) (by kernel_rfl) (e := Extern.AbiNoEscape.same) (by kernel_rfl)]
  rw [Lib.run_noEscape]
  simp only [Result.andThen]
  rw [Oper.upon_value]
  go_wp2
  rw [Lib.run_from_unsafe w ⟨b, 0, none⟩ Tryz.underlying168 Tryz.underlying130 hj hsh liesB]
  simp only [Result.andThen]
  rw [Oper.upon_value]
  go_wp2
  go_end0
  exact ⟨rfl, rfl⟩
theorem copyCheck (B b : Nat) (bs : List Value) (w : World) (h : Lib.IsBuilder 132 5 B b bs w) :
    Calls Tryz.prog 149 #[.pointer (some ⟨b, 0, none⟩)] w fun e w' => e = .returned (.tuple #[]) ∧ (Lib.BuilderAt 132 5 B b (.pointer (some ⟨b, 0, none⟩)) bs w' ∧ Below B w w') := by
  rcases h with h | h
  · refine (copyCheck_fresh b w h.cell0 h.shape h.frozen0).mono ?_
    rintro e w' ⟨rfl, rfl⟩
    exact ⟨rfl, h.used _, (Below.refl B w).setCell (p := ⟨b, 0, none⟩) h.1 _⟩
  · refine (copyCheck_used b w h.cell0).mono ?_
    rintro e w' ⟨rfl, rfl⟩
    exact ⟨rfl, h, Below.refl B _⟩
theorem infoU8 : (Tryz.prog.info? 5).map (fun i => (i.zero, i.size, i.bytes)) = some (some (.int .u8 0), 1, 1) := by kernel_rfl
set_option maxHeartbeats 2000000 in
theorem writeByte (B b : Nat) (l : List UInt8) (c : UInt8) (w : World) (h : Is w B b l) (hlen : l.length + 1 ≤ 140737488355328) (hBw : B ≤ w.heap.size) :
    Calls Tryz.prog 176 #[.pointer (some ⟨b, 0, none⟩), .int .u8 c.toNat] w fun e w' => e = .returned .nilIface ∧ Is w' B b (l ++ [c]) ∧ Below B w w' := by
  obtain ⟨i0, hi, hz0, hz1, hz2⟩ := info_parts infoU8
  go_enter Tryz.func176, Tryz.ntmps176
  go_wp2_with fail
  refine (copyCheck B b _ _ h).mono ?_
  rintro e w1 ⟨rfl, h1, hb1⟩
  obtain ⟨hB, v, hbk, hown, hne⟩ := h1
  rw [Lib.byteCells_length] at hown
  have c0 : w1.cell? ⟨b, 0, none⟩ = some (.pointer (some ⟨b, 0, none⟩)) := by rw [Lib.cell_of_heap hbk]; rfl
  have c1 : w1.cell? ⟨b, 1, none⟩ = some v := by rw [Lib.cell_of_heap hbk]; rfl
  go_wp2_with (at_builtin; refine wpList_append_own _ rfl _ _ 43 rfl B 5 i0 (.int .u8 0) 1 1 Tryz.underlying43 hi hz0 hz1 hz2 rfl (by decide) _ _ _ rfl (hown.alloc _) ⟨w1.heap.size, 0, none⟩ 1 1 [.int .u8 c.toNat] rfl rfl ?c1 ?c2 ?c3 ?c4 ?c5 ?_)
  case c1 =>
    intro j u hj
    match j, hj with
    | 0, hj => simp at hj; subst hj; simp [Addr.add]
  case c2 => intro u hu; simp at hu; subst hu; rfl
  case c3 => unfold maxLen; omega
  case c4 => omega
  case c5 => have := hb1.size; simp; omega
  intro v' w2 hown' hgrow _
  have hlt : b < w1.heap.size := Lib.BuilderAt.lt (T := 132) (e := 5) (bs := Lib.byteCells l) ⟨hB, v, hbk, by rw [Lib.byteCells_length]; exact hown, hne⟩
  have hb2 : w2.heap[b]? = some (.cells #[.pointer (some ⟨b, 0, none⟩), v] 132 (0, 0)) := by
    rw [hgrow.block b (by simp; omega) (fun e => hne e.symm), Lib.alloc_old w1 _ b hlt]
    exact hbk
  have d0 : w2.cell? ⟨b, 0, none⟩ = some (.pointer (some ⟨b, 0, none⟩)) := by rw [Lib.cell_of_heap hb2]; rfl
  have d1 : w2.cell? ⟨b, 1, none⟩ = some v := by rw [Lib.cell_of_heap hb2]; rfl
  have f1 : w2.frozen? ⟨b, 1, none⟩ = false := Lib.frozen_of_heap hb2 1
  obtain ⟨g, cap, rfl⟩ : ∃ g cap, v' = .slice (some ⟨g, 0, none⟩) (l.length + 1) cap := by
    rcases hown'.2 with ⟨_, h0⟩ | ⟨g, cap, cur, hv, _⟩
    · omega
    · exact ⟨g, cap, hv⟩
  go_wp2
  go_ret
  refine ⟨rfl, Or.inr ?_, ?_⟩
  · have hc : Lib.byteCells (l ++ [c]) = Lib.byteCells l ++ [.int .u8 c.toNat] := Lib.byteCells_append l [c]
    rw [hc]
    exact Lib.BuilderAt.put (T := 132) (e := 5) hB hb2 (bs' := Lib.byteCells l ++ [.int .u8 c.toNat]) (by simpa [Lib.byteCells_length] using hown') (by decide)
  · exact ((hb1.alloc (by have := hb1.size; omega) _).grown hgrow (by have := hb1.size; simp; omega) (fun k hk => (hown.lt k hk).1)).setCell (p := ⟨b, 1, none⟩) hB _
set_option maxHeartbeats 2000000 in
theorem writeString (B b : Nat) (l : List UInt8) (s : ByteArray) (w : World) (h : Is w B b l) (hlen : l.length + s.size ≤ 140737488355328) (hBw : B ≤ w.heap.size) :
    Calls Tryz.prog 115 #[.pointer (some ⟨b, 0, none⟩), .string s] w fun e w' => e = .returned (.tuple #[.int .i64 s.size, .nilIface]) ∧ Is w' B b (l ++ s.data.toList) ∧ Below B w w' := by
  obtain ⟨i0, hi, hz0, hz1, hz2⟩ := info_parts infoU8
  go_enter Tryz.func115, Tryz.ntmps115
  go_wp2_with fail
  refine (copyCheck B b _ _ h).mono ?_
  rintro e w1 ⟨rfl, h1, hb1⟩
  obtain ⟨hB, v, hbk, hown, hne⟩ := h1
  rw [Lib.byteCells_length] at hown
  have c0 : w1.cell? ⟨b, 0, none⟩ = some (.pointer (some ⟨b, 0, none⟩)) := by rw [Lib.cell_of_heap hbk]; rfl
  have c1 : w1.cell? ⟨b, 1, none⟩ = some v := by rw [Lib.cell_of_heap hbk]; rfl
  go_wp2_with (at_builtin; refine Lib.wpList_append_own_string _ rfl _ _ 43 9 rfl B 5 i0 Tryz.underlying43 Tryz.underlying9 hi hz0 hz1 hz2 _ _ _ rfl hown s rfl ?c3 ?c4 ?c5 ?_)
  case c3 => unfold maxLen; omega
  case c4 => omega
  case c5 => have := hb1.size; omega
  intro v' w2 hown' hgrow _
  have hlt : b < w1.heap.size := Lib.BuilderAt.lt (T := 132) (e := 5) (bs := Lib.byteCells l) ⟨hB, v, hbk, by rw [Lib.byteCells_length]; exact hown, hne⟩
  have hb2 : w2.heap[b]? = some (.cells #[.pointer (some ⟨b, 0, none⟩), v] 132 (0, 0)) := by
    rw [hgrow.block b hlt (fun e => hne e.symm)]
    exact hbk
  have d0 : w2.cell? ⟨b, 0, none⟩ = some (.pointer (some ⟨b, 0, none⟩)) := by rw [Lib.cell_of_heap hb2]; rfl
  have d1 : w2.cell? ⟨b, 1, none⟩ = some v := by rw [Lib.cell_of_heap hb2]; rfl
  have f1 : w2.frozen? ⟨b, 1, none⟩ = false := Lib.frozen_of_heap hb2 1
  obtain ⟨ao, n', cap, rfl⟩ : ∃ ao n' cap, v' = .slice ao n' cap := by
    rcases hown'.2 with ⟨hv, _⟩ | ⟨g, cap, cur, hv, _⟩
    · exact ⟨_, _, _, hv⟩
    · exact ⟨_, _, _, hv⟩
  go_wp2
  go_ret2
  refine ⟨rfl, Or.inr ?_, ?_⟩
  · rw [Lib.byteCells_append, ← Lib.strCells_eq]
    exact Lib.BuilderAt.put (T := 132) (e := 5) hB hb2 (bs' := Lib.byteCells l ++ Lib.strCells s) (by simpa [Lib.strCells_length, Lib.byteCells_length] using hown') (by decide)
  · exact (hb1.grown hgrow (by have := hb1.size; omega) (fun k hk => (hown.lt k hk).1)).setCell (p := ⟨b, 1, none⟩) hB _
set_option maxHeartbeats 1000000 in
theorem string (B b : Nat) (l : List UInt8) (w : World) (h : Is w B b l) (h0 : l ≠ []) :
    Calls Tryz.prog 116 #[.pointer (some ⟨b, 0, none⟩)] w fun e w' => e = .returned (.string ⟨l.toArray⟩) ∧ Below B w w' := by
  obtain ⟨p, hB, v, hbk, hown, hne⟩ : ∃ p, Lib.BuilderAt 132 5 B b p (Lib.byteCells l) w := by
    rcases h with h | h
    · exact ⟨_, h⟩
    · exact ⟨_, h⟩
  have hl0 : l.length ≠ 0 := by simpa using h0
  rw [Lib.byteCells_length] at hown
  obtain ⟨g, cap, cur, rfl, hbg, hg, hnc, hcm, hcs, htake⟩ : ∃ g cap cur, v = .slice (some ⟨g, 0, none⟩) l.length cap ∧ B ≤ g ∧ w.heap[g]? = some (.cells cur 5 (0, 0)) ∧ l.length ≤ cap ∧ cap ≤ maxLen ∧ cur.size = cap * 1 ∧ cur.toList.take (l.length * 1) = Lib.byteCells l := by
    rcases hown.2 with ⟨_, hz⟩ | ⟨g, cap, cur, hv, r⟩
    · exact absurd hz hl0
    · exact ⟨g, cap, cur, hv, r⟩
  have c1 : w.drew.cell? ⟨b, 1, none⟩ = some (.slice (some ⟨g, 0, none⟩) l.length cap) := by
    have : w.drew.heap[b]? = some (.cells #[p, .slice (some ⟨g, 0, none⟩) l.length cap] 132 (0, 0)) := hbk
    rw [Lib.cell_of_heap this]; rfl
  have hSD : (Builtin.unsafeSliceData_ #[43] 156 #[.slice (some ⟨g, 0, none⟩) l.length cap]).run Tryz.prog w.drew = .ok (.pointer (some ⟨g, 0, none⟩)) w.drew :=
    Lib.run_unsafeSliceData_row _ _ _ _ _ _ (by omega)
  have hUS : (Builtin.unsafeString_ #[156, 3] 9 #[.pointer (some ⟨g, 0, none⟩), .int .i64 l.length]).run Tryz.prog w.drew = .ok (.string ⟨l.toArray⟩) (w.drew.freeze ⟨g, 0, none⟩ l.length) := by
    refine Lib.run_unsafeString_row w.drew 156 3 9 5 Tryz.underlying156 (by kernel_rfl) g cur.size (by have hg' : w.drew.heap[g]? = some (.cells cur 5 (0, 0)) := hg; simp [World.shape?, hg']) l h0 (by omega) (by unfold maxLen at hcm; omega) ?_
    intro j x hx
    exact hown.cells (g := g) rfl j (.int .u8 x.toNat) (by simp [Lib.byteCells, hx])
  go_enter Tryz.func116, Tryz.ntmps116
  go_wp2
  go_region
  all_goals (go_wp2; go_ret; exact ⟨rfl, Lib.below_freeze (Below.drew (Below.refl B w)) (p := ⟨g, 0, none⟩) hbg _⟩)
theorem Is.new (w : World) : Is (w.alloc (.cells #[.pointer none, .slice none 0 0] 132)) w.heap.size w.heap.size [] := Lib.fresh_isBuilder _ _ w
end Go.Proofs.YtljenganlknhbaaGreat.Bld

/- strings.Builder: WriteString keeps all other blocks but the Builder's own row; what a Builder holds beside the old world. Conditions: the Builder is the call's own. -/
namespace Go.Proofs.YtljenganlknhbaaGreat.Bld
open Go.RowKit
set_option linter.unusedVariables false
set_option maxRecDepth 100000
/-- Every other block, but rows of bytes, lies as it lay. -/
def KeepsB (b : Nat) (w w' : World) : Prop := ∀ (E : Nat) (te : TypeId) (cs : Array Value), BlkIs w E te cs → E ≠ b → te ≠ 5 → BlkIs w' E te cs
theorem KeepsB.refl (b : Nat) (w : World) : KeepsB b w w := fun _ _ _ h _ _ => h
theorem KeepsB.trans {b : Nat} {x y z : World} (h : KeepsB b x y) (k : KeepsB b y z) : KeepsB b x z := fun E te cs hE hb ht => k E te cs (h E te cs hE hb ht) hb ht
theorem KeepsB.of_below {b : Nat} {x y : World} (h : Below x.heap.size x y) : KeepsB b x y := fun E te cs hE _ _ => hE.below h hE.lt
theorem copyCheckK (B b : Nat) (bs : List Value) (w : World) (h : Lib.IsBuilder 132 5 B b bs w) :
    Calls Tryz.prog 149 #[.pointer (some ⟨b, 0, none⟩)] w fun e w' => e = .returned (.tuple #[]) ∧ (Lib.BuilderAt 132 5 B b (.pointer (some ⟨b, 0, none⟩)) bs w' ∧ Below B w w' ∧ KeepsB b w w') := by
  rcases h with h | h
  · refine (copyCheck_fresh b w h.cell0 h.shape h.frozen0).mono ?_
    rintro e w' ⟨rfl, rfl⟩
    exact ⟨rfl, h.used _, (Below.refl B w).setCell (p := ⟨b, 0, none⟩) h.1 _, fun E te cs hE hEb _ => hE.far (p := ⟨b, 0, none⟩) hEb _⟩
  · refine (copyCheck_used b w h.cell0).mono ?_
    rintro e w' ⟨rfl, rfl⟩
    exact ⟨rfl, h, Below.refl B _, KeepsB.refl _ _⟩
set_option maxHeartbeats 2000000 in
theorem writeStringK (B b : Nat) (l : List UInt8) (s : ByteArray) (w : World) (h : Is w B b l) (hlen : l.length + s.size ≤ 140737488355328) (hBw : B ≤ w.heap.size) :
    Calls Tryz.prog 115 #[.pointer (some ⟨b, 0, none⟩), .string s] w fun e w' => e = .returned (.tuple #[.int .i64 s.size, .nilIface]) ∧ Is w' B b (l ++ s.data.toList) ∧ Below B w w' ∧ KeepsB b w w' := by
  obtain ⟨i0, hi, hz0, hz1, hz2⟩ := info_parts infoU8
  go_enter Tryz.func115, Tryz.ntmps115
  go_wp2_with fail
  refine (copyCheckK B b _ _ h).mono ?_
  rintro e w1 ⟨rfl, h1, hb1, hk1⟩
  obtain ⟨hB, v, hbk, hown, hne⟩ := h1
  rw [Lib.byteCells_length] at hown
  have c0 : w1.cell? ⟨b, 0, none⟩ = some (.pointer (some ⟨b, 0, none⟩)) := by rw [Lib.cell_of_heap hbk]; rfl
  have c1 : w1.cell? ⟨b, 1, none⟩ = some v := by rw [Lib.cell_of_heap hbk]; rfl
  go_wp2_with (at_builtin; refine Lib.wpList_append_own_string _ rfl _ _ 43 9 rfl B 5 i0 Tryz.underlying43 Tryz.underlying9 hi hz0 hz1 hz2 _ _ _ rfl hown s rfl ?c3 ?c4 ?c5 ?_)
  case c3 => unfold maxLen; omega
  case c4 => omega
  case c5 => have := hb1.size; omega
  intro v' w2 hown' hgrow _
  have hlt : b < w1.heap.size := Lib.BuilderAt.lt (T := 132) (e := 5) (bs := Lib.byteCells l) ⟨hB, v, hbk, by rw [Lib.byteCells_length]; exact hown, hne⟩
  have hb2 : w2.heap[b]? = some (.cells #[.pointer (some ⟨b, 0, none⟩), v] 132 (0, 0)) := by
    rw [hgrow.block b hlt (fun e => hne e.symm)]
    exact hbk
  have d0 : w2.cell? ⟨b, 0, none⟩ = some (.pointer (some ⟨b, 0, none⟩)) := by rw [Lib.cell_of_heap hb2]; rfl
  have d1 : w2.cell? ⟨b, 1, none⟩ = some v := by rw [Lib.cell_of_heap hb2]; rfl
  have f1 : w2.frozen? ⟨b, 1, none⟩ = false := Lib.frozen_of_heap hb2 1
  obtain ⟨ao, n', cap, rfl⟩ : ∃ ao n' cap, v' = .slice ao n' cap := by
    rcases hown'.2 with ⟨hv, _⟩ | ⟨g, cap, cur, hv, _⟩
    · exact ⟨_, _, _, hv⟩
    · exact ⟨_, _, _, hv⟩
  go_wp2
  go_ret2
  refine ⟨rfl, Or.inr ?_, ?_, fun E te cs hE hEb hte => ?_⟩
  · rw [Lib.byteCells_append, ← Lib.strCells_eq]
    exact Lib.BuilderAt.put (T := 132) (e := 5) hB hb2 (bs' := Lib.byteCells l ++ Lib.strCells s) (by simpa [Lib.strCells_length, Lib.byteCells_length] using hown') (by decide)
  · exact (hb1.grown hgrow (by have := hb1.size; omega) (fun k hk => (hown.lt k hk).1)).setCell (p := ⟨b, 1, none⟩) hB _
  · have hE1 := hk1 E te cs hE hEb hte
    have hne' : some E ≠ v.ownBlock := fun hh => by
      rcases hown.2 with ⟨h0, _⟩ | ⟨g0, cap0, cur, hv, _, hg, _⟩
      · rw [h0] at hh; cases hh
      · rw [hv] at hh
        have : E = g0 := by simpa [Value.ownBlock] using hh
        rw [this] at hE1
        unfold BlkIs at hE1
        rw [hg] at hE1
        simp at hE1
        exact hte hE1.2.symm
    exact (hE1.grown hgrow hne').far (p := ⟨b, 1, none⟩) hEb _
/-- A Builder at g, the first new block behind W0, that holds s; below g all is as it was. -/
def Out (W0 : World) (g : Nat) (s : ByteArray) (wr : World) : Prop := Bld.Is wr g g s.data.toList ∧ Below g W0 wr ∧ g < wr.heap.size ∧ g = W0.heap.size
theorem Is.later' {w w' : World} {g : Nat} {l : List UInt8} (h : Is w g g l) (hb : Below w.heap.size w w') : Is w' g g l := by
  have key : ∀ p, Lib.BuilderAt 132 5 g g p (Lib.byteCells l) w → Lib.BuilderAt 132 5 g g p (Lib.byteCells l) w' := by
    rintro p ⟨hB, v, hbk, hown, hne⟩
    refine ⟨hB, v, ?_, ?_, hne⟩
    · rw [hb.block g (Array.getElem?_eq_some_iff.1 hbk).1]; exact hbk
    · refine ⟨hown.1, ?_⟩
      rcases hown.2 with h0 | ⟨g0, cap0, cur, hv, hg0, hg, r⟩
      · exact .inl h0
      · exact .inr ⟨g0, cap0, cur, hv, hg0, by rw [hb.block g0 (Array.getElem?_eq_some_iff.1 hg).1]; exact hg, r⟩
  rcases h with h | h
  · exact .inl (key _ h)
  · exact .inr (key _ h)
theorem Out.later {W0 : World} {g : Nat} {s : ByteArray} {w w' : World} (h : Out W0 g s w) (hb : Below w.heap.size w w') : Out W0 g s w' :=
  ⟨h.1.later' hb, h.2.1.trans (hb.mono (Nat.le_of_lt h.2.2.1)), Nat.lt_of_lt_of_le h.2.2.1 hb.size, h.2.2.2⟩
theorem Out.write {W0 : World} {g : Nat} {s : ByteArray} {wr : World} (h : Out W0 g s wr) (t : ByteArray) (hs : s.size + t.size ≤ 140737488355328) :
    Calls Tryz.prog 115 #[.pointer (some ⟨g, 0, none⟩), .string t] wr fun e w' => e = .returned (.tuple #[.int .i64 t.size, .nilIface]) ∧ Out W0 g (s ++ t) w' ∧ KeepsB g wr w' ∧ wr.heap.size ≤ w'.heap.size := by
  refine (writeStringK g g _ t wr h.1 hs (Nat.le_of_lt h.2.2.1)).mono ?_
  rintro e w' ⟨rfl, h1, h2, h3⟩
  have hsz := h2.size
  refine ⟨rfl, ⟨?_, h.2.1.trans h2, Nat.lt_of_lt_of_le h.2.2.1 hsz, h.2.2.2⟩, h3, hsz⟩
  have : (s ++ t).data.toList = s.data.toList ++ t.data.toList := by simp
  rw [this]
  exact h1
theorem Out.new (W0 : World) : Out W0 W0.heap.size ⟨#[]⟩ (W0.alloc (.cells #[.pointer none, .slice none 0 0] 132)) :=
  ⟨Is.new W0, (Below.refl _ _).alloc (Nat.le_refl _) _, by simp, rfl⟩
theorem Out.string {W0 : World} {g : Nat} {s : ByteArray} {wr : World} (h : Out W0 g s wr) (h0 : 0 < s.size) :
    Calls Tryz.prog 116 #[.pointer (some ⟨g, 0, none⟩)] wr fun e w' => e = .returned (.string s) ∧ Below W0.heap.size W0 w' := by
  have hne : s.data.toList ≠ [] := fun e => by
    have : s.data.toList.length = 0 := by rw [e]; rfl
    have h2 : s.data.toList.length = s.size := rfl
    omega
  have h2 := h.2.2.2
  refine (Bld.string g g _ wr h.1 hne).mono ?_
  rintro e w' ⟨rfl, hb⟩
  have e1 : (⟨s.data.toList.toArray⟩ : ByteArray) = s := by
    apply ByteArray.ext
    apply Array.ext'
    simp
  exact ⟨by rw [e1], by have := h.2.1.trans hb; rwa [h2] at this⟩
end Go.Proofs.YtljenganlknhbaaGreat.Bld

