/- strings.Builder: WriteString keeps all other blocks but the Builder's own row; what a Builder holds beside the old world. Conditions: the Builder is the call's own. -/
import Derived.Test.YtngflbakmlddeaaGreatBuilder
import Derived.Test.YtngflbakmlddeaaGreatBase
import Derived.Lib.Builder
namespace Go.Proofs.YtngflbakmlddeaaGreat.Bld
open Go.RowKit
set_option linter.unusedVariables false
set_option maxRecDepth 100000
/-- Every other block, but rows of bytes, lies as it lay. -/
def KeepsB (b : Nat) (w w' : World) : Prop := ∀ (E : Nat) (te : TypeId) (cs : Array Value), BlkIs w E te cs → E ≠ b → te ≠ 5 → BlkIs w' E te cs
theorem KeepsB.refl (b : Nat) (w : World) : KeepsB b w w := fun _ _ _ h _ _ => h
theorem KeepsB.trans {b : Nat} {x y z : World} (h : KeepsB b x y) (k : KeepsB b y z) : KeepsB b x z := fun E te cs hE hb ht => k E te cs (h E te cs hE hb ht) hb ht
theorem KeepsB.of_below {b : Nat} {x y : World} (h : Below x.heap.size x y) : KeepsB b x y := fun E te cs hE _ _ => hE.below h hE.lt
theorem copyCheckK (B b : Nat) (bs : List Value) (w : World) (h : Lib.IsBuilder 65 5 B b bs w) :
    Calls Tryz.prog 85 #[.pointer (some ⟨b, 0, none⟩)] w fun e w' => e = .returned (.tuple #[]) ∧ (Lib.BuilderAt 65 5 B b (.pointer (some ⟨b, 0, none⟩)) bs w' ∧ Below B w w' ∧ KeepsB b w w') := by
  rcases h with h | h
  · refine (copyCheck_fresh b w h.cell0 h.shape h.frozen0).mono ?_
    rintro e w' ⟨rfl, rfl⟩
    exact ⟨rfl, h.used _, (Below.refl B w).setCell (p := ⟨b, 0, none⟩) h.1 _, fun E te cs hE hEb _ => hE.far (p := ⟨b, 0, none⟩) hEb _⟩
  · refine (copyCheck_used b w h.cell0).mono ?_
    rintro e w' ⟨rfl, rfl⟩
    exact ⟨rfl, h, Below.refl B _, KeepsB.refl _ _⟩
set_option maxHeartbeats 2000000 in
theorem writeStringK (B b : Nat) (l : List UInt8) (s : ByteArray) (w : World) (h : Is w B b l) (hlen : l.length + s.size ≤ 140737488355328) (hBw : B ≤ w.heap.size) :
    Calls Tryz.prog 34 #[.pointer (some ⟨b, 0, none⟩), .string s] w fun e w' => e = .returned (.tuple #[.int .i64 s.size, .nilIface]) ∧ Is w' B b (l ++ s.data.toList) ∧ Below B w w' ∧ KeepsB b w w' := by
  obtain ⟨i0, hi, hz0, hz1, hz2⟩ := info_parts infoU8
  go_enter Tryz.func34, Tryz.ntmps34
  go_wp2_with fail
  refine (copyCheckK B b _ _ h).mono ?_
  rintro e w1 ⟨rfl, h1, hb1, hk1⟩
  obtain ⟨hB, v, hbk, hown, hne⟩ := h1
  rw [Lib.byteCells_length] at hown
  have c0 : w1.cell? ⟨b, 0, none⟩ = some (.pointer (some ⟨b, 0, none⟩)) := by rw [Lib.cell_of_heap hbk]; rfl
  have c1 : w1.cell? ⟨b, 1, none⟩ = some v := by rw [Lib.cell_of_heap hbk]; rfl
  go_wp2_with (at_builtin; refine Lib.wpList_append_own_string _ rfl _ _ 55 9 rfl B 5 i0 Tryz.underlying55 Tryz.underlying9 hi hz0 hz1 hz2 _ _ _ rfl hown s rfl ?c3 ?c4 ?c5 ?_)
  case c3 => unfold maxLen; omega
  case c4 => omega
  case c5 => have := hb1.size; omega
  intro v' w2 hown' hgrow _
  have hlt : b < w1.heap.size := Lib.BuilderAt.lt (T := 65) (e := 5) (bs := Lib.byteCells l) ⟨hB, v, hbk, by rw [Lib.byteCells_length]; exact hown, hne⟩
  have hb2 : w2.heap[b]? = some (.cells #[.pointer (some ⟨b, 0, none⟩), v] 65 (0, 0)) := by
    rw [hgrow.block b hlt (fun e => hne e.symm)]
    exact hbk
  have d0 : w2.cell? ⟨b, 0, none⟩ = some (.pointer (some ⟨b, 0, none⟩)) := by rw [Lib.cell_of_heap hb2]; rfl
  have d1 : w2.cell? ⟨b, 1, none⟩ = some v := by rw [Lib.cell_of_heap hb2]; rfl
  have f1 : w2.frozen? ⟨b, 1, none⟩ = false := Lib.frozen_of_heap hb2 1
  obtain ⟨ao, n', cap, rfl⟩ : ∃ ao n' cap, v' = .slice ao n' cap := by
    rcases hown'.2 with ⟨hv, _⟩ | ⟨g, cap, cur, hv, _⟩
    · exact ⟨_, _, _, hv⟩
    · exact ⟨_, _, _, hv⟩
  go_wp2
  go_ret2
  refine ⟨rfl, Or.inr ?_, ?_, fun E te cs hE hEb hte => ?_⟩
  · rw [Lib.byteCells_append, ← Lib.strCells_eq]
    exact Lib.BuilderAt.put (T := 65) (e := 5) hB hb2 (bs' := Lib.byteCells l ++ Lib.strCells s) (by simpa [Lib.strCells_length, Lib.byteCells_length] using hown') (by decide)
  · exact (hb1.grown hgrow (by have := hb1.size; omega) (fun k hk => (hown.lt k hk).1)).setCell (p := ⟨b, 1, none⟩) hB _
  · have hE1 := hk1 E te cs hE hEb hte
    have hne' : some E ≠ v.ownBlock := fun hh => by
      rcases hown.2 with ⟨h0, _⟩ | ⟨g0, cap0, cur, hv, _, hg, _⟩
      · rw [h0] at hh; cases hh
      · rw [hv] at hh
        have : E = g0 := by simpa [Value.ownBlock] using hh
        rw [this] at hE1
        unfold BlkIs at hE1
        rw [hg] at hE1
        simp at hE1
        exact hte hE1.2.symm
    exact (hE1.grown hgrow hne').far (p := ⟨b, 1, none⟩) hEb _
/-- A Builder at g, the first new block behind W0, that holds s; below g all is as it was. -/
def Out (W0 : World) (g : Nat) (s : ByteArray) (wr : World) : Prop := Bld.Is wr g g s.data.toList ∧ Below g W0 wr ∧ g < wr.heap.size ∧ g = W0.heap.size
theorem Is.later' {w w' : World} {g : Nat} {l : List UInt8} (h : Is w g g l) (hb : Below w.heap.size w w') : Is w' g g l := by
  have key : ∀ p, Lib.BuilderAt 65 5 g g p (Lib.byteCells l) w → Lib.BuilderAt 65 5 g g p (Lib.byteCells l) w' := by
    rintro p ⟨hB, v, hbk, hown, hne⟩
    refine ⟨hB, v, ?_, ?_, hne⟩
    · rw [hb.block g (Array.getElem?_eq_some_iff.1 hbk).1]; exact hbk
    · refine ⟨hown.1, ?_⟩
      rcases hown.2 with h0 | ⟨g0, cap0, cur, hv, hg0, hg, r⟩
      · exact .inl h0
      · exact .inr ⟨g0, cap0, cur, hv, hg0, by rw [hb.block g0 (Array.getElem?_eq_some_iff.1 hg).1]; exact hg, r⟩
  rcases h with h | h
  · exact .inl (key _ h)
  · exact .inr (key _ h)
theorem Out.later {W0 : World} {g : Nat} {s : ByteArray} {w w' : World} (h : Out W0 g s w) (hb : Below w.heap.size w w') : Out W0 g s w' :=
  ⟨h.1.later' hb, h.2.1.trans (hb.mono (Nat.le_of_lt h.2.2.1)), Nat.lt_of_lt_of_le h.2.2.1 hb.size, h.2.2.2⟩
theorem Out.write {W0 : World} {g : Nat} {s : ByteArray} {wr : World} (h : Out W0 g s wr) (t : ByteArray) (hs : s.size + t.size ≤ 140737488355328) :
    Calls Tryz.prog 34 #[.pointer (some ⟨g, 0, none⟩), .string t] wr fun e w' => e = .returned (.tuple #[.int .i64 t.size, .nilIface]) ∧ Out W0 g (s ++ t) w' ∧ KeepsB g wr w' ∧ wr.heap.size ≤ w'.heap.size := by
  refine (writeStringK g g _ t wr h.1 hs (Nat.le_of_lt h.2.2.1)).mono ?_
  rintro e w' ⟨rfl, h1, h2, h3⟩
  have hsz := h2.size
  refine ⟨rfl, ⟨?_, h.2.1.trans h2, Nat.lt_of_lt_of_le h.2.2.1 hsz, h.2.2.2⟩, h3, hsz⟩
  have : (s ++ t).data.toList = s.data.toList ++ t.data.toList := by simp
  rw [this]
  exact h1
theorem Out.new (W0 : World) : Out W0 W0.heap.size ⟨#[]⟩ (W0.alloc (.cells #[.pointer none, .slice none 0 0] 65)) :=
  ⟨Is.new W0, (Below.refl _ _).alloc (Nat.le_refl _) _, by simp, rfl⟩
theorem Out.string {W0 : World} {g : Nat} {s : ByteArray} {wr : World} (h : Out W0 g s wr) (h0 : 0 < s.size) :
    Calls Tryz.prog 37 #[.pointer (some ⟨g, 0, none⟩)] wr fun e w' => e = .returned (.string s) ∧ Below W0.heap.size W0 w' := by
  have hne : s.data.toList ≠ [] := fun e => by
    have : s.data.toList.length = 0 := by rw [e]; rfl
    have h2 : s.data.toList.length = s.size := rfl
    omega
  have h2 := h.2.2.2
  refine (Bld.string g g _ wr h.1 hne).mono ?_
  rintro e w' ⟨rfl, hb⟩
  have e1 : (⟨s.data.toList.toArray⟩ : ByteArray) = s := by
    apply ByteArray.ext
    apply Array.ext'
    simp
  exact ⟨by rw [e1], by have := h.2.1.trans hb; rwa [h2] at this⟩
end Go.Proofs.YtngflbakmlddeaaGreat.Bld
