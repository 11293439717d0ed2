/- shelf.Set[int].Add; shelf.Of, walked. (Layer 08.) -/
import Derived.Test.YtckhekkdidfefaaSetI3
namespace Go.Proofs.Ytckhekkdidfefaa.Set
set_option linter.unusedVariables false
open Go.RowKit Go.Sort Go.Lib
theorem add_int (base g : Nat) (kv vv : Value) (l : List Int) (x : Int) (w : World) (h : IntSet w base g kv vv l) (hn : l.length < 1000000) :
    Calls Try.prog 32 #[.pointer (some ⟨g, 0, none⟩), Value.int .i64 x] w fun e w' => IntPut base g kv vv l x w w' e := by
  have A := Lib.hid (all_int g w h.blk.lt kv vv h.blk)
  have S := Lib.hid (put_int base g kv vv l x w h hn)
  obtain ⟨Q, hQ⟩ : ∃ Q, Q = IntPut base g kv vv l x w := ⟨_, rfl⟩
  have HR : Hid (∀ w' e, Q w' e → ∃ b, e = .returned (.bool b)) := Lib.hid (by rw [hQ]; rintro w' e ⟨kv', vv', he, _⟩; exact ⟨_, he⟩)
  rw [← hQ] at S ⊢
  clear h hn hQ
  go_enter Try.func32, Try.ntmps32
  go_wp2_with fail
  refine A.out.mono ?_
  rintro e w1 ⟨rfl, rfl⟩
  clear A
  go_wp2_with fail
  refine S.out.mono ?_
  rintro e w1 hq
  obtain ⟨b, rfl⟩ := HR.out w1 e hq
  have HQ := Lib.hid hq
  clear S hq HR
  go_wp2_with fail
  exact HQ.out
/-- What Of leaves. -/
def IntOf (list : List Int) (w w' : World) (e : Ending) : Prop := ∃ g kv vv l, e = .returned (.pointer (some ⟨g, 0, none⟩)) ∧ IsOf list l ∧ IntSet w' w.heap.size g kv vv l ∧ Below w.heap.size w w'
set_option maxRecDepth 100000 in
theorem of_int (v : Value) (list : List Int) (w : World) (h : IntAt w v list) (hn : list.length ≤ 1000000) :
    Calls Try.prog 9 #[v] w fun e w' => IntOf list w w' e := by
  have C := Lib.hid (clone_int v list w h hn)
  obtain ⟨ao, cap, rfl, -, -, -⟩ := h
  go_enter Try.func9, Try.ntmps9
  go_wp2_with fail
  refine C.out.mono ?_
  rintro e w1 ⟨v1, rfl, hs1, hb1⟩
  have H1 := Lib.hid (And.intro hs1 hb1)
  have S := Lib.hid (sort_int _ _ list w1 hs1 hn)
  clear C hs1 hb1
  go_wp2_with fail
  refine S.out.mono ?_
  rintro e w2 ⟨rfl, hs2, hg2⟩
  obtain ⟨sl, hsl⟩ : ∃ sl, sl = (list.mergeSort fun x y => decide (x ≤ y)) := ⟨_, rfl⟩
  have hlen : sl.length = list.length := by rw [hsl]; simp
  rw [← hsl, ← hlen] at hs2
  have K := Lib.hid (compact_int _ _ sl w2 hs2 (by omega))
  have HO := Lib.hid (sorted_isOf_int list)
  rw [← hsl] at HO
  have H2 := Lib.hid (show SlIs w2 w.heap.size 3 1 v1 sl.length (icells sl) ∧ Below w.heap.size w w2 from ⟨hs2, H1.out.2.grown hg2 H1.out.2.size fun j hj => (H1.out.1.lt j hj).1⟩)
  clear S hs2 hg2 hsl
  go_wp2_with fail
  refine K.out.mono ?_
  rintro e w3 ⟨v3, rfl, hs3, hg3, ho3⟩
  obtain ⟨l, hl⟩ : ∃ l, l = Lib.compact sl := ⟨_, rfl⟩
  have hkl := Lib.compact_length_le sl
  rw [← hl] at hs3 HO hkl
  have hll : l.length ≤ 1000000 := by omega
  obtain ⟨a3, c3, rfl, -, -, -⟩ := hs3.form
  have H3 := Lib.hid (show SlIs w3 w.heap.size 3 1 (.slice a3 l.length c3) l.length (icells l) ∧ Below w.heap.size w w3 from ⟨hs3, H2.out.2.grown hg3 H2.out.2.size fun j hj => (H2.out.1.lt j hj).1⟩)
  have mk := make_unit
  have k0 : (l.length : Int) ≤ 9223372036854775807 := by omega
  have HLL := Lib.hid (And.intro hll HO.out)
  clear K hs3 hg3 ho3 hl hkl hll HO
  go_wp2_with fail
  go_ret
  refine ⟨w3.heap.size + 1, _, _, l, by simp, HLL.out.2, ⟨Nat.le_trans H3.out.2.size (by omega), BlkIs.new2 _ _ _ _, ?_, ?_, HLL.out.2.1⟩, ?_⟩
  · exact (H3.out.1.alloc _).alloc _
  · refine SlIs.alloc ⟨by simp, .inr ⟨w3.heap.size, 0, _, #[], rfl, H3.out.2.size, (BlkIs.new w3 72 #[]).toRow, Nat.le_refl _, by unfold maxLen; have := HLL.out.1; omega, by simp, fun j hj => absurd hj (Nat.not_lt_zero _)⟩⟩ _
  · exact (H3.out.2.alloc H3.out.2.size _).alloc (by simp; exact Nat.le_succ_of_le H3.out.2.size) _
end Go.Proofs.Ytckhekkdidfefaa.Set
