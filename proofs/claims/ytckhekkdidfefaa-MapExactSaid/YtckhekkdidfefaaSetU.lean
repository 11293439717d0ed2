/- Slices of struct{}: slices.Clone and slices.Insert, walked. (Layer 08.) -/
import Derived.Test.YtckhekkdidfefaaProg
import Derived.Test.YtckhekkdidfefaaSlOps
import Derived.Laws.Externs
import Derived.Shelf.Spec.SlicesInsert
import Derived.Lib.AppendZeros
import Derived.Lib.SliceRun
import Derived.Laws.MakeOwn
import Derived.Lib.Hide
import Derived.WalkKit
import Derived.BigQuiet
import Derived.Deep.CutRange
namespace Go.Proofs.Ytckhekkdidfefaa.Set
set_option linter.unusedVariables false
open Go.RowKit Go.Sort Go.Lib
theorem el_unit : ElemOk Try.prog 65 72 0 0 := ElemOk.mk' (z := .agg #[]) Try.underlying65 (by kernel_rfl) rfl
theorem info_unit : (Try.prog.info? 72).map (fun i => (i.zero, i.size, i.bytes)) = some (some (.agg #[]), 0, 0) := by kernel_rfl
/-- A slice of nothings: of its row only the length counts. -/
theorem unit_at {w : World} {base n : Nat} {v : Value} (h : SlIs w base 72 0 v n []) : (v = .slice none 0 0 ∧ n = 0) ∨ ∃ g off cap, v = .slice (some ⟨g, off, none⟩) n cap ∧ base ≤ g ∧ g < w.heap.size ∧ n ≤ cap ∧ cap ≤ maxLen := by
  rcases h.2 with h0 | ⟨g, off, cap, cur, rfl, hg, hh, hc, hm, _⟩
  · exact .inl h0
  · exact .inr ⟨g, off, cap, rfl, hg, hh.lt, hc, hm⟩
theorem unit_cut {w : World} {base n g off cap : Nat} (h : SlIs w base 72 0 (.slice (some ⟨g, off, none⟩) n cap) n []) (m c : Nat) (hm : m ≤ c) (hc : c ≤ cap) : SlIs w base 72 0 (.slice (some ⟨g, off, none⟩) m c) m [] := by
  rcases h.2 with h0 | ⟨g', off', cap', cur, hv, hg, hh, hc', hm', hs, _⟩
  · cases h0.1
  · injection hv with e1 e2 e3
    injection e1 with e1
    injection e1 with e1 e4
    subst e1 e3 e4
    exact ⟨by simp, .inr ⟨g, off, c, cur, rfl, hg, hh, hm, by omega, by omega, fun j hj => absurd hj (Nat.not_lt_zero _)⟩⟩
theorem first_unit (w : World) (n : Nat) (v : Value) (h : v = .slice none 0 0 ∨ ∃ a m c, v = .slice (some a) m c) : (Builtin.firstCells 0 n v).run Try.prog w = .ok #[] w := by
  rcases h with rfl | ⟨a, m, c, rfl⟩
  · simp [Builtin.firstCells]
  · exact run_firstCells_some w 0 n a m c [] (by simp) (fun j v hj => by simp at hj)
theorem copy_unit (w : World) (ty : TypeId) (a b : Option Addr) (n m c d : Nat) : (Builtin.copy_ #[65, 65] ty #[.slice a n c, .slice b m d]).run Try.prog w = .ok (goInt (Nat.min m n)) w := by
  obtain ⟨i, hi, h0, h1, h2⟩ := info_parts info_unit
  have hf : (Builtin.firstCells 0 (Nat.min m n) (.slice b m d)).run Try.prog w = .ok #[] w := by
    cases b with
    | none => simp [Builtin.firstCells]
    | some b => exact run_firstCells_some w 0 _ b m d [] (by simp) (fun j v hj => by simp at hj)
  cases a <;> simp [Builtin.copy_, run_underlying Try.underlying65, Builtin.lenOf, sizeOf, typeInfo, hi, h1, hf, storeCells]
theorem zeros_unit (w : World) (ty : TypeId) (a : Addr) (i cap k : Nat) (h0 : 0 < k) (hg : cap < i + k) (h63 : ((i + k : Nat) : Int) ≤ 9223372036854775807) :
    (Builtin.append_ #[65, 3] ty #[.slice (some a) i cap, .int .i64 k]).run Try.prog w = .ok (.slice (some ⟨w.heap.size, 0, none⟩) (i + k) (grownCap w (i + k) cap 72)) (w.drew.alloc (.cells #[] 72)) := by
  obtain ⟨t, hi, z0, z1, z2⟩ := info_parts info_unit
  have hk : k ≠ 0 := by omega
  have hw : IntKind.i64.wrap (k : Int) = k := by rw [IntKind.wrap_i64]; omega
  have hn : ¬ (i + k ≤ cap) := by omega
  have h63' : ¬ (9223372036854775807 < ((i : Int) + (k : Int))) := by omega
  have hneg : ¬ ((k : Int) < 0) := by omega
  have hf := first_unit w.drew i (.slice (some a) i cap) (Or.inr ⟨a, i, cap, rfl⟩)
  have hzc : ∀ n, Builtin.zeroCells #[] n = #[] := fun n => by simp [Builtin.zeroCells]
  simp [Builtin.append_, run_underlying Try.underlying65, run_underlying Try.underlying3, sizeOf, typeInfo, zeroValue, hi, z0, z1, z2, asInt, asIntOf, hw, hn, hneg, h63', Question.forced, hf, newRow, grownCap, Value.cells, hzc]
set_option maxRecDepth 100000 in
theorem clone_unit (base n : Nat) (v : Value) (w : World) (h : SlIs w base 72 0 v n []) :
    Calls Try.prog 70 #[v] w fun e w' => ∃ v', e = .returned v' ∧ SlIs w' w.heap.size 72 0 v' n [] ∧ Below w.heap.size w w' := by
  have q : ∀ (w : World) (a : Option Addr) (n c n' c' : Nat), (binOp .eql 65 (.slice a n c) (.slice none n' c')).run Try.prog w = .ok (.bool a.isNone) w := fun w a n c n' c' => Lib.run_eql_slice_nil w _ _ a n c n' c' Try.underlying65
  have H := Lib.hid h
  rcases unit_at h with ⟨rfl, rfl⟩ | ⟨g, off, cap, rfl, hg, hlt, hc, hm⟩
  · clear h
    go_enter Try.func70, Try.ntmps70
    go_wp2_with fail
    go_ret
    exact ⟨_, rfl, SlIs.nil_ _ _ _ _, Below.refl _ _⟩
  · clear h
    have HM := Lib.hid hm
    have hc2 : n ≤ maxLen := Nat.le_trans hc hm
    have HC := Lib.hid hc2
    clear hc hm hg hlt hc2
    go_enter Try.func70, Try.ntmps70
    go_wp2_with (at_builtin
                 refine wpList_append_sl (base := w.heap.size) rfl _ _ _ 65 rfl el_unit (.slice (some ⟨w.heap.size, 0, none⟩) 0 0) 0 [] rfl (SlIs.made (n := 0) (size := 0) (BlkIs.new _ _ _) (Nat.le_refl _) rfl (by decide)) _ n [] rfl (SrcIs.own Try.underlying65 (H.out.alloc _)) (fun u hu => by cases hu) (by rw [Nat.zero_add]; exact HC.out) (by simp) (by simp) ?_
                 intro v' w' hs1 hg1 hat1
                 have hb := ((Below.refl w.heap.size w).alloc (Nat.le_refl _) (.cells #[] 72)).grown hg1 (by simp) fun j hj => by simp [Value.ownBlock] at hj; omega
                 rw [Nat.zero_add] at hs1
                 have H1 := Lib.hid (And.intro hs1 hb)
                 clear hs1 hb hg1 hat1)
    go_ret
    exact ⟨_, rfl, H1.out.1, H1.out.2⟩
set_option maxRecDepth 100000 in
theorem overlaps_unit (a b : Addr) (n m c d : Nat) (w : World) : (callFunc 90 #[.slice (some a) n c, .slice (some b) m d]).run Try.prog w = .ok (.value (.bool false)) w := by
  rw [run_callFunc_extern Try.func90 (by kernel_rfl) (by kernel_rfl) (by kernel_rfl) (e := Extern.SlicesOverlaps.overlaps #[65, 65] #[4]) (by kernel_rfl)]
  have hz := Try.sizeOf72
  have e : (Extern.SlicesOverlaps.overlaps #[65, 65] #[4] #[.slice (some a) n c, .slice (some b) m d]).run Try.prog w = .ok (.bool false) w := by
    change Sem.run Try.prog (α := Value) (do
      let some t := (#[65, 65] : Array TypeId)[0]? | stuck "slices.overlaps: no parameter types"
      let .slice elem ← underlying t | stuck "slices.overlaps: slice type expected"
      let size ← sizeOf elem
      match (some a : Option Addr), (some b : Option Addr) with
      | some a, some b =>
        if n = 0 ∨ m = 0 ∨ size = 0 then pure (Value.bool false)
        else if a.block != b.block && (← frozen a) && (← frozen b) then unsupported .addressObserved
        else do
          if a.block != b.block then do
            noView a; noView b
            if ← mayBeOne a b then return Value.bool ((← choose (.extern "sameAddr.stringBytes" 2)) == 1)
          pure (Value.bool (a.block == b.block && a.off < b.off + m * size && b.off < a.off + n * size))
      | _, _ => pure (Value.bool false)) w = _
    simp [run_underlying Try.underlying65, hz]
  rw [e]
  rfl
/-- What Insert of one nothing leaves. -/
def InsU (base n : Nat) (v : Value) (w w' : World) (e : Ending) : Prop :=
  ∃ v', e = .returned v' ∧ SlIs w' base 72 0 v' (n + 1) [] ∧ w.grownBy w' v.ownBlock ∧ (v'.ownBlock = v.ownBlock ∨ v'.ownBlock = some w.heap.size)
set_option maxRecDepth 100000 in
set_option maxHeartbeats 1000000 in
theorem insert_unit (base n i : Nat) (v : Value) (vb : Nat) (w : World) (h : SlIs w base 72 0 v n []) (hi : i ≤ n) (hn : n + 1 ≤ maxLen) (hb : base ≤ w.heap.size) (ha : BlkIs w vb 72 #[]) :
    Calls Try.prog 72 #[v, .int .i64 (i : Int), .slice (some ⟨vb, 0, none⟩) 1 1] w fun e w' => InsU base n v w w' e := by
  have hm63 : (n : Int) + 1 ≤ 9223372036854775807 := by unfold maxLen at hn; omega
  have HA := Lib.hid (SlIs.made (base := 0) (n := 1) (size := 0) ha (Nat.zero_le _) rfl (by decide))
  have H := Lib.hid h
  have HN := Lib.hid (And.intro hn hb)
  by_cases hin : i = n
  · subst hin
    have k0 : ((i : Int) == (i : Int)) = true := by simp
    obtain ⟨a, cap, rfl, hf⟩ : ∃ a cap, v = .slice a i cap ∧ i ≤ cap := by
      rcases unit_at h with ⟨rfl, rfl⟩ | ⟨g, off, cap, rfl, _, _, hc, _⟩
      · exact ⟨none, 0, rfl, Nat.le_refl _⟩
      · exact ⟨_, cap, rfl, hc⟩
    have k1 : (i : Int) ≤ cap := by omega
    clear h hn hb ha hi hf
    go_enter Try.func72, Try.ntmps72
    go_wp2_with (at_builtin
                 refine wpList_append_sl (base := base) rfl _ _ _ 65 rfl el_unit (.slice a i cap) i [] rfl H.out _ 1 [] rfl (SrcIs.own Try.underlying65 HA.out) (fun u hu => by cases hu) HN.out.1 (by simp) HN.out.2 ?_
                 intro v' w' hs1 hg1 hat1
                 have H1 := Lib.hid (And.intro hs1 (And.intro hg1 hat1))
                 clear hs1 hg1 hat1)
    go_ret
    exact ⟨_, rfl, H1.out⟩
  have hlt : i < n := by omega
  rcases unit_at h with ⟨rfl, rfl⟩ | ⟨g, off, cap, rfl, hg, hgl, hc, hm⟩
  · exact absurd hlt (Nat.not_lt_zero _)
  have k0 : ((i : Int) == (n : Int)) = false := by rw [beq_eq_false_iff_ne]; omega
  have k1 : (i : Int) ≤ n := by omega
  have k2 : (n : Int) ≤ cap := by omega
  have k3 : (i : Int) ≤ cap := by omega
  have HM := Lib.hid (And.intro hm (And.intro hc hlt))
  by_cases hroom : n + 1 ≤ cap
  · have k4 : decide ((cap : Int) < (n : Int) + 1) = false := decide_eq_false (by omega)
    have k5 : (n : Int) + 1 ≤ cap := by omega
    have k6 : (i : Int) + 1 ≤ (n : Int) + 1 := by omega
    have k7 : (i : Int) ≤ (n : Int) + 1 := by omega
    have kw : IntKind.i64.wrap ((i : Int) + 1) = (i : Int) + 1 := by rw [IntKind.wrap_i64]; omega
    have HS := Lib.hid (show SlIs w.drew base 72 0 (.slice (some ⟨g, off, none⟩) (n + 1) cap) (n + 1) [] from unit_cut h (n + 1) cap hroom (Nat.le_refl _) |> fun h => h)
    have ov := overlaps_unit
    have mixed : Try.prog.follows .mixedOrders = true := by kernel_rfl
    clear h hn hb ha hg hgl hc hm hin hlt
    go_enter Try.func72, Try.ntmps72
    go_wp2_with (simp only [ov])
    have cp := copy_unit
    have t1 : ((n : Int) + 1 - ((i : Int) + 1)).toNat = n - i := by omega
    have t2 : ((n : Int) + 1 - (i : Int)).toNat = n + 1 - i := by omega
    have hck : ¬ cap = i := by have := HM.out; omega
    have b0 : (0 : Int) ≤ (i : Int) + 1 := by omega
    go_region_law (refine step_copy_runI rfl _ _ 65 65 rfl _ _ (by simp [Act.eval, Act.put]) (by simp [Act.eval, Act.put]) (copy_unit _ _ _ _ _ _ _ _) ?_)
    go_wp2_with (at_builtin; refine wpList_copy_runI _ rfl _ _ 65 65 rfl _ _ rfl rfl (copy_unit _ _ _ _ _ _ _ _) ?_)
    go_ret
    exact ⟨_, rfl, HS.out, drewN_grown w 1 _, Or.inl rfl⟩
  · have k4 : decide ((cap : Int) < (n : Int) + 1) = true := decide_eq_true (by omega)
    have kw : (n : Int) + 1 - (i : Int) = ((n + 1 - i : Nat) : Int) := by omega
    have hz := fun ty => zeros_unit w ty ⟨g, off, none⟩ i cap (n + 1 - i) (by omega) (by omega) (by omega)
    rw [show i + (n + 1 - i) = n + 1 by omega, ← kw] at hz
    have hge := grownCap_ge w (n + 1) cap 72
    have hle := grownCap_le_maxLen w (n + 1) cap 72 hn
    obtain ⟨C, hC⟩ : ∃ C, C = grownCap w (n + 1) cap 72 := ⟨_, rfl⟩
    rw [← hC] at hz hge hle
    have HC := Lib.hid (And.intro hge (And.intro hle (And.intro hb hn)))
    have g1 : (n : Int) + 1 ≤ C := by omega
    have g2 : (i : Int) ≤ (n : Int) + 1 := by omega
    have g3 : (i : Int) + 1 ≤ (n : Int) + 1 := by omega
    have kw1 : IntKind.i64.wrap ((i : Int) + 1) = (i : Int) + 1 := by rw [IntKind.wrap_i64]; omega
    have b0 : (0 : Int) ≤ (i : Int) + 1 := by omega
    have mixed : Try.prog.follows .mixedOrders = true := by kernel_rfl
    have t1 : ((n : Int) + 1 - ((i : Int) + 1)).toNat = n - i := by omega
    have t2 : ((n : Int) + 1 - (i : Int)).toNat = n + 1 - i := by omega
    have hck : ¬ cap = i := by have := HM.out; omega
    have hck2 : ¬ C = i := by omega
    clear h hn hb ha hg hgl hc hm hin hlt hC hge hle kw
    go_enter Try.func72, Try.ntmps72
    have cp := copy_unit
    go_wp2_with (at_builtin; refine wpList_append_run w rfl _ _ 65 3 rfl _ _ rfl rfl _ _ (hz _) ?_)
    go_region_law (refine step_copy_runI rfl _ _ 65 65 rfl _ _ (by simp [Act.eval, Act.put]) (by simp [Act.eval, Act.put]) (copy_unit _ _ _ _ _ _ _ _) ?_)
    go_wp2_with fail
    go_ret
    refine ⟨_, rfl, ⟨by simp, .inr ⟨w.heap.size, 0, C, #[], rfl, HC.out.2.2.1, (BlkIs.new w 72 #[]).toRow, HC.out.1, HC.out.2.1, by simp, fun j hj => absurd hj (Nat.not_lt_zero _)⟩⟩, ?_, Or.inr rfl⟩
    exact grown_then (World.grownBy_alloc w _ _) (drewN_grown _ 2 _)
theorem make_unit (w : World) (n : Nat) (h : (n : Int) ≤ 9223372036854775807) : (Instr.makeSlice 65 (.int .i64 (n : Int)) (.int .i64 (n : Int))).run Try.prog w = .ok (.slice (some ⟨w.heap.size, 0, none⟩) n n) (w.alloc (.cells #[] 72)) := by
  obtain ⟨t, hi, z0, z1, z2⟩ := info_parts info_unit
  have hw : IntKind.i64.wrap (n : Int) = n := by rw [IntKind.wrap_i64]; omega
  have hneg : ¬ ((n : Int) < 0) := by omega
  simp [Instr.makeSlice, run_underlying Try.underlying65, asInt, asIntOf, typeInfo, sizeOf, hi, z1, z2, hw, hneg, newRow, Array.range_zero']
end Go.Proofs.Ytckhekkdidfefaa.Set
