/- shelf.Map[string, int]: going over it: All as an iterator (IterOf) of pairs. (Layer 08.) -/
import Derived.Test.YtckhekkdidfefaaSetP3
import Derived.Test.YtckhekkdidfefaaSetI5
namespace Go.Proofs.Ytckhekkdidfefaa.Set
set_option linter.unusedVariables false
open Go.RowKit Go.Sort Go.Lib Go.Shelf
attribute [local go_sem] Oper.semAt_some
theorem vs_len (L : Row) : (vs L).length = L.length := by simp [vs]
set_option maxRecDepth 100000 in
set_option maxHeartbeats 2000000 in
theorem mapAll1_p (base g B : Nat) (kv vv : Value) (L : Row) (w : World) (h : SMap w base g kv vv L) (hn : L.length ≤ 1000000) (hB : w.cell? ⟨B, 0, none⟩ = some (.pointer (some ⟨g, 0, none⟩))) (hBl : B < w.heap.size) :
    IterOf Try.prog 68 #[.pointer (some ⟨B, 0, none⟩)] (fun x : ByteArray × Int => #[.string x.1, .int .i64 x.2]) L w := by
  intro n lp J Jx W hW hJ hJx h0 hY
  have hS := h.chg (S := fun _ => False) ⟨hW.os, hW.tape, hW.output, hW.size, fun k hk _ => hW.block k hk⟩ (fun _ _ e => e)
  have b0 : W.cell? ⟨B, 0, none⟩ = some (.pointer (some ⟨g, 0, none⟩)) := (hW.cell (p := ⟨B, 0, none⟩) hBl).trans hB
  have c1 : W.cell? ⟨g, 1, none⟩ = some vv := hS.blk.cell 1
  have C := Lib.hid (clone_int vv (vs L) W (IntAt.of_sl (by rw [vs_len]; exact hS.vals)) (by rw [vs_len]; exact hn))
  have K := Lib.hid (fun (w1 : World) (hb : Below W.heap.size W w1) => map_keys base g kv vv L w1 (hS.later hb) hn)
  obtain ⟨av, cv, rfl, -, -, -⟩ := hS.vals.form
  have hBW : B < W.heap.size := Nat.lt_of_lt_of_le hBl hW.size
  have HH := Lib.hid (And.intro h0 (And.intro hY (And.intro hJ hJx)))
  clear h0 hY hJ hJx hS h hW hB hBl
  refine callsIn_of_wp Try.func68 rfl trivial ?_ rfl
  simp only [Try.ntmps68, List.size_toArray, List.length_cons, List.length_nil, Nat.reduceAdd, Nat.reduceSub, Array.replicate_succ, Array.replicate_zero, List.push_toArray, List.append_toArray, List.nil_append, List.cons_append]
  have nod : ∀ m, Fence.wide.depth.isSome = true → 1 ≤ m := fun m h => absurd h (by decide)
  gi_wp2
  refine ⟨trivial, nod _, (callsIn_wide.2 C.out).mono ?_⟩
  rintro e w1 ⟨v1, rfl, hs1, hb1⟩
  rw [vs_len] at hs1
  have H1 := Lib.hid (And.intro hs1 hb1)
  obtain ⟨a1, c1', rfl, -, hm1, -⟩ := hs1.form
  have b1 : w1.cell? ⟨B, 0, none⟩ = some (.pointer (some ⟨g, 0, none⟩)) := (hb1.cell (p := ⟨B, 0, none⟩) hBW).trans b0
  clear C hs1 hb1 c1
  gi_wp2
  refine ⟨trivial, nod _, (callsIn_wide.2 (K.out w1 H1.out.2)).mono ?_⟩
  rintro e w2 ⟨v2, rfl, hs2, hb2⟩
  have H2 := Lib.hid (show SlIs w2 w1.heap.size 9 1 v2 L.length (scells (ks L)) ∧ SlIs w2 W.heap.size 3 1 (.slice a1 L.length c1') L.length (icells (vs L)) ∧ Below W.heap.size W w2 from
    ⟨hs2, H1.out.1.later hb2, H1.out.2.trans (hb2.mono H1.out.2.size)⟩)
  have HJ0 := Lib.hid (HH.out.1 w2 (grown_of_below H2.out.2.2))
  have hz1 := H1.out.2.size
  have hz2 := H2.out.2.2.size
  have hk := H2.out.1.parts
  have hu := H2.out.2.1.parts
  obtain ⟨B1, hB1⟩ : ∃ B1, B1 = w2.heap.size := ⟨_, rfl⟩
  rw [← hB1] at HJ0 hz2
  have HB1 := Lib.hid hB1
  clear K hs2 hb2 b1 hm1
  obtain ⟨a2, c2', rfl, -, -, -⟩ := H2.out.1.form
  gi_wp2
  gi_loopw [16] (fun i wr => ∃ k : Nat, k ≤ L.length ∧ i = .int .i64 (k : Int) ∧ Hid (J B1 (L.take k) wr ∧ KeepsMid W.heap.size B1 w2 wr)) (fun i _ => L.length - (intOf i).toNat)
  case atStart => exact ⟨0, Nat.zero_le _, rfl, Lib.hid ⟨HJ0.out, KeepsMid.refl _ _ _⟩⟩
  case round =>
    obtain ⟨k, hkl, rfl, HR⟩ := hrel
    by_cases hlt : k < L.length
    · have ki : (k : Int) < L.length := by omega
      rcases hk with ⟨_, h0⟩ | ⟨b, off, cap, hv, hbb, hblt, _, _, hx, _⟩
      · exact absurd hlt (by omega)
      injection hv with e1 e2 e3
      subst e1 e3
      rcases hu with ⟨_, h0⟩ | ⟨b3, off3, cap3, hv, hbb3, hblt3, _, _, hx3, _⟩
      · exact absurd hlt (by omega)
      injection hv with e1 e2 e3
      subst e1 e3
      have c2 : wr.cell? ⟨b, off + k, none⟩ = some (.string L[k].1) := by
        rw [HR.out.2.cell (by omega) (by have := HB1.out; omega), hx k hlt, scells_get (ks L) k (by rw [ks_len]; exact hlt), List.getElem_map]
      have c3 : wr.cell? ⟨b3, off3 + k, none⟩ = some (.int .i64 L[k].2) := by
        rw [HR.out.2.cell (by omega) (by have := HB1.out; omega), hx3 k hlt, icells_get (vs L) k (by rw [vs_len]; exact hlt), List.getElem_map]
      have hpre : L.take k ++ [L[k]] = L.take (k + 1) := (List.take_succ_eq_append_getElem hlt).symm
      obtain ⟨fn, tmps, assign, body, hy, hR⟩ := HH.out.2.1 B1 (L.take k) L[k] wr hz2 (Nat.le_trans (by rw [HB1.out]; exact Nat.le_refl _) HR.out.2.1) HR.out.1 (by rw [hpre]; exact List.take_prefix _ _)
      rw [hpre] at hR
      obtain ⟨y, hyy⟩ : ∃ y, y = L[k] := ⟨_, rfl⟩
      rw [← hyy] at c2 c3 hy
      obtain ⟨y1, y2⟩ := y
      dsimp only at c2 c3 hy
      clear hpre hx hx3 hyy
      gi_wp2
      refine ⟨nod _, hR.mono ?_⟩
      rintro e w4 (⟨rfl, hJ4, hk4⟩ | ⟨rfl, hJx4, -⟩)
      · have H4 := Lib.hid (And.intro hJ4 (HR.out.2.trans hk4))
        clear hR hJ4 hk4
        gi_wp2
        refine ⟨⟨k + 1, by omega, rfl, H4⟩, ?_⟩
        simp [intOf]
        omega
      · have H4 := Lib.hid hJx4
        clear hR hJx4
        gi_wp2
        refine bodyPost_ret (results_none rfl _ _ _) rfl ?_
        exact ⟨⟨_, rfl⟩, .inr ⟨_, List.take_prefix _ _, H4.out⟩⟩
    · have ki : decide ((k : Int) < L.length) = false := decide_eq_false (by omega)
      obtain rfl : k = L.length := by omega
      have HR2 := Lib.hid (show J B1 L wr from by have := HR.out.1; rwa [List.take_length] at this)
      gi_wp2
      go_end0
      exact ⟨⟨_, rfl⟩, .inl ⟨B1, hz2, HR2.out⟩⟩
theorem mapAll_p (g : Nat) (w : World) : Calls Try.prog 52 #[.pointer (some ⟨g, 0, none⟩)] w fun e w' => e = .returned (.func (.func 68) #[] #[.pointer (some ⟨w.heap.size, 0, none⟩)]) ∧ w'.cell? ⟨w.heap.size, 0, none⟩ = some (.pointer (some ⟨g, 0, none⟩)) ∧ w.heap.size < w'.heap.size ∧ Below w.heap.size w w' := by
  have k := BlkIs.new w 33 #[.pointer (some ⟨g, 0, none⟩)]
  have H := Lib.hid (And.intro (k.cell 0) (And.intro k.lt ((Below.refl w.heap.size w).alloc (Nat.le_refl _) (.cells #[.pointer (some ⟨g, 0, none⟩)] 33))))
  clear k
  go_enter Try.func52, Try.ntmps52
  go_wp2_with fail
  go_ret
  exact ⟨rfl, H.out⟩
end Go.Proofs.Ytckhekkdidfefaa.Set
