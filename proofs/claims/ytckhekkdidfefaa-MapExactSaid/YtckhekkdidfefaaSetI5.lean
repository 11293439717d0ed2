/- shelf: going over a set of int: Map.All, Set.All as iterators (IterOf). (Layer 08.) -/
import Derived.Test.YtckhekkdidfefaaSetI4
import Derived.Test.YtckhekkdidfefaaIter
import Derived.Shelf.Abstract
import Derived.Shelf.RegionOpen
import Derived.WalkKit
import Derived.OwnWalkIn
import Derived.TacticsInMore
import Derived.LoopNIn
import Derived.LoopIn
namespace Go.Proofs.Ytckhekkdidfefaa.Set
set_option linter.unusedVariables false
open Go.RowKit Go.Sort Go.Lib Go.Shelf
attribute [local go_sem] Oper.semAt_some
set_option maxRecDepth 100000 in
set_option maxHeartbeats 2000000 in
theorem mapAll1_int (base g B : Nat) (kv vv : Value) (l : List Int) (w : World) (h : IntSet w base g kv vv l) (hn : l.length ≤ 1000000) (hB : w.cell? ⟨B, 0, none⟩ = some (.pointer (some ⟨g, 0, none⟩))) (hBl : B < w.heap.size) :
    IterOf Try.prog 69 #[.pointer (some ⟨B, 0, none⟩)] (fun x : Int => #[Value.int .i64 x, .agg #[]]) l w := by
  intro n lp J Jx W hW hJ hJx h0 hY
  have hS := h.chg (S := fun _ => False) ⟨hW.os, hW.tape, hW.output, hW.size, fun k hk _ => hW.block k hk⟩ (fun _ _ e => e)
  have b0 : W.cell? ⟨B, 0, none⟩ = some (.pointer (some ⟨g, 0, none⟩)) := (hW.cell (p := ⟨B, 0, none⟩) hBl).trans hB
  have c1 : W.cell? ⟨g, 1, none⟩ = some vv := hS.blk.cell 1
  have C := Lib.hid (clone_unit base l.length vv W hS.vals)
  have K := Lib.hid (fun (w1 : World) (hb : Below W.heap.size W w1) => keys_int base g kv vv l w1 (hS.later hb) hn)
  obtain ⟨av, cv, rfl, -, -, -⟩ := hS.vals.form
  have hBW : B < W.heap.size := Nat.lt_of_lt_of_le hBl hW.size
  have HH := Lib.hid (And.intro h0 (And.intro hY (And.intro hJ hJx)))
  clear h0 hY hJ hJx hS h hW hB hBl
  refine callsIn_of_wp Try.func69 rfl trivial ?_ rfl
  simp only [Try.ntmps69, List.size_toArray, List.length_cons, List.length_nil, Nat.reduceAdd, Nat.reduceSub, Array.replicate_succ, Array.replicate_zero, List.push_toArray, List.append_toArray, List.nil_append, List.cons_append]
  have nod : ∀ m, Fence.wide.depth.isSome = true → 1 ≤ m := fun m h => absurd h (by decide)
  gi_wp2
  refine ⟨trivial, nod _, (callsIn_wide.2 C.out).mono ?_⟩
  rintro e w1 ⟨v1, rfl, hs1, hb1⟩
  have H1 := Lib.hid (And.intro hs1 hb1)
  obtain ⟨a1, c1', rfl, -, hm1, -⟩ := hs1.form
  have b1 : w1.cell? ⟨B, 0, none⟩ = some (.pointer (some ⟨g, 0, none⟩)) := (hb1.cell (p := ⟨B, 0, none⟩) hBW).trans b0
  clear C hs1 hb1 c1
  gi_wp2
  refine ⟨trivial, nod _, (callsIn_wide.2 (K.out w1 H1.out.2)).mono ?_⟩
  rintro e w2 ⟨v2, rfl, hs2, hb2⟩
  have H2 := Lib.hid (show SlIs w2 w1.heap.size 3 1 v2 l.length (icells l) ∧ SlIs w2 W.heap.size 72 0 (.slice a1 l.length c1') l.length [] ∧ Below W.heap.size W w2 from
    ⟨hs2, H1.out.1.later hb2, H1.out.2.trans (hb2.mono H1.out.2.size)⟩)
  have HJ0 := Lib.hid (HH.out.1 w2 (grown_of_below H2.out.2.2))
  have hz1 := H1.out.2.size
  have hz2 := H2.out.2.2.size
  have hk := H2.out.1.parts
  have hu := unit_at H2.out.2.1
  obtain ⟨B1, hB1⟩ : ∃ B1, B1 = w2.heap.size := ⟨_, rfl⟩
  rw [← hB1] at HJ0 hz2
  have HB1 := Lib.hid hB1
  clear K hs2 hb2 b1 hm1
  obtain ⟨a2, c2', rfl, -, -, -⟩ := H2.out.1.form
  gi_wp2
  gi_loopw [16] (fun i wr => ∃ k : Nat, k ≤ l.length ∧ i = .int .i64 (k : Int) ∧ Hid (J B1 (l.take k) wr ∧ KeepsMid W.heap.size B1 w2 wr)) (fun i _ => l.length - (intOf i).toNat)
  case atStart => exact ⟨0, Nat.zero_le _, rfl, Lib.hid ⟨HJ0.out, KeepsMid.refl _ _ _⟩⟩
  case round =>
    obtain ⟨k, hkl, rfl, HR⟩ := hrel
    by_cases hlt : k < l.length
    · have ki : (k : Int) < l.length := by omega
      rcases hk with ⟨_, h0⟩ | ⟨b, off, cap, hv, hbb, hblt, _, _, hx, _⟩
      · exact absurd hlt (by omega)
      injection hv with e1 e2 e3
      subst e1 e3
      rcases hu with ⟨_, h0⟩ | ⟨b3, off3, cap3, hv, hbb3, hblt3, _, _⟩
      · exact absurd hlt (by omega)
      injection hv with e1 e2 e3
      subst e1 e3
      have c2 : wr.cell? ⟨b, off + k, none⟩ = some (Value.int .i64 l[k]) := by
        rw [HR.out.2.cell (by omega) (by have := HB1.out; omega), hx k hlt, icells_get l k hlt]
      have hpre : l.take k ++ [l[k]] = l.take (k + 1) := (List.take_succ_eq_append_getElem hlt).symm
      obtain ⟨fn, tmps, assign, body, hy, hR⟩ := HH.out.2.1 B1 (l.take k) l[k] wr hz2 (Nat.le_trans (by rw [HB1.out]; exact Nat.le_refl _) HR.out.2.1) HR.out.1 (by rw [hpre]; exact List.take_prefix _ _)
      rw [hpre] at hR
      obtain ⟨y, hyy⟩ : ∃ y, y = l[k] := ⟨_, rfl⟩
      rw [← hyy] at c2 hy
      try dsimp only at hy
      clear hpre hx hyy
      gi_wp2
      refine ⟨nod _, hR.mono ?_⟩
      rintro e w4 (⟨rfl, hJ4, hk4⟩ | ⟨rfl, hJx4, -⟩)
      · have H4 := Lib.hid (And.intro hJ4 (HR.out.2.trans hk4))
        clear hR hJ4 hk4
        gi_wp2
        refine ⟨⟨k + 1, by omega, rfl, H4⟩, ?_⟩
        simp [intOf]
        omega
      · have H4 := Lib.hid hJx4
        clear hR hJx4
        gi_wp2
        refine bodyPost_ret (results_none rfl _ _ _) rfl ?_
        exact ⟨⟨_, rfl⟩, .inr ⟨_, List.take_prefix _ _, H4.out⟩⟩
    · have ki : decide ((k : Int) < l.length) = false := decide_eq_false (by omega)
      obtain rfl : k = l.length := by omega
      have HR2 := Lib.hid (show J B1 l wr from by have := HR.out.1; rwa [List.take_length] at this)
      gi_wp2
      go_end0
      exact ⟨⟨_, rfl⟩, .inl ⟨B1, hz2, HR2.out⟩⟩
theorem mapAll_int (g : Nat) (w : World) : Calls Try.prog 55 #[.pointer (some ⟨g, 0, none⟩)] w fun e w' => e = .returned (.func (.func 69) #[] #[.pointer (some ⟨w.heap.size, 0, none⟩)]) ∧ w'.cell? ⟨w.heap.size, 0, none⟩ = some (.pointer (some ⟨g, 0, none⟩)) ∧ w.heap.size < w'.heap.size ∧ Below w.heap.size w w' := by
  have k := BlkIs.new w 70 #[.pointer (some ⟨g, 0, none⟩)]
  have H := Lib.hid (And.intro (k.cell 0) (And.intro k.lt ((Below.refl w.heap.size w).alloc (Nat.le_refl _) (.cells #[.pointer (some ⟨g, 0, none⟩)] 70))))
  clear k
  go_enter Try.func55, Try.ntmps55
  go_wp2_with fail
  go_ret
  exact ⟨rfl, H.out⟩
theorem setAll_int (p : Value) (w : World) (hp : ∃ a, p = .pointer a) : Calls Try.prog 30 #[p] w fun e w' => e = .returned (.func (.func 54) #[] #[.pointer (some ⟨w.heap.size, 0, none⟩)]) ∧ w'.cell? ⟨w.heap.size, 0, none⟩ = some p ∧ w.heap.size < w'.heap.size ∧ Below w.heap.size w w' := by
  obtain ⟨a, rfl⟩ := hp
  have k := BlkIs.new w 24 #[.pointer a]
  have H := Lib.hid (And.intro (k.cell 0) (And.intro k.lt ((Below.refl w.heap.size w).alloc (Nat.le_refl _) (.cells #[.pointer a] 24))))
  clear k
  go_enter Try.func30, Try.ntmps30
  go_wp2_with fail
  go_ret
  exact ⟨rfl, H.out⟩
theorem ownFrom_mono {β : Type} {B B' : Nat} {I : β → World → Prop} (h : OwnFrom B I) (hb : B ≤ B') : OwnFrom B' I := fun s W W' row hs hg hr => h s W W' row hs hg fun r e => ⟨Nat.le_trans hb (hr r e).1, (hr r e).2⟩
theorem ownFrom_blk {β : Type} (B g : Nat) (t : TypeId) (cs : Array Value) : OwnFrom B (fun (_ : β) W => BlkIs W g t cs) := fun s W W' row hs hg hr => hs.grown hg fun e => by
  obtain ⟨_, o, ho, hc⟩ := hr g e.symm
  unfold BlkIs at hs
  rw [hs] at ho
  injection ho with ho
  subst ho
  cases hc
set_option maxRecDepth 100000 in
set_option maxHeartbeats 2000000 in
theorem setAll1_int (base g B : Nat) (kv vv : Value) (l : List Int) (w : World) (h : IntSet w base g kv vv l) (hn : l.length ≤ 1000000) (hB : w.cell? ⟨B, 0, none⟩ = some (.pointer (some ⟨g, 0, none⟩))) (hBl : B < w.heap.size) :
    IterOf Try.prog 54 #[.pointer (some ⟨B, 0, none⟩)] (fun x : Int => #[Value.int .i64 x]) l w := by
  intro n lp J Jx W hW hJ hJx h0 hY
  have hS := h.chg (S := fun _ => False) ⟨hW.os, hW.tape, hW.output, hW.size, fun k hk _ => hW.block k hk⟩ (fun _ _ e => e)
  have hBW : B < W.heap.size := Nat.lt_of_lt_of_le hBl hW.size
  have b0 : W.cell? ⟨B, 0, none⟩ = some (.pointer (some ⟨g, 0, none⟩)) := (hW.cell (p := ⟨B, 0, none⟩) hBl).trans hB
  have H0 := Lib.hid (show ∃ W1, W1 = W.alloc (.cells #[.func (.yield lp) #[] #[]] 55) ∧ BlkIs W1 W.heap.size 55 #[.func (.yield lp) #[] #[]] ∧ Below W.heap.size W W1 from ⟨_, rfl, BlkIs.new _ _ _, (Below.refl _ _).alloc (Nat.le_refl _) _⟩)
  have HS := Lib.hid hS
  have HH := Lib.hid (And.intro h0 (And.intro hY (And.intro hJ hJx)))
  have nod : ∀ m, Fence.wide.depth.isSome = true → 1 ≤ m := fun m h => absurd h (by decide)
  clear h0 hY hJ hJx hS h hW hB hBl
  refine callsIn_of_wp_marks Try.func54 rfl trivial ?_ rfl
  simp only [Try.ntmps54, List.size_toArray, List.length_cons, List.length_nil, Nat.reduceAdd, Nat.reduceSub, Array.replicate_succ, Array.replicate_zero, List.push_toArray, List.append_toArray, List.nil_append, List.cons_append]
  gi_wp2
  obtain ⟨W1, hW1, H1⟩ := H0.out
  rw [← hW1]
  have H1 := Lib.hid H1
  clear hW1 H0
  have HS1 := Lib.hid (HS.out.later H1.out.2)
  refine ⟨trivial, nod _, (callsIn_wide.2 (all_int g W1 HS1.out.blk.lt kv vv HS1.out.blk)).mono ?_⟩
  rintro e w2 ⟨rfl, rfl⟩
  gi_wp2
  refine ⟨trivial, nod _, (callsIn_wide.2 (mapAll_int g W1)).mono ?_⟩
  rintro e W2 ⟨rfl, hc2, hl2, hb2⟩
  have H2 := Lib.hid (show BlkIs W2 W.heap.size 55 #[.func (.yield lp) #[] #[]] ∧ Below W.heap.size W W2 from ⟨H1.out.1.below hb2 H1.out.1.lt, H1.out.2.trans (hb2.mono H1.out.2.size)⟩)
  have IT := mapAll1_int base g W1.heap.size kv vv l W2 (HS1.out.later hb2) hn hc2 hl2
  have hz := H2.out.2.size
  gi_wp2
  refine wp_iter rfl (enters_of Try.func69 (by kernel_rfl) rfl) IT (Below.refl _ _) (fun _ => rfl)
    (fun B' pre W' => J B' pre W' ∧ BlkIs W' W.heap.size 55 #[.func (.yield lp) #[] #[]])
    (fun c pre W' => c = .ret ∧ Jx pre W')
    (fun B' pre x a' W' => a' = { tmps := #[.func (.yield lp) #[] #[], .pointer (some ⟨B, 0, none⟩), .pointer (some ⟨W.heap.size, 0, none⟩), Value.int .i64 x, .pointer (some ⟨g, 0, none⟩), .pointer (some ⟨g, 0, none⟩), .func (.func 69) #[] #[.pointer (some ⟨W1.heap.size, 0, none⟩)], Value.int .i64 x, .agg #[], undef, undef, undef, undef], defers := [] } ∧ J B' pre W' ∧ BlkIs W' W.heap.size 55 #[.func (.yield lp) #[] #[]])
    (fun B' => (ownFrom_mono (HH.out.2.2.1 B') hz).and (ownFrom_blk _ _ _ _))
    (fun c s X Y row hs hg hr => ⟨hs.1, (ownFrom_mono HH.out.2.2.2 hz) s X Y row hs.2 hg hr⟩)
    (fun B' pre x a' s X Y row hs hg hr => ⟨hs.1, (ownFrom_mono (HH.out.2.2.1 B') hz) pre X Y row hs.2.1 hg hr, ownFrom_blk (β := Unit) _ _ _ _ () X Y row hs.2.2 hg hr⟩)
    (fun W3 hg3 => ⟨HH.out.1 W3 (grown_trans (grown_of_below H2.out.2) hg3), H2.out.1.grown hg3 (by simp)⟩) ?assign ?body ?done ?stop
  case assign =>
    intro l' B' pre x W' hB1 hB2 hi hpre
    gi_wp2
    exact ⟨KeepsMid.refl _ _ _, trivial, hi⟩
  case body =>
    rintro l' B' pre x a' W' hB1 hB2 ⟨rfl, hj, hbk⟩ hpre
    obtain ⟨fn, tmps, assign, body, hy, hR⟩ := HH.out.2.1 B' pre x W' (Nat.le_trans hz hB1) hB2 hj hpre
    have hc := hbk.cell 0
    simp only [List.getElem?_toArray, List.getElem?_cons_zero] at hc
    try dsimp only at hy
    have HB := Lib.hid (And.intro hbk (And.intro hB1 hB2))
    clear hbk hj
    gi_wp2
    refine ⟨nod _, (roundIn_wide hR).mono ?_⟩
    rintro e w4 (⟨rfl, hJ4, hk4⟩ | ⟨rfl, hJx4, hk4⟩)
    · have hbk4 : BlkIs w4 W.heap.size 55 #[.func (.yield lp) #[] #[]] := (hk4.2 W.heap.size (Nat.le_refl _) (by have := HB.out.1.lt; have := HB.out.2; have := H2.out.1.lt; omega)).trans HB.out.1
      have H4 := Lib.hid (And.intro (hk4.mono hz (Nat.le_refl B')) (And.intro hJ4 hbk4))
      clear hR hJ4 hk4 hbk4
      gi_wp2
      exact H4.out
    · have H4 := Lib.hid (And.intro (hk4.mono hz (Nat.le_refl B')) hJx4)
      clear hR hJx4 hk4
      gi_wp2
      exact ⟨H4.out.1, rfl, H4.out.2⟩
  case done =>
    rintro D B' W' hD hB1 ⟨hj, hbk⟩ hK
    have HJ := Lib.hid ((HH.out.2.2.1 B').putObj (.deferred none) hj (Nat.le_trans hz hD) hK rfl)
    have HB := Lib.hid (Nat.le_trans hz hB1)
    clear hj hbk
    gi_wp2
    refine ⟨by simp, .inl ⟨_, _, rfl, run_takeDeferred hK, ?_⟩⟩
    exact ⟨_, results_none rfl _ _ _, ⟨_, rfl⟩, .inl ⟨B', HB.out, HJ.out⟩⟩
  case stop =>
    rintro D c pre W' hD hpre ⟨rfl, hjx⟩ hK
    have HJ := Lib.hid (HH.out.2.2.2.putObj (.deferred none) hjx (Nat.le_trans hz hD) hK rfl)
    clear hjx
    gi_wp2
    refine ⟨by simp, .inl ⟨_, _, rfl, run_takeDeferred hK, ?_⟩⟩
    exact ⟨_, results_none rfl _ _ _, ⟨_, rfl⟩, .inr ⟨pre, hpre, HJ.out⟩⟩
end Go.Proofs.Ytckhekkdidfefaa.Set
