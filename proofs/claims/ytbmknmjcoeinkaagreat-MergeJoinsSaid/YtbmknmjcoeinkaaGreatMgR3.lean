/- The reference's acks, walked: rising numbers with one more. Printed by gen_mgacks.py. (Layer 13.) -/
import Derived.Test.YtbmknmjcoeinkaaGreatMgR1
namespace Go.Proofs.YtbmknmjcoeinkaaGreat.Mg
set_option linter.unusedVariables false
set_option linter.unusedSimpArgs false
open Go.RowKit Go.Lib
open Mk (vInt)
open Set (El)
def idI (n : Int) : Int := n
def idM (x _y : Int) : Option Int := some x
theorem idM_key (x y z : Int) (h : idM x y = some z) (_he : idI x = idI y) : idI z = idI x := by
  unfold idM at h
  rw [Option.some.inj h]
theorem join_ids {l o : List Int} {n : Int} (h : JoinIs idI idM l [n] o) : sortU (l ++ [n]) = o := by
  refine sortU_eq h.1 fun x => ?_
  have h1 := h.2 x
  rw [gk_one] at h1
  rw [List.mem_append, List.mem_singleton]
  have hm : x ∈ o ↔ gk idI o x = some x := by rw [gk_iff (rk_uk h.1)]; exact ⟨fun h => ⟨h, rfl⟩, fun h => h.1⟩
  rw [hm]
  cases ea : gk idI l x with
  | none =>
    rw [ea] at h1
    by_cases e : idI n = x
    · rw [if_pos e] at h1
      have h2 : some n = gk idI o x := Option.some.inj h1
      rw [← h2]
      exact ⟨fun _ => .inr e.symm, fun _ => by rw [show n = x from e]⟩
    · rw [if_neg e] at h1
      have h2 : none = gk idI o x := Option.some.inj h1
      rw [← h2]
      exact ⟨(fun h => by cases h), fun h => h.elim (fun h => absurd rfl (gk_none.1 ea x h)) fun h => absurd h.symm e⟩
  | some u =>
    obtain ⟨hu, hux⟩ := gk_some ea
    have hux : u = x := hux
    subst hux
    rw [ea] at h1
    have h2 : gk idI o u = some u := by
      by_cases e : idI n = u
      · rw [if_pos e] at h1
        exact (Option.some.inj h1).symm
      · rw [if_neg e] at h1
        exact (Option.some.inj h1).symm
    exact ⟨fun _ => .inl hu, fun _ => h2⟩
/-- Where the reference stands that lays numbers anew. -/
structure RiSt (w : World) (v : Value) (n : Nat) (o : List Int) (wr : World) : Prop where
  below : Below w.heap.size w wr
  sl : SlIs wr w.heap.size 3 1 v n (rowCells vInt o)
  len : n = o.length
theorem RiSt.app {w wr w' : World} {v v' : Value} {n : Nat} {o : List Int} (h : RiSt w v n o wr) {y : Int} {ob : Obj} (hs : SlIs w' w.heap.size 3 1 v' (n + 1) (rowCells vInt o ++ [.int .i64 y])) (hg : (wr.alloc ob).grownBy w' v.ownBlock) : RiSt w v' (n + 1) (o ++ [y]) w' :=
  ⟨(h.below.alloc h.below.size ob).grown hg (by have := h.below.size; simp; omega) (fun j hj => (h.sl.lt j hj).1), by rw [rowCells_app, rowCells_one]; exact hs, by rw [List.length_append, List.length_singleton, ← h.len]⟩
set_option maxRecDepth 100000 in
set_option maxHeartbeats 8000000 in
theorem racks_any (v : Value) (l : List Int) (x : Int) (w : World) (h : RowAt 1 vInt w v l) (hr : l.Pairwise El.lt) (hn : l.length ≤ 1000000) :
    Calls Tryz.prog 46 #[v, .int .i64 x] w fun e w' => ∃ v', e = .returned v' ∧ ((v' = v ∧ sortU (l ++ [x]) = l) ∨ SlIs w' w.heap.size 3 1 v' (sortU (l ++ [x])).length (rowCells vInt (sortU (l ++ [x])))) ∧ Below w.heap.size w w' := by
  have HH := Lib.hid (And.intro h hr)
  obtain ⟨lo, lc, rfl, -, -⟩ := h.form
  obtain ⟨n0, hn0⟩ : ∃ n, n = l.length := ⟨_, rfl⟩
  rw [← hn0] at HH hn ⊢
  have HN := Lib.hid hn0
  have HL0 := Lib.hid (show RiSt w (.slice (some ⟨w.heap.size, 0, none⟩) 0 0) 0 [] (w.alloc (.cells #[] 3)) from
    ⟨(Below.refl _ _).alloc (Nat.le_refl _) _, SlIs.made (cs := #[]) (BlkIs.new _ _ _) (Nat.le_refl _) rfl (by decide), rfl⟩)
  clear h hr hn0
  go_enter Tryz.func46, Tryz.ntmps46
  go_wp2_with fail
  go_loopw [5, 6, 7] (fun p q i wr => ∃ (k n c : Nat) (put : Bool) (ao : Option Addr) (o : List Int), p = .slice ao n c ∧ q = .bool put ∧ i = .int .i64 (k : Int) ∧ k ≤ n0 ∧ (put = false → n ≤ k) ∧ n ≤ k + 1 ∧ Hid (RiSt w (.slice ao n c) n o wr) ∧ Hid (PutAt idI idM l x k o put)) (fun _ _ i _ => ((n0 : Int) - intOf i).toNat)
  case atStart => exact ⟨0, 0, 0, false, _, [], rfl, rfl, rfl, Nat.zero_le _, fun _ => Nat.le_refl _, by omega, HL0, Lib.hid (PutAt.start idI idM l x)⟩
  case round =>
    obtain ⟨k, n, c, put, ao, o, rfl, rfl, rfl, hkn, hpn, hnk, HL, HP⟩ := hrel
    clear HL0
    rcases Nat.lt_or_ge k n0 with hlt | hge
    · have ki : (k : Int) < n0 := by omega
      have kw : IntKind.i64.wrap ((k : Int) + 1) = ((k + 1 : Nat) : Int) := IntWalk.i64_in _ (by omega)
      have hkl : k < l.length := by have := HN.out; omega
      obtain ⟨g, off, hag, hgl, hc⟩ := HH.out.1.at_ (by omega)
      subst hag
      obtain ⟨y, hy⟩ : ∃ y, y = l[k] := ⟨_, rfl⟩
      have HU := Lib.hid (show w.cell? ⟨g, off + k, none⟩ = some (.int .i64 y) from by rw [hy]; have h1 := hc k hkl 0 _ rfl; rwa [Nat.mul_one, Nat.add_zero] at h1)
      have HGL := Lib.hid hgl
      have HY := Lib.hid hy
      clear hc hy hgl
      have u : wr.cell? ⟨g, off + k, none⟩ = some (.int .i64 y) := (HL.out.below.cell (p := ⟨g, off + k, none⟩) HGL.out).trans HU.out
      by_cases hxy : y = x
      · subst hxy
        go_wp2_with fail
        go_ret
        refine ⟨_, rfl, .inl ⟨rfl, ?_⟩, HL.out.below⟩
        exact sortU_eq (l := l ++ [y]) (m := l) HH.out.2 fun z => by
          rw [List.mem_append, List.mem_singleton]
          exact ⟨.inl, fun h => h.elim id fun h => by rw [h, HY.out]; exact List.getElem_mem hkl⟩
      have hxy2 : (y == x) = false := by simpa using hxy
      have HNE := Lib.hid (show idI l[k] ≠ idI x from fun h => hxy (by rw [HY.out]; exact h))
      cases put with
      | true =>
        have HP := Lib.hid (PutAt.on idM_key HH.out.2 HP.out hkl HNE.out)
        rw [← HY.out] at HP
        have HXY := Lib.hid hxy
        clear hxy
        go_wp2_with (at_builtin; refine wpList_append_sl rfl _ _ _ 41 (by rfl) Set.el_int (base := w.heap.size) (.slice ao (n) c) (n) (rowCells vInt (o)) (by rfl) (HL.out.sl.alloc _) _ 1 [.int .i64 y] (by rfl) (SrcIs.own Tryz.underlying41 (SlIs.made (base := 0) (BlkIs.new _ _ _) (Nat.zero_le _) rfl (by decide))) (by intro u hu; simp at hu; rcases hu with rfl; rfl) (by unfold maxLen; omega) (by omega) (by have := HL.out.below.size; simp; omega) ?_)
        intro v5 w5 hs hg hat
        have HL := Lib.hid (HL.out.app (y := y) hs hg)
        obtain ⟨ao5, c5, rfl, -, -, -⟩ := hs.form
        clear hs hg hat
        clear u hxy2
        go_wp2_with fail
        exact ⟨⟨k + 1, n + 1, c5, true, ao5, o ++ [y], rfl, rfl, by simp, by omega, (fun h => by cases h), by omega, HL, HP⟩, by simp [intOf]; omega⟩
      | false =>
        have hnk2 : n ≤ k := hpn rfl
        by_cases hlo : x < y
        · have HP := Lib.hid (PutAt.new HH.out.2 HP.out hkl (show El.lt x l[k] from by rw [← HY.out]; exact hlo))
          rw [← HY.out] at HP
          have HXY := Lib.hid hxy
          clear hxy
          go_wp2_with (at_builtin; refine wpList_append_sl rfl _ _ _ 41 (by rfl) Set.el_int (base := w.heap.size) (.slice ao (n) c) (n) (rowCells vInt (o)) (by rfl) (HL.out.sl.alloc _) _ 1 [.int .i64 x] (by rfl) (SrcIs.own Tryz.underlying41 (SlIs.made (base := 0) (BlkIs.new _ _ _) (Nat.zero_le _) rfl (by decide))) (by intro u hu; simp at hu; rcases hu with rfl; rfl) (by unfold maxLen; omega) (by omega) (by have := HL.out.below.size; simp; omega) ?_)
          intro v5 w5 hs hg hat
          have HL := Lib.hid (HL.out.app (y := x) hs hg)
          obtain ⟨ao5, c5, rfl, -, -, -⟩ := hs.form
          clear hs hg hat
          clear u
          have u : w5.cell? ⟨g, off + k, none⟩ = some (.int .i64 y) := (HL.out.below.cell (p := ⟨g, off + k, none⟩) HGL.out).trans HU.out
          go_wp2_with (at_builtin; refine wpList_append_sl rfl _ _ _ 41 (by rfl) Set.el_int (base := w.heap.size) (.slice ao5 (n + 1) c5) (n + 1) (rowCells vInt (o ++ [x])) (by rfl) (HL.out.sl.alloc _) _ 1 [.int .i64 y] (by rfl) (SrcIs.own Tryz.underlying41 (SlIs.made (base := 0) (BlkIs.new _ _ _) (Nat.zero_le _) rfl (by decide))) (by intro u hu; simp at hu; rcases hu with rfl; rfl) (by unfold maxLen; omega) (by omega) (by have := HL.out.below.size; simp; omega) ?_)
          intro v6 w6 hs hg hat
          have HL := Lib.hid (HL.out.app (y := y) hs hg)
          obtain ⟨ao6, c6, rfl, -, -, -⟩ := hs.form
          clear hs hg hat
          clear u hxy2 hlo
          go_wp2_with fail
          exact ⟨⟨k + 1, n + 1 + 1, c6, true, ao6, o ++ [x] ++ [y], rfl, rfl, by simp, by omega, (fun h => by cases h), by omega, HL, HP⟩, by simp [intOf]; omega⟩
        · have hlo2 : decide (x < y) = false := decide_eq_false hlo
          have HP := Lib.hid (PutAt.low HP.out hkl HNE.out (show ¬ El.lt x l[k] from by rw [← HY.out]; exact hlo))
          rw [← HY.out] at HP
          have HXY := Lib.hid (And.intro hxy hlo)
          clear hxy hlo
          go_wp2_with (at_builtin; refine wpList_append_sl rfl _ _ _ 41 (by rfl) Set.el_int (base := w.heap.size) (.slice ao (n) c) (n) (rowCells vInt (o)) (by rfl) (HL.out.sl.alloc _) _ 1 [.int .i64 y] (by rfl) (SrcIs.own Tryz.underlying41 (SlIs.made (base := 0) (BlkIs.new _ _ _) (Nat.zero_le _) rfl (by decide))) (by intro u hu; simp at hu; rcases hu with rfl; rfl) (by unfold maxLen; omega) (by omega) (by have := HL.out.below.size; simp; omega) ?_)
          intro v5 w5 hs hg hat
          have HL := Lib.hid (HL.out.app (y := y) hs hg)
          obtain ⟨ao5, c5, rfl, -, -, -⟩ := hs.form
          clear hs hg hat
          clear u hxy2 hlo2
          go_wp2_with fail
          exact ⟨⟨k + 1, n + 1, c5, false, ao5, o ++ [y], rfl, rfl, by simp, by omega, (fun _ => by omega), by omega, HL, HP⟩, by simp [intOf]; omega⟩
    · have ki : ¬ ((k : Int) < n0) := by omega
      have ki2 : decide ((k : Int) < n0) = false := decide_eq_false ki
      obtain rfl : k = n0 := Nat.le_antisymm hkn hge
      have hp1 := HP.out
      rw [HN.out] at hp1
      have HP := Lib.hid hp1
      clear ki hp1
      cases put with
      | true =>
        go_wp2_with fail
        go_ret
        refine ⟨_, rfl, .inr ?_, HL.out.below⟩
        rw [join_ids (PutAt.done HP.out)]
        have h1 := HL.out.sl
        rwa [HL.out.len] at h1 ⊢
      | false =>
        go_wp2_with (at_builtin; refine wpList_append_sl rfl _ _ _ 41 (by rfl) Set.el_int (base := w.heap.size) (.slice ao (n) c) (n) (rowCells vInt (o)) (by rfl) (HL.out.sl.alloc _) _ 1 [.int .i64 x] (by rfl) (SrcIs.own Tryz.underlying41 (SlIs.made (base := 0) (BlkIs.new _ _ _) (Nat.zero_le _) rfl (by decide))) (by intro u hu; simp at hu; rcases hu with rfl; rfl) (by unfold maxLen; omega) (by omega) (by have := HL.out.below.size; simp; omega) ?_)
        intro v5 w5 hs hg hat
        have HL := Lib.hid (HL.out.app (y := x) hs hg)
        obtain ⟨ao5, c5, rfl, -, -, -⟩ := hs.form
        clear hs hg hat
        go_wp2_with fail
        go_ret
        refine ⟨_, rfl, .inr ?_, HL.out.below⟩
        rw [join_ids (PutAt.last HH.out.2 HP.out)]
        have h1 := HL.out.sl
        rwa [HL.out.len] at h1 ⊢
end Go.Proofs.YtbmknmjcoeinkaaGreat.Mg
