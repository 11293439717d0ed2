/- reliquaryref08.Has, Of, Union, Meet, Minus, Same, walked. (Layer 08.) -/
import Derived.Test.YtckhekkdidfefaaSetR1
namespace Go.Proofs.Ytckhekkdidfefaa.Set
set_option linter.unusedVariables false
open Go.RowKit Go.Sort Go.Lib Go.Shelf
theorem ref_has (v : Value) (l : List Int) (x : Int) (w : World) (h : IntAt w v l) (hn : l.length ≤ 1000000) :
    Calls Try.prog 36 #[v, .int .i64 x] w fun e w' => e = .returned (.bool (has l x)) ∧ w = w' := by
  obtain ⟨ao, cap, rfl, hlc, hcm, hcell⟩ := h
  have HC := Lib.hid hcell
  clear hcell
  go_enter Try.func36, Try.ntmps36
  go_wp2_with fail
  go_loopw [5] (fun i wr => ∃ k : Nat, i = .int .i64 (k : Int) ∧ k ≤ l.length ∧ Hid (¬ x ∈ l.take k) ∧ w = wr) (fun i _ => l.length - (intOf i).toNat)
  case atStart => exact ⟨0, rfl, Nat.zero_le _, Lib.hid (by simp), rfl⟩
  case round =>
    obtain ⟨k, rfl, hkl, HM, rfl⟩ := hrel
    rcases Nat.lt_or_ge k l.length with hlt | hge
    · have ki : (k : Int) < l.length := by omega
      obtain ⟨bb, off, rfl, hblt, hcell⟩ := HC.out (by omega)
      have c0 := hcell k hlt
      obtain ⟨y, hy⟩ : ∃ y, y = l[k] := ⟨_, rfl⟩
      rw [← hy] at c0
      have HY := Lib.hid hy
      clear hcell hy
      cases hxy : (y == x)
      · go_wp2_with fail
        refine ⟨⟨k + 1, by simp, by omega, Lib.hid ?_, trivial⟩, by simp [intOf]; omega⟩
        rw [take_snoc hlt, List.mem_append, List.mem_singleton, ← HY.out]
        rintro (h1 | h1)
        · exact HM.out h1
        · exact absurd hxy (by simp [h1])
      · go_wp2_with fail
        go_ret
        have hx : x ∈ l := by
          have h1 : y = x := by simpa using hxy
          rw [← h1, HY.out]
          exact List.getElem_mem hlt
        exact ⟨by rw [has_true hx]; rfl, rfl⟩
    · have ki : decide ((k : Int) < l.length) = false := decide_eq_false (by omega)
      obtain rfl : k = l.length := by omega
      go_wp2_with fail
      go_ret
      have hx := HM.out
      rw [List.take_length] at hx
      exact ⟨by rw [has_false hx]; rfl, rfl⟩
theorem isOf_snoc {α : Type} [El α] {pre m : List α} {x : α} (h : IsOf pre m) : IsOf (pre ++ [x]) (ins x m) := by
  refine ⟨ins_rise h.1, fun y => ?_⟩
  rw [mem_ins, h.2 y, List.mem_append, List.mem_singleton]
  exact ⟨fun h => h.symm, fun h => h.symm⟩
noncomputable def ofL {α : Type} [El α] : List α → List α
  | [] => []
  | x :: xs => ins x (ofL xs)
theorem ofL_is {α : Type} [El α] : ∀ l : List α, IsOf l (ofL l)
  | [] => ⟨by simp [Rise, ofL], by simp [ofL]⟩
  | x :: xs => ⟨ins_rise (ofL_is xs).1, fun y => by rw [ofL, mem_ins, (ofL_is xs).2 y, List.mem_cons]⟩
theorem ofL_len {α : Type} [El α] : ∀ l : List α, (ofL l).length ≤ l.length
  | [] => by simp [ofL]
  | x :: xs => by
    have h1 := ofL_len xs
    have h2 := ins_le x (ofL xs)
    rw [ofL, List.length_cons]
    omega
theorem isOf_len {α : Type} [El α] {pre m : List α} (h : IsOf pre m) : m.length ≤ pre.length := by
  rw [isOf_unique h (ofL_is pre)]
  exact ofL_len pre
set_option maxRecDepth 100000 in
set_option maxHeartbeats 1000000 in
theorem ref_of (v : Value) (l : List Int) (w : World) (h : IntAt w v l) (hn : l.length ≤ 1000000) :
    Calls Try.prog 10 #[v] w fun e w' => ∃ v' m, e = .returned v' ∧ IsOf l m ∧ IntAt w' v' m ∧ Below w.heap.size w w' := by
  obtain ⟨ao, cap, rfl, hlc, hcm, hcell⟩ := h
  have HC := Lib.hid hcell
  clear hcell
  go_enter Try.func10, Try.ntmps10
  go_wp2_with fail
  have hz0 : SlIs (w.alloc (.cells #[] 3)) w.heap.size 3 1 (.slice (some ⟨w.heap.size, 0, none⟩) 0 0) 0 (icells []) := SlIs.made (BlkIs.new _ _ _) (Nat.le_refl _) rfl (by decide)
  have H0 := Lib.hid (And.intro (IntAt.of_sl hz0) ((Below.refl w.heap.size w).alloc (Nat.le_refl _) (.cells #[] 3)))
  clear hz0
  go_loopw [3, 4] (fun p i wr => ∃ (k n c1 : Nat) (ao1 : Option Addr), p = .slice ao1 n c1 ∧ i = .int .i64 (k : Int) ∧ k ≤ l.length ∧
      Hid (∃ m, IsOf (l.take k) m ∧ IntAt wr (.slice ao1 n c1) m) ∧ Hid (Below w.heap.size w wr)) (fun _ i _ => l.length - (intOf i).toNat)
  case atStart => exact ⟨0, 0, 0, _, rfl, rfl, Nat.zero_le _, Lib.hid ⟨[], ⟨by simp [Rise], by simp⟩, H0.out.1⟩, Lib.hid H0.out.2⟩
  case round =>
    obtain ⟨k, n, c1, ao1, rfl, rfl, hkl, HM, HB⟩ := hrel
    clear H0
    rcases Nat.lt_or_ge k l.length with hlt | hge
    · have ki : (k : Int) < l.length := by omega
      obtain ⟨bb, off, rfl, hblt, hcell⟩ := HC.out (by omega)
      have c0 := hcell k hlt
      rw [← HB.out.cell hblt] at c0
      obtain ⟨y, hy⟩ : ∃ y, y = l[k] := ⟨_, rfl⟩
      rw [← hy] at c0
      have HY := Lib.hid hy
      clear hcell hy
      obtain ⟨m, hm, hat⟩ := HM.out
      have hml := isOf_len hm
      rw [List.length_take] at hml
      have P := Lib.hid (ref_put (.slice ao1 n c1) m y wr hat hm.1 (by omega))
      have HI := Lib.hid hm
      clear hml hm hat HM
      go_wp2_with fail
      refine P.out.mono ?_
      rintro e w4 ⟨v4, rfl, hat4, hb4⟩
      obtain ⟨ao4, c4, rfl, -, -, -⟩ := id hat4
      have H4 := Lib.hid (And.intro hat4 (HB.out.trans (hb4.mono HB.out.size)))
      clear hat4 hb4
      go_wp2_with fail
      refine ⟨⟨k + 1, _, c4, ao4, rfl, by simp, by omega, Lib.hid ⟨_, ?_, H4.out.1⟩, Lib.hid H4.out.2⟩, by simp [intOf]; omega⟩
      rw [take_snoc hlt, ← HY.out]
      exact isOf_snoc HI.out
    · have ki : decide ((k : Int) < l.length) = false := decide_eq_false (by omega)
      obtain rfl : k = l.length := by omega
      go_wp2_with fail
      go_ret
      obtain ⟨m, hm, hat⟩ := HM.out
      rw [List.take_length] at hm
      exact ⟨_, m, rfl, hm, hat, HB.out⟩
set_option maxRecDepth 100000 in
set_option maxHeartbeats 1000000 in
theorem ref_union (va vb : Value) (la lb : List Int) (w : World) (ha : IntAt w va la) (hb : IntAt w vb lb) (hr : Rise la) (hn : la.length + lb.length ≤ 1000000) :
    Calls Try.prog 14 #[va, vb] w fun e w' => ∃ v' m, e = .returned v' ∧ IsOf (la ++ lb) m ∧ IntAt w' v' m ∧ Below w.heap.size w w' := by
  have H0 := Lib.hid (And.intro ha hr)
  have HN := Lib.hid hn
  obtain ⟨aoa, capa, rfl, -, -, -⟩ := ha
  obtain ⟨ao, cap, rfl, hlc, hcm, hcell⟩ := hb
  have HC := Lib.hid hcell
  have hnb : lb.length ≤ 1000000 := by omega
  obtain ⟨na, hna⟩ : ∃ na, na = la.length := ⟨_, rfl⟩
  rw [← hna] at H0 ⊢
  clear hcell hn hr hna
  go_enter Try.func14, Try.ntmps14
  go_wp2_with fail
  go_loopw [5, 6] (fun p i wr => ∃ (k n c1 : Nat) (ao1 : Option Addr), p = .slice ao1 n c1 ∧ i = .int .i64 (k : Int) ∧ k ≤ lb.length ∧
      Hid (∃ m, IsOf (la ++ lb.take k) m ∧ IntAt wr (.slice ao1 n c1) m) ∧ Hid (Below w.heap.size w wr)) (fun _ i _ => lb.length - (intOf i).toNat)
  case atStart => exact ⟨0, _, _, _, rfl, rfl, Nat.zero_le _, Lib.hid ⟨la, by simp; exact ⟨H0.out.2, fun x => Iff.rfl⟩, H0.out.1⟩, Lib.hid (Below.refl _ _)⟩
  case round =>
    obtain ⟨k, n, c1, ao1, rfl, rfl, hkl, HM, HB⟩ := hrel
    clear H0
    rcases Nat.lt_or_ge k lb.length with hlt | hge
    · have ki : (k : Int) < lb.length := by omega
      obtain ⟨bb, off, rfl, hblt, hcell⟩ := HC.out (by omega)
      have c0 := hcell k hlt
      rw [← HB.out.cell hblt] at c0
      obtain ⟨y, hy⟩ : ∃ y, y = lb[k] := ⟨_, rfl⟩
      rw [← hy] at c0
      have HY := Lib.hid hy
      clear hcell hy
      obtain ⟨m, hm, hat⟩ := HM.out
      have hml := isOf_len hm
      rw [List.length_append, List.length_take] at hml
      have P := Lib.hid (ref_put (.slice ao1 n c1) m y wr hat hm.1 (by have := HN.out; omega))
      have HI := Lib.hid hm
      clear hml hm hat HM
      go_wp2_with fail
      refine P.out.mono ?_
      rintro e w4 ⟨v4, rfl, hat4, hb4⟩
      obtain ⟨ao4, c4, rfl, -, -, -⟩ := id hat4
      have H4 := Lib.hid (And.intro hat4 (HB.out.trans (hb4.mono HB.out.size)))
      clear hat4 hb4
      go_wp2_with fail
      refine ⟨⟨k + 1, _, c4, ao4, rfl, by simp, by omega, Lib.hid ⟨_, ?_, H4.out.1⟩, Lib.hid H4.out.2⟩, by simp [intOf]; omega⟩
      rw [take_snoc hlt, ← HY.out, ← List.append_assoc]
      exact isOf_snoc HI.out
    · have ki : decide ((k : Int) < lb.length) = false := decide_eq_false (by omega)
      obtain rfl : k = lb.length := by omega
      go_wp2_with fail
      go_ret
      obtain ⟨m, hm, hat⟩ := HM.out
      rw [List.take_length] at hm
      exact ⟨_, m, rfl, hm, hat, HB.out⟩
theorem ref_same (va vb : Value) (l : List Int) (w : World) (ha : IntAt w va l) (hb : IntAt w vb l) (hn : l.length ≤ 1000000) :
    Calls Try.prog 11 #[va, vb] w fun e w' => e = .returned (.bool true) ∧ Below w.heap.size w w' := by
  obtain ⟨aoa, capa, rfl, hlca, hcma, hcella⟩ := ha
  obtain ⟨ao, cap, rfl, hlc, hcm, hcell⟩ := hb
  have HC := Lib.hid (And.intro hcella hcell)
  clear hcell hcella
  go_enter Try.func11, Try.ntmps11
  go_wp2_with fail
  go_loopw [5] (fun i wr => ∃ k : Nat, i = .int .i64 (k : Int) ∧ k ≤ l.length ∧ Hid (Below w.heap.size w wr)) (fun i _ => l.length - (intOf i).toNat)
  case atStart => exact ⟨0, rfl, Nat.zero_le _, Lib.hid (Below.refl _ _)⟩
  case round =>
    obtain ⟨k, rfl, hkl, HB⟩ := hrel
    rcases Nat.lt_or_ge k l.length with hlt | hge
    · have ki : (k : Int) < l.length := by omega
      obtain ⟨bb, off, rfl, hblt, hcell⟩ := HC.out.2 (by omega)
      obtain ⟨ba, offa, rfl, hblta, hcella⟩ := HC.out.1 (by omega)
      have c0 := hcell k hlt
      have c1 := hcella k hlt
      rw [← HB.out.cell hblt] at c0
      rw [← HB.out.cell hblta] at c1
      obtain ⟨y, hy⟩ : ∃ y, y = l[k] := ⟨_, rfl⟩
      rw [← hy] at c0 c1
      clear hcell hcella hy
      have hmx : Try.prog.follows .mixedOrders = true := by kernel_rfl
      go_wp2_with fail
      go_region
      go_wp2_with fail
      exact ⟨⟨k + 1, by simp, by omega, Lib.hid (HB.out.trans (((DrawsOf.refl _).drew).below _))⟩, by simp [intOf]; omega⟩
    · have ki : decide ((k : Int) < l.length) = false := decide_eq_false (by omega)
      obtain rfl : k = l.length := by omega
      go_wp2_with fail
      go_ret
      exact ⟨rfl, HB.out⟩
set_option maxRecDepth 100000 in
set_option maxHeartbeats 1000000 in
theorem ref_meet (va vb : Value) (la lb : List Int) (w : World) (ha : IntAt w va la) (hb : IntAt w vb lb) (hna : la.length ≤ 1000000) (hnb : lb.length ≤ 1000000) :
    Calls Try.prog 16 #[va, vb] w fun e w' => ∃ v', e = .returned v' ∧ IntAt w' v' (la.filter (partOf lb true)) ∧ Below w.heap.size w w' := by
  have HA := Lib.hid hb
  obtain ⟨ao, cap, rfl, hlc, hcm, hcell⟩ := ha
  obtain ⟨aob, capb, rfl, -, -, -⟩ := hb
  have HC := Lib.hid hcell
  obtain ⟨nb, hnb'⟩ : ∃ nb, nb = lb.length := ⟨_, rfl⟩
  rw [← hnb'] at HA ⊢
  have HNB := Lib.hid hnb
  clear hcell hnb hnb'
  go_enter Try.func16, Try.ntmps16
  go_wp2_with fail
  have hz0 : SlIs (w.alloc (.cells #[] 3)) w.heap.size 3 1 (.slice (some ⟨w.heap.size, 0, none⟩) 0 0) 0 (icells []) := SlIs.made (BlkIs.new _ _ _) (Nat.le_refl _) rfl (by decide)
  have H0 := Lib.hid (And.intro hz0 ((Below.refl w.heap.size w).alloc (Nat.le_refl _) (.cells #[] 3)))
  clear hz0
  go_loopw [5, 6] (fun p i wr => ∃ (k n c1 : Nat) (ao1 : Option Addr), p = .slice ao1 n c1 ∧ i = .int .i64 (k : Int) ∧ k ≤ la.length ∧ n ≤ k ∧
      Hid (∃ m, m = (la.take k).filter (partOf lb true) ∧ m.length = n ∧ SlIs wr w.heap.size 3 1 (.slice ao1 n c1) n (icells m)) ∧ Hid (Below w.heap.size w wr)) (fun _ i _ => la.length - (intOf i).toNat)
  case atStart => exact ⟨0, 0, 0, _, rfl, rfl, Nat.zero_le _, Nat.le_refl _, Lib.hid ⟨[], by simp, rfl, H0.out.1⟩, Lib.hid H0.out.2⟩
  case round =>
    obtain ⟨k, n, c1, ao1, rfl, rfl, hkl, hnk, HM, HB⟩ := hrel
    clear H0
    rcases Nat.lt_or_ge k la.length with hlt | hge
    · have ki : (k : Int) < la.length := by omega
      obtain ⟨bb, off, rfl, hblt, hcell⟩ := HC.out (by omega)
      have c0 := hcell k hlt
      rw [← HB.out.cell hblt] at c0
      obtain ⟨y, hy⟩ : ∃ y, y = la[k] := ⟨_, rfl⟩
      rw [← hy] at c0
      have HY := Lib.hid hy
      clear hcell hy
      obtain ⟨b, hb⟩ : ∃ b, b = has lb y := ⟨_, rfl⟩
      have P := Lib.hid (ref_has (.slice aob nb capb) lb y wr (HA.out.later HB.out) HNB.out)
      rw [← hb] at P
      have HX := Lib.hid hb
      clear hb
      go_wp2_with fail
      refine P.out.mono ?_
      rintro e w4 ⟨rfl, rfl⟩
      clear P
      have hfl : (la.take (k + 1)).filter (partOf lb true) = (la.take k).filter (partOf lb true) ++ (if b = true then [y] else []) := by
        rw [take_snoc hlt, List.filter_append, ← HY.out]
        congr 1
        simp only [List.filter_cons, List.filter_nil, partOf, ← HX.out]
        cases b <;> rfl
      have HF := Lib.hid hfl
      clear hfl
      cases b
      · go_wp2_with fail
        refine ⟨⟨k + 1, n, c1, ao1, rfl, by simp, by omega, by omega, Lib.hid ?_, HB⟩, by simp [intOf]; omega⟩
        obtain ⟨m, hm, hml, hs⟩ := HM.out
        exact ⟨m, by rw [HF.out, hm]; simp, hml, hs⟩
      · obtain ⟨m, hm, hml, hs⟩ := HM.out
        have HS := Lib.hid hs
        have HI := Lib.hid (And.intro hm hml)
        have hbw := HB.out
        have hzz := hbw.size
        clear hs hm hml HM
        go_wp2_with (refine wpList_append_sl rfl _ _ _ 22 (by rfl) el_int (base := w.heap.size) (.slice ao1 n c1) n (icells m) (by rfl) (HS.out.alloc _) _ 1 [Value.int .i64 y] (by rfl) (SrcIs.own Try.underlying22 (SlIs.made (base := 0) (BlkIs.new _ _ _) (Nat.zero_le _) rfl (by decide))) (icells_one_ y) (by unfold maxLen; omega) (by omega) (by have := hbw.size; simp; omega) ?_)
        intro v3 w3 hs3 hg3 hat3
        obtain ⟨ao2, c2, rfl, -, -, -⟩ := hs3.form
        have hb3 := ((HB.out.alloc hzz (.cells #[.int .i64 y] 3)).grown hg3 (by simp; omega) fun j hj => ((HS.out.alloc (.cells #[.int .i64 y] 3)).lt j hj).1)
        have H3 := Lib.hid (And.intro hs3 hb3)
        clear hs3 hg3 hat3 hb3 hbw hzz
        go_wp2_with fail
        have hs3 := H3.out.1
        rw [show [Value.int .i64 y] = icells [y] from rfl, ← icells_app] at hs3
        exact ⟨⟨k + 1, n + 1, c2, ao2, rfl, by simp, by omega, by omega, Lib.hid ⟨_, by rw [HF.out, HI.out.1]; simp, by simp [HI.out.2], hs3⟩, Lib.hid H3.out.2⟩, by simp [intOf]; omega⟩
    · have ki : decide ((k : Int) < la.length) = false := decide_eq_false (by omega)
      obtain rfl : k = la.length := by omega
      go_wp2_with fail
      go_ret
      obtain ⟨m, hm, hml, hs⟩ := HM.out
      rw [List.take_length] at hm
      rw [← hml] at hs ⊢
      rw [← hm]
      exact ⟨_, rfl, IntAt.of_sl hs, HB.out⟩
set_option maxRecDepth 100000 in
set_option maxHeartbeats 1000000 in
theorem ref_minus (va vb : Value) (la lb : List Int) (w : World) (ha : IntAt w va la) (hb : IntAt w vb lb) (hna : la.length ≤ 1000000) (hnb : lb.length ≤ 1000000) :
    Calls Try.prog 18 #[va, vb] w fun e w' => ∃ v', e = .returned v' ∧ IntAt w' v' (la.filter (partOf lb false)) ∧ Below w.heap.size w w' := by
  have HA := Lib.hid hb
  obtain ⟨ao, cap, rfl, hlc, hcm, hcell⟩ := ha
  obtain ⟨aob, capb, rfl, -, -, -⟩ := hb
  have HC := Lib.hid hcell
  obtain ⟨nb, hnb'⟩ : ∃ nb, nb = lb.length := ⟨_, rfl⟩
  rw [← hnb'] at HA ⊢
  have HNB := Lib.hid hnb
  clear hcell hnb hnb'
  go_enter Try.func18, Try.ntmps18
  go_wp2_with fail
  have hz0 : SlIs (w.alloc (.cells #[] 3)) w.heap.size 3 1 (.slice (some ⟨w.heap.size, 0, none⟩) 0 0) 0 (icells []) := SlIs.made (BlkIs.new _ _ _) (Nat.le_refl _) rfl (by decide)
  have H0 := Lib.hid (And.intro hz0 ((Below.refl w.heap.size w).alloc (Nat.le_refl _) (.cells #[] 3)))
  clear hz0
  go_loopw [5, 6] (fun p i wr => ∃ (k n c1 : Nat) (ao1 : Option Addr), p = .slice ao1 n c1 ∧ i = .int .i64 (k : Int) ∧ k ≤ la.length ∧ n ≤ k ∧
      Hid (∃ m, m = (la.take k).filter (partOf lb false) ∧ m.length = n ∧ SlIs wr w.heap.size 3 1 (.slice ao1 n c1) n (icells m)) ∧ Hid (Below w.heap.size w wr)) (fun _ i _ => la.length - (intOf i).toNat)
  case atStart => exact ⟨0, 0, 0, _, rfl, rfl, Nat.zero_le _, Nat.le_refl _, Lib.hid ⟨[], by simp, rfl, H0.out.1⟩, Lib.hid H0.out.2⟩
  case round =>
    obtain ⟨k, n, c1, ao1, rfl, rfl, hkl, hnk, HM, HB⟩ := hrel
    clear H0
    rcases Nat.lt_or_ge k la.length with hlt | hge
    · have ki : (k : Int) < la.length := by omega
      obtain ⟨bb, off, rfl, hblt, hcell⟩ := HC.out (by omega)
      have c0 := hcell k hlt
      rw [← HB.out.cell hblt] at c0
      obtain ⟨y, hy⟩ : ∃ y, y = la[k] := ⟨_, rfl⟩
      rw [← hy] at c0
      have HY := Lib.hid hy
      clear hcell hy
      obtain ⟨b, hb⟩ : ∃ b, b = has lb y := ⟨_, rfl⟩
      have P := Lib.hid (ref_has (.slice aob nb capb) lb y wr (HA.out.later HB.out) HNB.out)
      rw [← hb] at P
      have HX := Lib.hid hb
      clear hb
      go_wp2_with fail
      refine P.out.mono ?_
      rintro e w4 ⟨rfl, rfl⟩
      clear P
      have hfl : (la.take (k + 1)).filter (partOf lb false) = (la.take k).filter (partOf lb false) ++ (if b = false then [y] else []) := by
        rw [take_snoc hlt, List.filter_append, ← HY.out]
        congr 1
        simp only [List.filter_cons, List.filter_nil, partOf, ← HX.out]
        cases b <;> rfl
      have HF := Lib.hid hfl
      clear hfl
      cases b
      · obtain ⟨m, hm, hml, hs⟩ := HM.out
        have HS := Lib.hid hs
        have HI := Lib.hid (And.intro hm hml)
        have hbw := HB.out
        have hzz := hbw.size
        clear hs hm hml HM
        go_wp2_with (refine wpList_append_sl rfl _ _ _ 22 (by rfl) el_int (base := w.heap.size) (.slice ao1 n c1) n (icells m) (by rfl) (HS.out.alloc _) _ 1 [Value.int .i64 y] (by rfl) (SrcIs.own Try.underlying22 (SlIs.made (base := 0) (BlkIs.new _ _ _) (Nat.zero_le _) rfl (by decide))) (icells_one_ y) (by unfold maxLen; omega) (by omega) (by have := hbw.size; simp; omega) ?_)
        intro v3 w3 hs3 hg3 hat3
        obtain ⟨ao2, c2, rfl, -, -, -⟩ := hs3.form
        have hb3 := ((HB.out.alloc hzz (.cells #[.int .i64 y] 3)).grown hg3 (by simp; omega) fun j hj => ((HS.out.alloc (.cells #[.int .i64 y] 3)).lt j hj).1)
        have H3 := Lib.hid (And.intro hs3 hb3)
        clear hs3 hg3 hat3 hb3 hbw hzz
        go_wp2_with fail
        have hs3 := H3.out.1
        rw [show [Value.int .i64 y] = icells [y] from rfl, ← icells_app] at hs3
        exact ⟨⟨k + 1, n + 1, c2, ao2, rfl, by simp, by omega, by omega, Lib.hid ⟨_, by rw [HF.out, HI.out.1]; simp, by simp [HI.out.2], hs3⟩, Lib.hid H3.out.2⟩, by simp [intOf]; omega⟩
      · go_wp2_with fail
        refine ⟨⟨k + 1, n, c1, ao1, rfl, by simp, by omega, by omega, Lib.hid ?_, HB⟩, by simp [intOf]; omega⟩
        obtain ⟨m, hm, hml, hs⟩ := HM.out
        exact ⟨m, by rw [HF.out, hm]; simp, hml, hs⟩
    · have ki : decide ((k : Int) < la.length) = false := decide_eq_false (by omega)
      obtain rfl : k = la.length := by omega
      go_wp2_with fail
      go_ret
      obtain ⟨m, hm, hml, hs⟩ := HM.out
      rw [List.take_length] at hm
      rw [← hml] at hs ⊢
      rw [← hm]
      exact ⟨_, rfl, IntAt.of_sl hs, HB.out⟩
end Go.Proofs.Ytckhekkdidfefaa.Set
