/- The reference's with (pack), walked: rising items with one more. (Layer 07.) -/
import Derived.Test.YtabgpleiobpeoaaPack8
import Derived.Test.YtabgpleiobpeoaaPack7
namespace Go.Proofs.Ytabgpleiobpeoaa.Pak
set_option linter.unusedVariables false
open Go.RowKit Go.Sort Go.Lib
/-- Ahead of the first that it stands below. -/
def insI (x : It) : List It → List It
  | [] => [x]
  | y :: r => if x.1.data.toList < y.1.data.toList then x :: y :: r else y :: insI x r
theorem insI_length (x : It) : ∀ L, (insI x L).length = L.length + 1
  | [] => rfl
  | y :: r => by
    unfold insI
    split
    · rfl
    · rw [List.length_cons, insI_length x r, List.length_cons]
theorem insI_perm (x : It) : ∀ L, (insI x L).Perm (x :: L)
  | [] => List.Perm.refl _
  | y :: r => by
    unfold insI
    split
    · exact List.Perm.refl _
    · exact ((insI_perm x r).cons y).trans (List.Perm.swap x y r)
theorem low_or {x y : It} (h : ¬ lowI x y) (hne : y.1 ≠ x.1) : lowI y x := low_of h hne
theorem insI_rises {x : It} : ∀ {L : List It}, L.Pairwise lowI → (∀ y ∈ L, y.1 ≠ x.1) → (insI x L).Pairwise lowI
  | [], _, _ => List.pairwise_singleton _ _
  | y :: r, hp, hne => by
    have h := List.pairwise_cons.1 hp
    unfold insI
    split
    · next hlt =>
      refine List.pairwise_cons.2 ⟨fun z hz => ?_, hp⟩
      rcases List.mem_cons.1 hz with rfl | hz
      · exact hlt
      · exact low_trans (show lowI x y from hlt) (h.1 z hz)
    · next hlt =>
      refine List.pairwise_cons.2 ⟨fun z hz => ?_, insI_rises h.2 fun z hz => hne z (by simp [hz])⟩
      rcases List.mem_cons.1 ((insI_perm x r).mem_iff.1 hz) with rfl | hz
      · exact low_or hlt (hne y (by simp))
      · exact h.1 z hz
/-- Behind the first m items of with's loop. -/
structure InsAt (x : It) (L : List It) (m : Nat) (put : Bool) (N : List It) : Prop where
  t : put = true → ∀ R, insI x (L.take m ++ R) = N ++ R
  f : put = false → ∀ R, insI x (L.take m ++ R) = N ++ insI x R
  z : N.length = m + (if put then 1 else 0)
theorem InsAt.start (x : It) (L : List It) : InsAt x L 0 false [] := ⟨fun h => (by cases h), fun _ R => by simp, rfl⟩
theorem take_more {L : List It} {m : Nat} (hm : m < L.length) (R : List It) : L.take (m + 1) ++ R = L.take m ++ (L[m] :: R) := by
  rw [List.take_succ_eq_append_getElem hm, List.append_assoc]; rfl
theorem InsAt.past {x : It} {L N : List It} {m : Nat} (h : InsAt x L m true N) (hm : m < L.length) : InsAt x L (m + 1) true (N ++ [L[m]]) :=
  ⟨fun _ R => by rw [take_more hm, h.t rfl]; simp, fun h => (by cases h), by have := h.z; simp at this ⊢; omega⟩
theorem InsAt.here {x : It} {L N : List It} {m : Nat} (h : InsAt x L m false N) (hm : m < L.length) (hc : x.1.data.toList < L[m].1.data.toList) : InsAt x L (m + 1) true (N ++ [x] ++ [L[m]]) :=
  ⟨fun _ R => by rw [take_more hm, h.f rfl, insI, if_pos hc]; simp, fun h => (by cases h), by have := h.z; simp at this ⊢; omega⟩
theorem InsAt.pass {x : It} {L N : List It} {m : Nat} (h : InsAt x L m false N) (hm : m < L.length) (hc : ¬ x.1.data.toList < L[m].1.data.toList) : InsAt x L (m + 1) false (N ++ [L[m]]) :=
  ⟨fun h => (by cases h), fun _ R => by rw [take_more hm, h.f rfl, insI, if_neg hc]; simp, by have := h.z; simp at this ⊢; omega⟩
theorem InsAt.endT {x : It} {L N : List It} (h : InsAt x L L.length true N) : N = insI x L := by
  have := h.t rfl []
  rw [List.take_length, List.append_nil, List.append_nil] at this
  exact this.symm
theorem InsAt.endF {x : It} {L N : List It} (h : InsAt x L L.length false N) : N ++ [x] = insI x L := by
  have := h.f rfl []
  rw [List.take_length, List.append_nil] at this
  exact this.symm
/-- What the reference's with answers. -/
def WithOut (ao : Option Addr) (cap : Nat) (L : List It) (x : It) (w w' : World) (e : Ending) : Prop :=
  (((∃ y ∈ L, y.1 = x.1) ∧ e = .returned (.tuple #[.slice ao L.length cap, .bool false])) ∨
    ((∀ y ∈ L, y.1 ≠ x.1) ∧ ∃ ao' cap', e = .returned (.tuple #[.slice ao' (insI x L).length cap', .bool true]) ∧ ItemsAt w' ao' (insI x L))) ∧ Below w.heap.size w w'
set_option maxRecDepth 100000 in
set_option maxHeartbeats 1000000 in
theorem rwith_any (ao : Option Addr) (cap : Nat) (L : List It) (x : It) (w : World) (hI : ItemsAt w ao L) (hn : L.length ≤ 1024) :
    Calls Try.prog 27 #[.slice ao L.length cap, .agg #[.string x.1, .string x.2]] w fun e w' => WithOut ao cap L x w w' e := by
  have hm := hI.1
  obtain ⟨x1, x2⟩ := x
  have hb := (Below.refl w.heap.size w).alloc (Nat.le_refl _) (.cells #[.string x1, .string x2] 34)
  obtain ⟨W, hW⟩ : ∃ W, W = w.alloc (.cells #[.string x1, .string x2] 34) := ⟨_, rfl⟩
  have k1 : BlkIs W w.heap.size 34 #[.string x1, .string x2] := by rw [hW]; exact BlkIs.new _ _ _
  rw [← hW] at hb
  have hlt := k1.lt
  have H0 := Lib.hid (And.intro k1 (And.intro (hI.later hb) hb))
  have HW := Lib.hid hW
  clear hW k1 hb hI
  simp only
  have hlt' : w.heap.size < W.heap.size := hlt
  go_enter Try.func27, Try.ntmps27
  go_wp2_with fail
  rw [← HW.out]
  have hWs : W.heap.size = w.heap.size + 1 := by rw [HW.out]; exact World.size_alloc _ _
  go_loopw [6, 7, 8] (fun o p i wr => ∃ (j : Nat) (N : List It) (b : Bool), i = .int .i64 (j : Int) ∧ p = .bool b ∧ j ≤ L.length ∧ Hid (InsAt (x1, x2) L j b N) ∧ Hid (∀ i (h : i < L.length), i < j → L[i].1 ≠ x1) ∧ SlIs wr (w.heap.size + 1) 34 2 o N.length (icells N) ∧ RowKit.Below W.heap.size W wr) (fun _ _ i _ => ((L.length : Int) - intOf i).toNat)
  case atStart => exact ⟨0, [], false, rfl, rfl, by omega, Lib.hid (InsAt.start _ _), Lib.hid (fun i _ hi => absurd hi (Nat.not_lt_zero _)), by
    have := SlIs.made (n := 0) (size := 2) (BlkIs.new W 34 #[]) (Nat.le_refl _) rfl (by decide)
    rw [hWs] at this
    exact this, (Below.refl _ _).alloc (Nat.le_refl _) _⟩
  case round =>
    obtain ⟨j, N, b, rfl, rfl, hj, hA, hne, hs, hb⟩ := hrel
    have hNn : N.length ≤ 1025 := by
      have := hA.out.z
      split at this <;> omega
    obtain ⟨ao1, cap1, rfl, -, -, -⟩ := hs.form
    have H := Lib.hid (And.intro hs hb)
    have k1 := H0.out.1.below hb hlt
    have e0 : wr.cell? ⟨w.heap.size, 0, none⟩ = some (.string x1) := k1.cell 0
    have e1 : wr.cell? ⟨w.heap.size, 1, none⟩ = some (.string x2) := k1.cell 1
    have hbx := hb.size
    clear hs k1
    have HQ : Hid (∀ q : Nat, SlIs (wr.drewN q) (w.heap.size + 1) 34 2 (.slice ao1 N.length cap1) N.length (icells N) ∧ RowKit.Below W.heap.size W (wr.drewN q)) := Lib.hid fun q => by
      have hd := ((DrawsOf.refl wr).drewN q).below wr.heap.size
      exact ⟨H.out.1.later hd, H.out.2.trans (hd.mono hbx)⟩
    rcases Nat.lt_or_ge j L.length with hj1 | hj1
    case inl =>
      have ji : (j : Int) < L.length := by omega
      obtain ⟨b1, off, rfl, hbw, hcell⟩ := H0.out.2.1.2 (by omega)
      obtain ⟨c0, c1⟩ := hcell j hj1
      rw [← hb.cell hbw] at c0 c1
      have hmem := List.getElem_mem hj1
      have hP := fun h : InsAt (x1, x2) L j true N => h.past hj1
      have hHr := fun (h : InsAt (x1, x2) L j false N) => h.here hj1
      have hPa := fun (h : InsAt (x1, x2) L j false N) => h.pass hj1
      obtain ⟨y, hy⟩ : ∃ y, y = L[j] := ⟨_, rfl⟩
      rw [← hy] at c0 c1 hmem hP hHr hPa
      have hcW := hcell j hj1
      rw [← hy] at hcW
      have HYj := Lib.hid (And.intro hy hmem)
      have HP := Lib.hid (And.intro hP (And.intro hHr hPa))
      obtain ⟨y1, y2⟩ := y
      simp only at c0 c1 hcW
      have HC := Lib.hid hcW
      clear hcell hy hmem hP hHr hPa hb hcW
      by_cases hxy : y1 = x1
      case pos =>
        have z := eq_list hxy
        have HX := Lib.hid hxy
        clear hxy
        go_wp2_with fail
        go_quiet (fail)
        go_wp2_with fail
        refine bodyPost_ret (v := .tuple #[.slice (some ⟨b1, off, none⟩) L.length cap, .bool false]) (by simp [results, Try.results27, go_sem]) rfl ?_
        exact ⟨Or.inl ⟨⟨(y1, y2), HYj.out.2, HX.out⟩, rfl⟩, H0.out.2.2.trans ((H.out.2.trans (((DrawsOf.refl wr).drewN _).below _)).mono H0.out.2.2.size)⟩
      have z := ne_list hxy
      have hnew : Hid (∀ i (h : i < L.length), i < j + 1 → L[i].1 ≠ x1) := Lib.hid fun i h hi => by
        rcases Nat.lt_or_ge i j with h' | h'
        · exact hne.out i h h'
        · obtain rfl : i = j := by omega
          rw [← HYj.out.1]; exact hxy
      clear hxy
      cases b
      case false =>
        have hll := less_list x1 y1
        by_cases hlt2 : x1.data.toList < y1.data.toList
        · rw [decide_eq_true hlt2] at hll
          have HA := Lib.hid (HP.out.2.1 hA.out hlt2)
          clear hlt2
          go_wp2_with fail
          go_quiet (fail)
          go_wp2_with fail
          go_quiet (fail)
          go_wp2_with (first
            | (at_builtin
               refine wpList_append_sl rfl _ _ _ 28 rfl el_item _ ((N ++ [(x1, x2)])).length (icells ((N ++ [(x1, x2)]))) rfl (H21.out.1.alloc _) _ 1 (encI (y1, y2)) rfl (SrcIs.own Try.underlying28 (SlIs.made (base := 0) (BlkIs.new _ _ _) (Nat.zero_le _) rfl (by decide))) (enc_one (y1, y2)) (by unfold maxLen; simp only [List.length_append, List.length_singleton]; omega) (by simp only [List.length_append, List.length_singleton]; omega) (by have h := H21.out.2.size; simp only [World.size_alloc]; omega) ?_
               intro v22 w22 hs22 hg22 hat22
               have hb22 := (H21.out.2.alloc H21.out.2.size _).grown hg22 (by have h := H21.out.2.size; simp only [World.size_alloc]; omega) fun j hj => by have := (H21.out.1.lt j hj).1; omega
               have hs22 : SlIs w22 (w.heap.size + 1) 34 2 v22 ((N ++ [(x1, x2)]) ++ [(y1, y2)]).length (icells ((N ++ [(x1, x2)]) ++ [(y1, y2)])) := by rw [← icells_snoc, List.length_append]; exact hs22
               have H22 := Lib.hid (And.intro hs22 hb22)
               clear hs22 hb22 hg22 hat22)
            | (at_builtin
               refine wpList_append_sl rfl _ _ _ 28 rfl el_item (.slice ao1 N.length cap1) (N).length (icells (N)) rfl ((HQ.out _).1.alloc _) _ 1 (encI (x1, x2)) rfl (SrcIs.own Try.underlying28 (SlIs.made (base := 0) (BlkIs.new _ _ _) (Nat.zero_le _) rfl (by decide))) (enc_one (x1, x2)) (by unfold maxLen; omega) (by omega) (by simp only [World.size_alloc]; show w.heap.size + 1 ≤ wr.heap.size + 1; omega) ?_
               intro v21 w21 hs21 hg21 hat21
               have hb21 := ((HQ.out _).2.alloc (HQ.out _).2.size _).grown hg21 (by simp only [World.size_alloc]; show W.heap.size ≤ wr.heap.size + 1; omega) fun j hj => by have := ((HQ.out 0).1.lt j hj).1; omega
               have hs21 : SlIs w21 (w.heap.size + 1) 34 2 v21 (N ++ [(x1, x2)]).length (icells (N ++ [(x1, x2)])) := by rw [← icells_snoc, List.length_append]; exact hs21
               have H21 := Lib.hid (And.intro hs21 hb21)
               have c0' : w21.cell? ⟨b1, off + j * 2, none⟩ = some (.string y1) := by rw [H21.out.2.cell hbw]; exact HC.out.1
               have c1' : w21.cell? ⟨b1, off + j * 2 + 1, none⟩ = some (.string y2) := by rw [H21.out.2.cell hbw]; exact HC.out.2
               clear hs21 hb21 hg21 hat21))
          refine ⟨⟨j + 1, N ++ [(x1, x2)] ++ [(y1, y2)], true, rfl, rfl, hj1, HA, hnew, H22.out.1, H22.out.2⟩, ?_⟩
          simp [intOf]
          omega
        · rw [decide_eq_false hlt2] at hll
          have HA := Lib.hid (HP.out.2.2 hA.out hlt2)
          clear hlt2
          go_wp2_with fail
          go_quiet (fail)
          go_wp2_with fail
          go_quiet (fail)
          go_wp2_with (first
            | (at_builtin
               refine wpList_append_sl rfl _ _ _ 28 rfl el_item (.slice ao1 N.length cap1) (N).length (icells (N)) rfl ((HQ.out _).1.alloc _) _ 1 (encI (y1, y2)) rfl (SrcIs.own Try.underlying28 (SlIs.made (base := 0) (BlkIs.new _ _ _) (Nat.zero_le _) rfl (by decide))) (enc_one (y1, y2)) (by unfold maxLen; omega) (by omega) (by simp only [World.size_alloc]; show w.heap.size + 1 ≤ wr.heap.size + 1; omega) ?_
               intro v21 w21 hs21 hg21 hat21
               have hb21 := ((HQ.out _).2.alloc (HQ.out _).2.size _).grown hg21 (by simp only [World.size_alloc]; show W.heap.size ≤ wr.heap.size + 1; omega) fun j hj => by have := ((HQ.out 0).1.lt j hj).1; omega
               have hs21 : SlIs w21 (w.heap.size + 1) 34 2 v21 (N ++ [(y1, y2)]).length (icells (N ++ [(y1, y2)])) := by rw [← icells_snoc, List.length_append]; exact hs21
               have H21 := Lib.hid (And.intro hs21 hb21)
               clear hs21 hb21 hg21 hat21))
          refine ⟨⟨j + 1, N ++ [(y1, y2)], false, rfl, rfl, hj1, HA, hnew, H21.out.1, H21.out.2⟩, ?_⟩
          simp [intOf]
          omega
      case true =>
        have HA := Lib.hid (HP.out.1 hA.out)
        go_wp2_with fail
        go_quiet (fail)
        go_wp2_with fail
        go_quiet (fail)
        go_wp2_with (first
          | (at_builtin
             refine wpList_append_sl rfl _ _ _ 28 rfl el_item (.slice ao1 N.length cap1) (N).length (icells (N)) rfl ((HQ.out _).1.alloc _) _ 1 (encI (y1, y2)) rfl (SrcIs.own Try.underlying28 (SlIs.made (base := 0) (BlkIs.new _ _ _) (Nat.zero_le _) rfl (by decide))) (enc_one (y1, y2)) (by unfold maxLen; omega) (by omega) (by simp only [World.size_alloc]; show w.heap.size + 1 ≤ wr.heap.size + 1; omega) ?_
             intro v21 w21 hs21 hg21 hat21
             have hb21 := ((HQ.out _).2.alloc (HQ.out _).2.size _).grown hg21 (by simp only [World.size_alloc]; show W.heap.size ≤ wr.heap.size + 1; omega) fun j hj => by have := ((HQ.out 0).1.lt j hj).1; omega
             have hs21 : SlIs w21 (w.heap.size + 1) 34 2 v21 (N ++ [(y1, y2)]).length (icells (N ++ [(y1, y2)])) := by rw [← icells_snoc, List.length_append]; exact hs21
             have H21 := Lib.hid (And.intro hs21 hb21)
             clear hs21 hb21 hg21 hat21))
        refine ⟨⟨j + 1, N ++ [(y1, y2)], true, rfl, rfl, hj1, HA, hnew, H21.out.1, H21.out.2⟩, ?_⟩
        simp [intOf]
        omega
    case inr =>
      have ji : decide ((j : Int) < L.length) = false := by simp; omega
      obtain rfl : j = L.length := by omega
      have HN := Lib.hid (show ∀ y ∈ L, y.1 ≠ x1 from fun y hy => by
        obtain ⟨i, hi, rfl⟩ := List.getElem_of_mem hy
        exact hne.out i hi hi)
      cases b
      case true =>
        have HE := Lib.hid hA.out.endT
        obtain ⟨ao2, cap2, hv2, hi2⟩ := ItemsAt.own H.out.1
        injection hv2 with q1 q2 q3
        subst q1 q3
        have HI := Lib.hid hi2
        clear hi2 q2
        go_wp2_with fail
        refine bodyPost_ret (v := .tuple #[.slice ao1 N.length cap1, .bool true]) (by simp [results, Try.results27, go_sem]) rfl ?_
        exact ⟨Or.inr ⟨HN.out, ao1, cap1, by rw [← HE.out], by rw [← HE.out]; exact HI.out⟩, H0.out.2.2.trans (H.out.2.mono H0.out.2.2.size)⟩
      case false =>
        have HE := Lib.hid hA.out.endF
        go_wp2_with (first
          | (at_builtin
             refine wpList_append_sl rfl _ _ _ 28 rfl el_item (.slice ao1 N.length cap1) (N).length (icells (N)) rfl (H.out.1.alloc _) _ 1 (encI (x1, x2)) rfl (SrcIs.own Try.underlying28 (SlIs.made (base := 0) (BlkIs.new _ _ _) (Nat.zero_le _) rfl (by decide))) (enc_one (x1, x2)) (by unfold maxLen; omega) (by omega) (by simp only [World.size_alloc]; omega) ?_
             intro v21 w21 hs21 hg21 hat21
             have hb21 := (H.out.2.alloc H.out.2.size _).grown hg21 (by simp only [World.size_alloc]; omega) fun j hj => by have := (H.out.1.lt j hj).1; omega
             have hs21 : SlIs w21 (w.heap.size + 1) 34 2 v21 (N ++ [(x1, x2)]).length (icells (N ++ [(x1, x2)])) := by rw [← icells_snoc, List.length_append]; exact hs21
             obtain ⟨ao2, cap2, rfl, hi2⟩ := ItemsAt.own hs21
             have H21 := Lib.hid (And.intro hi2 hb21)
             clear hs21 hb21 hg21 hat21 hi2))
        refine bodyPost_ret (v := .tuple #[.slice ao2 (N ++ [(x1, x2)]).length cap2, .bool true]) (by simp [results, Try.results27, go_sem]) rfl ?_
        exact ⟨Or.inr ⟨HN.out, ao2, cap2, by rw [← HE.out], by rw [← HE.out]; exact H21.out.1⟩, H0.out.2.2.trans (H21.out.2.mono H0.out.2.2.size)⟩
end Go.Proofs.Ytabgpleiobpeoaa.Pak
