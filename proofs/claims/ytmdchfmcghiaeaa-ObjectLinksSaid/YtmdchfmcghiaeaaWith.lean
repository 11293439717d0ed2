/- The reference's with and same, walked. Conditions: at most 1,000 links; the slices readable. -/
import Derived.Test.YtmdchfmcghiaeaaLinks
namespace Go.Proofs.Ytmdchfmcghiaeaa.Obj
set_option linter.unusedVariables false
open Go.RowKit Go.Sort Go.Lib
open Oct (Moved)
/-- Links as cells. -/
def lflat : List Lk → List Value
  | [] => []
  | x :: l => encL x ++ lflat l
theorem lflat_app : ∀ l m, lflat (l ++ m) = lflat l ++ lflat m
  | [], _ => rfl
  | x :: l, m => by rw [List.cons_append, lflat, lflat, lflat_app l m, List.append_assoc]
theorem lflat_length : ∀ l, (lflat l).length = l.length * 2
  | [] => rfl
  | x :: l => by rw [lflat, List.length_append, lflat_length l, encL_length, List.length_cons]; omega
theorem lflat_get : ∀ (l : List Lk) (i : Nat), i < l.length → (lflat l)[i * 2]? = some (.int .i64 (l[i]!).1) ∧ (lflat l)[i * 2 + 1]? = some (.string (l[i]!).2)
  | x :: l, 0, _ => ⟨rfl, rfl⟩
  | x :: l, i + 1, h => by
    have ih := lflat_get l i (by simpa using h)
    rw [lflat, show (i + 1) * 2 = i * 2 + 2 by omega, List.getElem?_append_right (by rw [encL_length]; omega), List.getElem?_append_right (by rw [encL_length]; omega), encL_length, show i * 2 + 2 - 2 = i * 2 by omega, show i * 2 + 2 + 1 - 2 = i * 2 + 1 by omega]
    simpa using ih
theorem lflat_one (l : List Lk) (x : Lk) : lflat (l ++ [x]) = lflat l ++ encL x := by
  rw [lflat_app]
  show lflat l ++ (encL x ++ []) = _
  rw [List.append_nil]
theorem LinksOut.own {w : World} {base : Nat} {e : TypeId} {v : Value} {l : List Lk} (h : SlIs w base e 2 v l.length (lflat l)) : LinksOut w v l := by
  obtain ⟨ao, cap, rfl, h1, h2, h3⟩ := h.form
  refine ⟨ao, cap, rfl, by unfold maxLen at h2; omega, fun hn => ?_⟩
  obtain ⟨g, off, cap', hv, hg, hlt, _, _, hc, _⟩ := h.at_ hn
  obtain ⟨rfl, _, _⟩ : ao = some ⟨g, off, none⟩ ∧ l.length = l.length ∧ cap = cap' := by simpa using hv
  refine ⟨g, off, rfl, hlt, fun i hi => ?_⟩
  have hl := lflat_length l
  obtain ⟨e0, e1⟩ := lflat_get l i hi
  refine ⟨by rw [hc (i * 2) (by omega)]; exact e0, ?_⟩
  rw [show off + i * 2 + 1 = off + (i * 2 + 1) by omega, hc (i * 2 + 1) (by omega)]; exact e1
/-- How the reference tells two links. -/
def lssL (x y : Lk) : Bool := Op.bytesLess x.2.toList y.2.toList || ((x.2.toList == y.2.toList) && decide (x.1 < y.1))
/-- What with has laid behind the first i links, and whether the new one is among them. -/
def wOut (x : Lk) (f : Nat → Lk) : Nat → List Lk × Bool
  | 0 => ([], false)
  | i + 1 => if (wOut x f i).2 = false ∧ lssL x (f i) = true then ((wOut x f i).1 ++ [x] ++ [f i], true) else ((wOut x f i).1 ++ [f i], (wOut x f i).2)
theorem wOut_length (x : Lk) (f : Nat → Lk) : ∀ i, (wOut x f i).1.length ≤ i + (if (wOut x f i).2 then 1 else 0)
  | 0 => by simp [wOut]
  | i + 1 => by
    have ih := wOut_length x f i
    rw [wOut]
    split
    · next h =>
      rw [h.1] at ih
      simp at ih ⊢
      omega
    · simp only [List.length_append, List.length_singleton]
      omega
def addL (l : List Lk) (x : Lk) : List Lk := if (wOut x (fun i => l[i]!) l.length).2 then (wOut x (fun i => l[i]!) l.length).1 else (wOut x (fun i => l[i]!) l.length).1 ++ [x]
theorem wOut_put {x : Lk} {f : Nat → Lk} {i : Nat} {L : List Lk} {b : Bool} (h : (L, b) = wOut x f i) (hb : b = false) (hl : lssL x (f i) = true) : (L ++ [x] ++ [f i], true) = wOut x f (i + 1) := by
  rw [wOut, ← h, if_pos ⟨hb, hl⟩]
theorem wOut_keep {x : Lk} {f : Nat → Lk} {i : Nat} {L : List Lk} {b : Bool} (h : (L, b) = wOut x f i) (hl : b = true ∨ lssL x (f i) = false) : (L ++ [f i], b) = wOut x f (i + 1) := by
  rw [wOut, ← h, if_neg]
  rintro ⟨h1, h2⟩
  rcases hl with hl | hl
  · simp only at h1; rw [h1] at hl; cases hl
  · rw [hl] at h2; cases h2
/-- A list of links with one more. -/
noncomputable def withL (l : List Lk) (x : Lk) : List Lk := @ite _ (x ∈ l) (Classical.propDecidable _) l (addL l x)
set_option maxRecDepth 100000 in
set_option maxHeartbeats 1000000 in
theorem with_any (v : Value) (l : List Lk) (x : Lk) (w : World) (hv : LinksOut w v l) (hn : l.length ≤ 1000) :
    Calls Try.prog 72 #[v, .agg #[.int .i64 x.1, .string x.2]] w fun e w' => (∃ u, e = .returned u ∧ LinksOut w' u (withL l x)) ∧ Below w.heap.size w w' := by
  have hself : ∀ S : ByteArray, (S.toList == S.toList) = true := fun S => by simp
  have hyes : ∀ i, i < l.length → l[i]! = x → withL l x = l := fun i hi he => by
    unfold withL
    rw [if_pos]
    rw [← he, getElem!_pos l i hi]
    exact List.getElem_mem hi
  have hno : (∀ i, i < l.length → l[i]! ≠ x) → ∀ L b, (L, b) = wOut x (fun i => l[i]!) l.length → withL l x = if b then L else L ++ [x] := fun h L b hL => by
    unfold withL
    rw [if_neg, addL, ← hL]
    intro hm
    obtain ⟨i, hi, he⟩ := List.getElem_of_mem hm
    exact h i hi (by rw [getElem!_pos l i hi, he])
  have hv0 := hv
  obtain ⟨ao, cap, rfl, hl⟩ := hv
  have hz := hl.1
  obtain ⟨F, hF⟩ : ∃ F : Nat → Lk, F = fun i => l[i]! := ⟨_, rfl⟩
  have hFi : ∀ i, l[i]! = F i := fun i => by rw [hF]
  rw [← hF] at hl hno
  simp only [hFi] at hyes hno
  have hb := (Below.refl w.heap.size w).alloc (Nat.le_refl _) (.cells #[.int .i64 x.1, .string x.2] 53)
  obtain ⟨W, hW⟩ : ∃ W, W = w.alloc (.cells #[.int .i64 x.1, .string x.2] 53) := ⟨_, rfl⟩
  have k1 : BlkIs W w.heap.size 53 #[.int .i64 x.1, .string x.2] := by rw [hW]; exact BlkIs.new _ _ _
  rw [← hW] at hb
  have hlt := k1.lt
  have H0 := Lib.hid (And.intro k1 (And.intro (hl.later hb) (And.intro hb (hv0.later hb))))
  have HW := Lib.hid hW
  have HR := Lib.hid (⟨l, rfl⟩ : ∃ l', l' = l)
  have HY := Lib.hid hyes
  have HN := Lib.hid hno
  have HFi := Lib.hid hF
  clear hW k1 hb hl hyes hno hv0 hFi hF
  obtain ⟨x1, x2⟩ := x
  simp only at H0 HW
  obtain ⟨R, hR⟩ : ∃ R, R = withL l (x1, x2) := ⟨_, rfl⟩
  rw [← hR] at HY HN ⊢
  clear hR HR
  obtain ⟨N, hN⟩ : ∃ N, N = l.length := ⟨_, rfl⟩
  rw [← hN] at H0 HY HN hn hz ⊢
  have HLN := Lib.hid hN
  clear hN
  have hlt' : w.heap.size < W.heap.size := hlt
  go_enter Try.func72, Try.ntmps72
  go_wp2_with fail
  rw [← HW.out]
  have hWs : W.heap.size = w.heap.size + 1 := by rw [HW.out]; exact World.size_alloc _ _
  go_loopw [5, 6, 7] (fun o p i wr => ∃ (j : Nat) (L : List Lk) (b : Bool), i = .int .i64 (j : Int) ∧ p = .bool b ∧ j ≤ N ∧ Hid ((L, b) = wOut (x1, x2) F j) ∧ Hid (∀ i, i < j → F i ≠ (x1, x2)) ∧ SlIs wr (w.heap.size + 1) 53 2 o L.length (lflat L) ∧ RowKit.Below W.heap.size W wr) (fun _ _ i _ => ((N : Int) - intOf i).toNat)
  case atStart => exact ⟨0, [], false, rfl, rfl, by omega, Lib.hid rfl, Lib.hid (fun i hi => absurd hi (Nat.not_lt_zero _)), SlIs.made (BlkIs.newAt hWs.symm _ _) (Nat.le_refl _) rfl (by decide), (Below.refl _ _).alloc (Nat.le_refl _) _⟩
  case round =>
    obtain ⟨j, L, b, rfl, rfl, hj, hL, hne, hs, hb⟩ := hrel
    have hLn : L.length ≤ 1001 := by
      have := wOut_length (x1, x2) F j
      rw [← hL.out] at this
      simp only at this
      split at this <;> omega
    obtain ⟨ao1, cap1, rfl, -, -, -⟩ := hs.form
    have H := Lib.hid (And.intro hs hb)
    have k1 := H0.out.1.below hb hlt
    have e0 : wr.cell? ⟨w.heap.size, 0, none⟩ = some (.int .i64 x1) := k1.cell 0
    have e1 : wr.cell? ⟨w.heap.size, 1, none⟩ = some (.string x2) := k1.cell 1
    have hbx := hb.size
    clear hs k1
    rcases Nat.lt_or_ge j N with hj1 | hj1
    case inl =>
      have ji : (j : Int) < N := by omega
      obtain ⟨b1, off, rfl, hbw, hcell⟩ := H0.out.2.1.2 (by omega)
      have c0 := (hcell j hj1).1
      have c1 := (hcell j hj1).2
      rw [← hb.cell hbw] at c0 c1
      generalize hy : F j = y at c0 c1
      obtain ⟨y1, y2⟩ := y
      change wr.cell? ⟨b1, off + j * 2, none⟩ = some (.int .i64 y1) at c0
      change wr.cell? ⟨b1, off + j * 2 + 1, none⟩ = some (.string y2) at c1
      have HYj := Lib.hid hy
      have hcW := hcell j hj1
      rw [hy] at hcW
      clear hcell hy hb
      by_cases hxy : (y1, y2) = (x1, x2)
      case pos =>
        obtain ⟨rfl, rfl⟩ : y1 = x1 ∧ y2 = x2 := by simpa using hxy
        have z := hself y2
        have hR := HY.out j hj1 HYj.out
        clear hxy
        go_wp2_with fail
        go_quiet (fail)
        go_wp2_with fail
        go_ret
        rw [hR]
        have hbb := H.out.2
        exact ⟨⟨_, rfl, H0.out.2.2.2.later (hbb.trans (((DrawsOf.refl wr).drewN _).below _))⟩, H0.out.2.2.1.trans ((hbb.trans (((DrawsOf.refl wr).drewN _).below _)).mono H0.out.2.2.1.size)⟩
      have hnew : Hid (∀ i, i < j + 1 → F i ≠ (x1, x2)) := Lib.hid fun i hi => by
        rcases Nat.lt_or_ge i j with h | h
        · exact hne.out i h
        · obtain rfl : i = j := by omega
          rw [HYj.out]; exact hxy
      have HC := Lib.hid hcW
      have HQ : Hid (∀ q : Nat, SlIs (wr.drewN q) (w.heap.size + 1) 53 2 (.slice ao1 L.length cap1) L.length (lflat L) ∧ RowKit.Below W.heap.size W (wr.drewN q)) := Lib.hid fun q => by
        have hd := ((DrawsOf.refl wr).drewN q).below wr.heap.size
        exact ⟨H.out.1.later hd, H.out.2.trans (hd.mono hbx)⟩
      clear hcW
      rcases eq_false_of_ne hxy with hz | ⟨hz, hz2⟩
      · have z : (y1 == x1) = false := by simpa using hz
        clear hxy
        cases b
        case false =>
          cases hl : Op.bytesLess x2.toList y2.toList
          case true =>
            have HLS := Lib.hid (show lssL (x1, x2) (y1, y2) = true by unfold lssL; simp [hl])
            go_wp2_with fail
            go_quiet (fail)
            go_wp2_with fail
            go_quiet (fail)
            go_wp2_with (first
              | (at_builtin
                 refine wpList_append_sl rfl _ _ _ 50 rfl el_link _ ((L ++ [(x1, x2)])).length (lflat ((L ++ [(x1, x2)]))) rfl (H21.out.1.alloc _) _ 1 (encL (y1, y2)) rfl (SrcIs.own Try.underlying50 (SlIs.made (base := 0) (BlkIs.new _ _ _) (Nat.zero_le _) rfl (by decide))) (by intro u hu; simp [encL] at hu; rcases hu with rfl | rfl <;> rfl) (by unfold maxLen; first | omega | (simp only [List.length_append, List.length_singleton]; omega)) (by first | omega | (simp only [List.length_append, List.length_singleton]; omega)) (by have h := H21.out.2.size; simp only [World.size_alloc]; omega) ?_
                 intro v22 w22 hs22 hg22 hat22
                 have hb22 := (H21.out.2.alloc H21.out.2.size _).grown hg22 (by have h := H21.out.2.size; simp only [World.size_alloc]; omega) fun j hj => by have := (H21.out.1.lt j hj).1; omega
                 have hs22 : SlIs w22 (w.heap.size + 1) 53 2 v22 ((L ++ [(x1, x2)]) ++ [(y1, y2)]).length (lflat ((L ++ [(x1, x2)]) ++ [(y1, y2)])) := by rw [lflat_one, List.length_append]; exact hs22
                 have H22 := Lib.hid (And.intro hs22 hb22)
                 clear hs22 hb22 hg22 hat22)
              | (at_builtin
                 refine wpList_append_sl rfl _ _ _ 50 rfl el_link (.slice ao1 L.length cap1) (L).length (lflat (L)) rfl ((HQ.out _).1.alloc _) _ 1 (encL (x1, x2)) rfl (SrcIs.own Try.underlying50 (SlIs.made (base := 0) (BlkIs.new _ _ _) (Nat.zero_le _) rfl (by decide))) (by intro u hu; simp [encL] at hu; rcases hu with rfl | rfl <;> rfl) (by unfold maxLen; first | omega | (simp only [List.length_append, List.length_singleton]; omega)) (by first | omega | (simp only [List.length_append, List.length_singleton]; omega)) (by simp only [World.size_alloc]; show w.heap.size + 1 ≤ wr.heap.size + 1; omega) ?_
                 intro v21 w21 hs21 hg21 hat21
                 have hb21 := ((HQ.out _).2.alloc (HQ.out _).2.size _).grown hg21 (by simp only [World.size_alloc]; show W.heap.size ≤ wr.heap.size + 1; omega) fun j hj => by have := ((HQ.out 0).1.lt j hj).1; omega
                 have hs21 : SlIs w21 (w.heap.size + 1) 53 2 v21 (L ++ [(x1, x2)]).length (lflat (L ++ [(x1, x2)])) := by rw [lflat_one, List.length_append]; exact hs21
                 have H21 := Lib.hid (And.intro hs21 hb21)
                 have c0' : w21.cell? ⟨b1, off + j * 2, none⟩ = some (.int .i64 y1) := by rw [H21.out.2.cell hbw]; exact HC.out.1
                 have c1' : w21.cell? ⟨b1, off + j * 2 + 1, none⟩ = some (.string y2) := by rw [H21.out.2.cell hbw]; exact HC.out.2
                 clear hs21 hb21 hg21 hat21))
            refine ⟨⟨j + 1, L ++ [(x1, x2)] ++ [(y1, y2)], true, rfl, rfl, hj1, Lib.hid ?_, hnew, H22.out.1, H22.out.2⟩, ?_⟩
            · have h := wOut_put hL.out rfl (by rw [HYj.out]; exact HLS.out)
              rw [HYj.out] at h
              exact h
            · simp [intOf]
              omega
          case false =>
            by_cases h2 : x2 = y2
            case neg =>
              have e := ne_list h2
              have HLS := Lib.hid (show lssL (x1, x2) (y1, y2) = false by unfold lssL; rw [hl, e]; rfl)
              clear h2
              go_wp2_with fail
              go_quiet (fail)
              go_wp2_with fail
              go_quiet (fail)
              go_wp2_with (first
                | (at_builtin
                   refine wpList_append_sl rfl _ _ _ 50 rfl el_link (.slice ao1 L.length cap1) (L).length (lflat (L)) rfl ((HQ.out _).1.alloc _) _ 1 (encL (y1, y2)) rfl (SrcIs.own Try.underlying50 (SlIs.made (base := 0) (BlkIs.new _ _ _) (Nat.zero_le _) rfl (by decide))) (by intro u hu; simp [encL] at hu; rcases hu with rfl | rfl <;> rfl) (by unfold maxLen; first | omega | (simp only [List.length_append, List.length_singleton]; omega)) (by first | omega | (simp only [List.length_append, List.length_singleton]; omega)) (by simp only [World.size_alloc]; show w.heap.size + 1 ≤ wr.heap.size + 1; omega) ?_
                   intro v21 w21 hs21 hg21 hat21
                   have hb21 := ((HQ.out _).2.alloc (HQ.out _).2.size _).grown hg21 (by simp only [World.size_alloc]; show W.heap.size ≤ wr.heap.size + 1; omega) fun j hj => by have := ((HQ.out 0).1.lt j hj).1; omega
                   have hs21 : SlIs w21 (w.heap.size + 1) 53 2 v21 (L ++ [(y1, y2)]).length (lflat (L ++ [(y1, y2)])) := by rw [lflat_one, List.length_append]; exact hs21
                   have H21 := Lib.hid (And.intro hs21 hb21)
                   clear hs21 hb21 hg21 hat21))
              refine ⟨⟨j + 1, L ++ [(y1, y2)], false, rfl, rfl, hj1, Lib.hid ?_, hnew, H21.out.1, H21.out.2⟩, ?_⟩
              · have h := wOut_keep hL.out (by first | exact Or.inl rfl | exact Or.inr (by rw [HYj.out]; exact HLS.out))
                rw [HYj.out] at h
                exact h
              · simp [intOf]
                omega
            obtain rfl : x2 = y2 := h2
            have e := hself x2
            by_cases h3 : x1 < y1
            case pos =>
              have HLS := Lib.hid (show lssL (x1, x2) (y1, x2) = true by unfold lssL; simp [h3])
              go_wp2_with fail
              go_quiet (fail)
              go_wp2_with fail
              go_quiet (fail)
              go_wp2_with (first
                | (at_builtin
                   refine wpList_append_sl rfl _ _ _ 50 rfl el_link _ ((L ++ [(x1, x2)])).length (lflat ((L ++ [(x1, x2)]))) rfl (H21.out.1.alloc _) _ 1 (encL (y1, x2)) rfl (SrcIs.own Try.underlying50 (SlIs.made (base := 0) (BlkIs.new _ _ _) (Nat.zero_le _) rfl (by decide))) (by intro u hu; simp [encL] at hu; rcases hu with rfl | rfl <;> rfl) (by unfold maxLen; first | omega | (simp only [List.length_append, List.length_singleton]; omega)) (by first | omega | (simp only [List.length_append, List.length_singleton]; omega)) (by have h := H21.out.2.size; simp only [World.size_alloc]; omega) ?_
                   intro v22 w22 hs22 hg22 hat22
                   have hb22 := (H21.out.2.alloc H21.out.2.size _).grown hg22 (by have h := H21.out.2.size; simp only [World.size_alloc]; omega) fun j hj => by have := (H21.out.1.lt j hj).1; omega
                   have hs22 : SlIs w22 (w.heap.size + 1) 53 2 v22 ((L ++ [(x1, x2)]) ++ [(y1, x2)]).length (lflat ((L ++ [(x1, x2)]) ++ [(y1, x2)])) := by rw [lflat_one, List.length_append]; exact hs22
                   have H22 := Lib.hid (And.intro hs22 hb22)
                   clear hs22 hb22 hg22 hat22)
                | (at_builtin
                   refine wpList_append_sl rfl _ _ _ 50 rfl el_link (.slice ao1 L.length cap1) (L).length (lflat (L)) rfl ((HQ.out _).1.alloc _) _ 1 (encL (x1, x2)) rfl (SrcIs.own Try.underlying50 (SlIs.made (base := 0) (BlkIs.new _ _ _) (Nat.zero_le _) rfl (by decide))) (by intro u hu; simp [encL] at hu; rcases hu with rfl | rfl <;> rfl) (by unfold maxLen; first | omega | (simp only [List.length_append, List.length_singleton]; omega)) (by first | omega | (simp only [List.length_append, List.length_singleton]; omega)) (by simp only [World.size_alloc]; show w.heap.size + 1 ≤ wr.heap.size + 1; omega) ?_
                   intro v21 w21 hs21 hg21 hat21
                   have hb21 := ((HQ.out _).2.alloc (HQ.out _).2.size _).grown hg21 (by simp only [World.size_alloc]; show W.heap.size ≤ wr.heap.size + 1; omega) fun j hj => by have := ((HQ.out 0).1.lt j hj).1; omega
                   have hs21 : SlIs w21 (w.heap.size + 1) 53 2 v21 (L ++ [(x1, x2)]).length (lflat (L ++ [(x1, x2)])) := by rw [lflat_one, List.length_append]; exact hs21
                   have H21 := Lib.hid (And.intro hs21 hb21)
                   have c0' : w21.cell? ⟨b1, off + j * 2, none⟩ = some (.int .i64 y1) := by rw [H21.out.2.cell hbw]; exact HC.out.1
                   have c1' : w21.cell? ⟨b1, off + j * 2 + 1, none⟩ = some (.string x2) := by rw [H21.out.2.cell hbw]; exact HC.out.2
                   clear hs21 hb21 hg21 hat21))
              refine ⟨⟨j + 1, L ++ [(x1, x2)] ++ [(y1, x2)], true, rfl, rfl, hj1, Lib.hid ?_, hnew, H22.out.1, H22.out.2⟩, ?_⟩
              · have h := wOut_put hL.out rfl (by rw [HYj.out]; exact HLS.out)
                rw [HYj.out] at h
                exact h
              · simp [intOf]
                omega
            case neg =>
              have h4 : decide (x1 < y1) = false := decide_eq_false h3
              have HLS := Lib.hid (show lssL (x1, x2) (y1, x2) = false by unfold lssL; rw [hl, h4]; simp)
              clear h3
              go_wp2_with fail
              go_quiet (fail)
              go_wp2_with fail
              go_quiet (fail)
              go_wp2_with (first
                | (at_builtin
                   refine wpList_append_sl rfl _ _ _ 50 rfl el_link (.slice ao1 L.length cap1) (L).length (lflat (L)) rfl ((HQ.out _).1.alloc _) _ 1 (encL (y1, x2)) rfl (SrcIs.own Try.underlying50 (SlIs.made (base := 0) (BlkIs.new _ _ _) (Nat.zero_le _) rfl (by decide))) (by intro u hu; simp [encL] at hu; rcases hu with rfl | rfl <;> rfl) (by unfold maxLen; first | omega | (simp only [List.length_append, List.length_singleton]; omega)) (by first | omega | (simp only [List.length_append, List.length_singleton]; omega)) (by simp only [World.size_alloc]; show w.heap.size + 1 ≤ wr.heap.size + 1; omega) ?_
                   intro v21 w21 hs21 hg21 hat21
                   have hb21 := ((HQ.out _).2.alloc (HQ.out _).2.size _).grown hg21 (by simp only [World.size_alloc]; show W.heap.size ≤ wr.heap.size + 1; omega) fun j hj => by have := ((HQ.out 0).1.lt j hj).1; omega
                   have hs21 : SlIs w21 (w.heap.size + 1) 53 2 v21 (L ++ [(y1, x2)]).length (lflat (L ++ [(y1, x2)])) := by rw [lflat_one, List.length_append]; exact hs21
                   have H21 := Lib.hid (And.intro hs21 hb21)
                   clear hs21 hb21 hg21 hat21))
              refine ⟨⟨j + 1, L ++ [(y1, x2)], false, rfl, rfl, hj1, Lib.hid ?_, hnew, H21.out.1, H21.out.2⟩, ?_⟩
              · have h := wOut_keep hL.out (by first | exact Or.inl rfl | exact Or.inr (by rw [HYj.out]; exact HLS.out))
                rw [HYj.out] at h
                exact h
              · simp [intOf]
                omega
        case true =>

          go_wp2_with fail
          go_quiet (fail)
          go_wp2_with fail
          go_quiet (fail)
          go_wp2_with (first
            | (at_builtin
               refine wpList_append_sl rfl _ _ _ 50 rfl el_link (.slice ao1 L.length cap1) (L).length (lflat (L)) rfl ((HQ.out _).1.alloc _) _ 1 (encL (y1, y2)) rfl (SrcIs.own Try.underlying50 (SlIs.made (base := 0) (BlkIs.new _ _ _) (Nat.zero_le _) rfl (by decide))) (by intro u hu; simp [encL] at hu; rcases hu with rfl | rfl <;> rfl) (by unfold maxLen; first | omega | (simp only [List.length_append, List.length_singleton]; omega)) (by first | omega | (simp only [List.length_append, List.length_singleton]; omega)) (by simp only [World.size_alloc]; show w.heap.size + 1 ≤ wr.heap.size + 1; omega) ?_
               intro v21 w21 hs21 hg21 hat21
               have hb21 := ((HQ.out _).2.alloc (HQ.out _).2.size _).grown hg21 (by simp only [World.size_alloc]; show W.heap.size ≤ wr.heap.size + 1; omega) fun j hj => by have := ((HQ.out 0).1.lt j hj).1; omega
               have hs21 : SlIs w21 (w.heap.size + 1) 53 2 v21 (L ++ [(y1, y2)]).length (lflat (L ++ [(y1, y2)])) := by rw [lflat_one, List.length_append]; exact hs21
               have H21 := Lib.hid (And.intro hs21 hb21)
               clear hs21 hb21 hg21 hat21))
          refine ⟨⟨j + 1, L ++ [(y1, y2)], true, rfl, rfl, hj1, Lib.hid ?_, hnew, H21.out.1, H21.out.2⟩, ?_⟩
          · have h := wOut_keep hL.out (by first | exact Or.inl rfl | exact Or.inr (by rw [HYj.out]; exact HLS.out))
            rw [HYj.out] at h
            exact h
          · simp [intOf]
            omega
      · obtain rfl : x1 = y1 := hz.symm
        have z := ne_list hz2
        clear hxy
        cases b
        case false =>
          cases hl : Op.bytesLess x2.toList y2.toList
          case true =>
            have HLS := Lib.hid (show lssL (x1, x2) (x1, y2) = true by unfold lssL; simp [hl])
            go_wp2_with fail
            go_quiet (fail)
            go_wp2_with fail
            go_quiet (fail)
            go_wp2_with (first
              | (at_builtin
                 refine wpList_append_sl rfl _ _ _ 50 rfl el_link _ ((L ++ [(x1, x2)])).length (lflat ((L ++ [(x1, x2)]))) rfl (H21.out.1.alloc _) _ 1 (encL (x1, y2)) rfl (SrcIs.own Try.underlying50 (SlIs.made (base := 0) (BlkIs.new _ _ _) (Nat.zero_le _) rfl (by decide))) (by intro u hu; simp [encL] at hu; rcases hu with rfl | rfl <;> rfl) (by unfold maxLen; first | omega | (simp only [List.length_append, List.length_singleton]; omega)) (by first | omega | (simp only [List.length_append, List.length_singleton]; omega)) (by have h := H21.out.2.size; simp only [World.size_alloc]; omega) ?_
                 intro v22 w22 hs22 hg22 hat22
                 have hb22 := (H21.out.2.alloc H21.out.2.size _).grown hg22 (by have h := H21.out.2.size; simp only [World.size_alloc]; omega) fun j hj => by have := (H21.out.1.lt j hj).1; omega
                 have hs22 : SlIs w22 (w.heap.size + 1) 53 2 v22 ((L ++ [(x1, x2)]) ++ [(x1, y2)]).length (lflat ((L ++ [(x1, x2)]) ++ [(x1, y2)])) := by rw [lflat_one, List.length_append]; exact hs22
                 have H22 := Lib.hid (And.intro hs22 hb22)
                 clear hs22 hb22 hg22 hat22)
              | (at_builtin
                 refine wpList_append_sl rfl _ _ _ 50 rfl el_link (.slice ao1 L.length cap1) (L).length (lflat (L)) rfl ((HQ.out _).1.alloc _) _ 1 (encL (x1, x2)) rfl (SrcIs.own Try.underlying50 (SlIs.made (base := 0) (BlkIs.new _ _ _) (Nat.zero_le _) rfl (by decide))) (by intro u hu; simp [encL] at hu; rcases hu with rfl | rfl <;> rfl) (by unfold maxLen; first | omega | (simp only [List.length_append, List.length_singleton]; omega)) (by first | omega | (simp only [List.length_append, List.length_singleton]; omega)) (by simp only [World.size_alloc]; show w.heap.size + 1 ≤ wr.heap.size + 1; omega) ?_
                 intro v21 w21 hs21 hg21 hat21
                 have hb21 := ((HQ.out _).2.alloc (HQ.out _).2.size _).grown hg21 (by simp only [World.size_alloc]; show W.heap.size ≤ wr.heap.size + 1; omega) fun j hj => by have := ((HQ.out 0).1.lt j hj).1; omega
                 have hs21 : SlIs w21 (w.heap.size + 1) 53 2 v21 (L ++ [(x1, x2)]).length (lflat (L ++ [(x1, x2)])) := by rw [lflat_one, List.length_append]; exact hs21
                 have H21 := Lib.hid (And.intro hs21 hb21)
                 have c0' : w21.cell? ⟨b1, off + j * 2, none⟩ = some (.int .i64 x1) := by rw [H21.out.2.cell hbw]; exact HC.out.1
                 have c1' : w21.cell? ⟨b1, off + j * 2 + 1, none⟩ = some (.string y2) := by rw [H21.out.2.cell hbw]; exact HC.out.2
                 clear hs21 hb21 hg21 hat21))
            refine ⟨⟨j + 1, L ++ [(x1, x2)] ++ [(x1, y2)], true, rfl, rfl, hj1, Lib.hid ?_, hnew, H22.out.1, H22.out.2⟩, ?_⟩
            · have h := wOut_put hL.out rfl (by rw [HYj.out]; exact HLS.out)
              rw [HYj.out] at h
              exact h
            · simp [intOf]
              omega
          case false =>
            have e := ne_list (Ne.symm hz2)
            have HLS := Lib.hid (show lssL (x1, x2) (x1, y2) = false by unfold lssL; rw [hl, e]; rfl)
            clear hz2
            go_wp2_with fail
            go_quiet (fail)
            go_wp2_with fail
            go_quiet (fail)
            go_wp2_with (first
              | (at_builtin
                 refine wpList_append_sl rfl _ _ _ 50 rfl el_link (.slice ao1 L.length cap1) (L).length (lflat (L)) rfl ((HQ.out _).1.alloc _) _ 1 (encL (x1, y2)) rfl (SrcIs.own Try.underlying50 (SlIs.made (base := 0) (BlkIs.new _ _ _) (Nat.zero_le _) rfl (by decide))) (by intro u hu; simp [encL] at hu; rcases hu with rfl | rfl <;> rfl) (by unfold maxLen; first | omega | (simp only [List.length_append, List.length_singleton]; omega)) (by first | omega | (simp only [List.length_append, List.length_singleton]; omega)) (by simp only [World.size_alloc]; show w.heap.size + 1 ≤ wr.heap.size + 1; omega) ?_
                 intro v21 w21 hs21 hg21 hat21
                 have hb21 := ((HQ.out _).2.alloc (HQ.out _).2.size _).grown hg21 (by simp only [World.size_alloc]; show W.heap.size ≤ wr.heap.size + 1; omega) fun j hj => by have := ((HQ.out 0).1.lt j hj).1; omega
                 have hs21 : SlIs w21 (w.heap.size + 1) 53 2 v21 (L ++ [(x1, y2)]).length (lflat (L ++ [(x1, y2)])) := by rw [lflat_one, List.length_append]; exact hs21
                 have H21 := Lib.hid (And.intro hs21 hb21)
                 clear hs21 hb21 hg21 hat21))
            refine ⟨⟨j + 1, L ++ [(x1, y2)], false, rfl, rfl, hj1, Lib.hid ?_, hnew, H21.out.1, H21.out.2⟩, ?_⟩
            · have h := wOut_keep hL.out (by first | exact Or.inl rfl | exact Or.inr (by rw [HYj.out]; exact HLS.out))
              rw [HYj.out] at h
              exact h
            · simp [intOf]
              omega
        case true =>

          go_wp2_with fail
          go_quiet (fail)
          go_wp2_with fail
          go_quiet (fail)
          go_wp2_with (first
            | (at_builtin
               refine wpList_append_sl rfl _ _ _ 50 rfl el_link (.slice ao1 L.length cap1) (L).length (lflat (L)) rfl ((HQ.out _).1.alloc _) _ 1 (encL (x1, y2)) rfl (SrcIs.own Try.underlying50 (SlIs.made (base := 0) (BlkIs.new _ _ _) (Nat.zero_le _) rfl (by decide))) (by intro u hu; simp [encL] at hu; rcases hu with rfl | rfl <;> rfl) (by unfold maxLen; first | omega | (simp only [List.length_append, List.length_singleton]; omega)) (by first | omega | (simp only [List.length_append, List.length_singleton]; omega)) (by simp only [World.size_alloc]; show w.heap.size + 1 ≤ wr.heap.size + 1; omega) ?_
               intro v21 w21 hs21 hg21 hat21
               have hb21 := ((HQ.out _).2.alloc (HQ.out _).2.size _).grown hg21 (by simp only [World.size_alloc]; show W.heap.size ≤ wr.heap.size + 1; omega) fun j hj => by have := ((HQ.out 0).1.lt j hj).1; omega
               have hs21 : SlIs w21 (w.heap.size + 1) 53 2 v21 (L ++ [(x1, y2)]).length (lflat (L ++ [(x1, y2)])) := by rw [lflat_one, List.length_append]; exact hs21
               have H21 := Lib.hid (And.intro hs21 hb21)
               clear hs21 hb21 hg21 hat21))
          refine ⟨⟨j + 1, L ++ [(x1, y2)], true, rfl, rfl, hj1, Lib.hid ?_, hnew, H21.out.1, H21.out.2⟩, ?_⟩
          · have h := wOut_keep hL.out (by first | exact Or.inl rfl | exact Or.inr (by rw [HYj.out]; exact HLS.out))
            rw [HYj.out] at h
            exact h
          · simp [intOf]
            omega
    case inr =>
      have ji : (N : Int) ≤ j := by omega
      obtain rfl : j = N := by omega
      have hR := HN.out hne.out L b hL.out
      subst hR
      clear HN
      cases b
      case true =>
        go_wp2_with fail
        go_ret
        exact ⟨⟨_, rfl, LinksOut.own H.out.1⟩, H0.out.2.2.1.trans (H.out.2.mono H0.out.2.2.1.size)⟩
      case false =>
        go_wp2_with (first
          | (at_builtin
             refine wpList_append_sl rfl _ _ _ 50 rfl el_link (.slice ao1 L.length cap1) (L).length (lflat (L)) rfl (H.out.1.alloc _) _ 1 (encL (x1, x2)) rfl (SrcIs.own Try.underlying50 (SlIs.made (base := 0) (BlkIs.new _ _ _) (Nat.zero_le _) rfl (by decide))) (by intro u hu; simp [encL] at hu; rcases hu with rfl | rfl <;> rfl) (by unfold maxLen; first | omega | (simp only [List.length_append, List.length_singleton]; omega)) (by first | omega | (simp only [List.length_append, List.length_singleton]; omega)) (by have h := H.out.2.size; simp only [World.size_alloc]; omega) ?_
             intro v21 w21 hs21 hg21 hat21
             have hb21 := (H.out.2.alloc H.out.2.size _).grown hg21 (by have h := H.out.2.size; simp only [World.size_alloc]; omega) fun j hj => by have := (H.out.1.lt j hj).1; omega
             have hs21 : SlIs w21 (w.heap.size + 1) 53 2 v21 (L ++ [(x1, x2)]).length (lflat (L ++ [(x1, x2)])) := by rw [lflat_one, List.length_append]; exact hs21
             have H21 := Lib.hid (And.intro hs21 hb21)
             clear hs21 hb21 hg21 hat21))
        go_ret
        exact ⟨⟨_, rfl, LinksOut.own H21.out.1⟩, H0.out.2.2.1.trans (H21.out.2.mono H0.out.2.2.1.size)⟩
end Go.Proofs.Ytmdchfmcghiaeaa.Obj
