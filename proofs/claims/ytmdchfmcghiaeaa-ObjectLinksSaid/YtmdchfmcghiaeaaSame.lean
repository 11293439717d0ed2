/- The reference's Same, of any two objects. No conditions but the slices' own cells. -/
import Derived.Test.YtmdchfmcghiaeaaRefSame
import Derived.Test.YtmdchfmcghiaeaaBackLaw
namespace Go.Proofs.Ytmdchfmcghiaeaa.Obj
open Go.RowKit
open Classical in
noncomputable def alikeB (a b : Plain) : Bool := @decide (alike a b) (Classical.propDecidable _)
theorem alikeB_true {a b : Plain} (h : alike a b) : alikeB a b = true := @decide_eq_true _ (Classical.propDecidable _) h
theorem alikeB_false {a b : Plain} (h : ¬ alike a b) : alikeB a b = false := @decide_eq_false _ (Classical.propDecidable _) h
theorem ne_list {S T : ByteArray} (h : S ≠ T) : (S.toList == T.toList) = false := by
  cases hx : (S.toList == T.toList)
  · rfl
  · exfalso
    apply h
    have := eq_of_beq hx
    rw [ByteArray.toList_eq, ByteArray.toList_eq] at this
    apply ByteArray.ext
    apply Array.ext'
    exact this
set_option maxRecDepth 100000 in
set_option maxHeartbeats 1000000 in
theorem same_any (a b : Plain) (es ps es' ps' : Value) (w : World) (he : EntsV w es a) (hp : StrsV w ps a) (he' : EntsV w es' b) (hp' : StrsV w ps' b) :
    Calls Try.prog 22 #[obj a.k a.d es a.t ps a.h a.n, obj b.k b.d es' b.t ps' b.h b.n] w fun e w' => e = .returned (.bool (alikeB a b)) ∧ Below w.heap.size w w' := by
  obtain ⟨g, hg⟩ : ∃ g, g = alikeB a b := ⟨_, rfl⟩
  have hT : alike a b → g = true := fun h => by rw [hg]; exact alikeB_true h
  have hF : ¬ alike a b → g = false := fun h => by rw [hg]; exact alikeB_false h
  rw [← hg]
  clear hg
  obtain ⟨k, d, ne, nm, kd, id, t, np, f, h, n⟩ := a
  obtain ⟨k', d', ne', nm', kd', id', t', np', f', h', n'⟩ := b
  obtain ⟨ao, cap, rfl, he⟩ := he
  obtain ⟨ap, cp, rfl, hp⟩ := hp
  obtain ⟨bo, bcap, rfl, he'⟩ := he'
  obtain ⟨bp, bcp, rfl, hp'⟩ := hp'
  simp only at he hp he' hp' ⊢
  unfold alike at hT hF
  simp only at hT hF
  have hself : ∀ S : ByteArray, (S.toList == S.toList) = true := fun S => by simp
  have hT := Lib.hid hT
  have hF := Lib.hid hF
  have hb := ((Below.refl w.heap.size w).alloc (Nat.le_refl _) (.cells #[.int .i64 k, .string d, .slice ao ne cap, .string t, .slice ap np cp, .int .i64 h, .string n] 34)).alloc (by simp) (.cells #[.int .i64 k', .string d', .slice bo ne' bcap, .string t', .slice bp np' bcp, .int .i64 h', .string n'] 34)
  unfold obj
  by_cases q0 : k = k'
  case neg =>
    have hFx := Lib.hid (hF.out fun h => q0 h.1)
    have z : (k == k') = false := by simpa using q0
    have hbx := Lib.hid hb
    clear hb hT hF hself he hp he' hp'
    go_enter Try.func22, Try.ntmps22
    go_wp2_with fail
    go_ret
    exact ⟨by first | (rw [hFx.out]; rfl) | rfl, hbx.out⟩
  by_cases q1 : d = d'
  case neg =>
    have hFx := Lib.hid (hF.out fun h => q1 h.2.1)
    subst q0
    have z := ne_list q1
    have hbx := Lib.hid hb
    clear hb hT hF hself he hp he' hp'
    go_enter Try.func22, Try.ntmps22
    go_wp2_with fail
    go_ret
    exact ⟨by first | (rw [hFx.out]; rfl) | rfl, hbx.out⟩
  by_cases q2 : ne = ne'
  case neg =>
    have hFx := Lib.hid (hF.out fun h => q2 h.2.2.1)
    subst q0
    subst q1
    have s1 := hself d
    have z : ((ne : Int) == (ne' : Int)) = false := by rw [beq_eq_false_iff_ne]; omega
    have hbx := Lib.hid hb
    clear hb hT hF hself he hp he' hp'
    go_enter Try.func22, Try.ntmps22
    go_wp2_with fail
    go_ret
    exact ⟨by first | (rw [hFx.out]; rfl) | rfl, hbx.out⟩
  by_cases q3 : t = t'
  case neg =>
    have hFx := Lib.hid (hF.out fun h => q3 h.2.2.2.2.1)
    subst q0
    subst q1
    subst q2
    have s1 := hself d
    have z := ne_list q3
    have hbx := Lib.hid hb
    clear hb hT hF hself he hp he' hp'
    go_enter Try.func22, Try.ntmps22
    go_wp2_with fail
    go_ret
    exact ⟨by first | (rw [hFx.out]; rfl) | rfl, hbx.out⟩
  by_cases q4 : np = np'
  case neg =>
    have hFx := Lib.hid (hF.out fun h => q4 h.2.2.2.2.2.1)
    subst q0
    subst q1
    subst q2
    subst q3
    have s1 := hself d
    have s3 := hself t
    have z : ((np : Int) == (np' : Int)) = false := by rw [beq_eq_false_iff_ne]; omega
    have hbx := Lib.hid hb
    clear hb hT hF hself he hp he' hp'
    go_enter Try.func22, Try.ntmps22
    go_wp2_with fail
    go_ret
    exact ⟨by first | (rw [hFx.out]; rfl) | rfl, hbx.out⟩
  by_cases q5 : h = h'
  case neg =>
    have hFx := Lib.hid (hF.out fun h => q5 h.2.2.2.2.2.2.2.1)
    subst q0
    subst q1
    subst q2
    subst q3
    subst q4
    have s1 := hself d
    have s3 := hself t
    have z : (h == h') = false := by simpa using q5
    have hbx := Lib.hid hb
    clear hb hT hF hself he hp he' hp'
    go_enter Try.func22, Try.ntmps22
    go_wp2_with fail
    go_ret
    exact ⟨by first | (rw [hFx.out]; rfl) | rfl, hbx.out⟩
  by_cases q6 : n = n'
  case neg =>
    have hFx := Lib.hid (hF.out fun h => q6 h.2.2.2.2.2.2.2.2)
    subst q0
    subst q1
    subst q2
    subst q3
    subst q4
    subst q5
    have s1 := hself d
    have s3 := hself t
    have z := ne_list q6
    have hbx := Lib.hid hb
    clear hb hT hF hself he hp he' hp'
    go_enter Try.func22, Try.ntmps22
    go_wp2_with fail
    go_ret
    exact ⟨by first | (rw [hFx.out]; rfl) | rfl, hbx.out⟩
  subst q0 q1 q2 q3 q4 q5 q6
  have s1 := hself d
  have s2 := hself t
  have s3 := hself n
  have hT2 : (∀ i, i < ne → nm i = nm' i ∧ kd i = kd' i ∧ id i = id' i) → (∀ i, i < np → f i = f' i) → g = true := fun h1 h2 => hT.out ⟨rfl, rfl, rfl, h1, rfl, rfl, h2, rfl, rfl⟩
  have hF1 : ∀ i, i < ne → ¬ (nm i = nm' i ∧ kd i = kd' i ∧ id i = id' i) → g = false := fun i hi hn => hF.out fun h => hn (h.2.2.2.1 i hi)
  have hF2 : ∀ i, i < np → ¬ (f i = f' i) → g = false := fun i hi hn => hF.out fun h => hn (h.2.2.2.2.2.2.1 i hi)
  clear hT hF
  obtain ⟨W, hW⟩ : ∃ W, W = (w.alloc (.cells #[.int .i64 k, .string d, .slice ao ne cap, .string t, .slice ap np cp, .int .i64 h, .string n] 34)).alloc (.cells #[.int .i64 k, .string d, .slice bo ne bcap, .string t, .slice bp np bcp, .int .i64 h, .string n] 34) := ⟨_, rfl⟩
  have k1 : BlkIs W w.heap.size 34 #[.int .i64 k, .string d, .slice ao ne cap, .string t, .slice ap np cp, .int .i64 h, .string n] := by rw [hW]; exact (BlkIs.new _ _ _).alloc _
  have k2 : BlkIs W (w.heap.size + 1) 34 #[.int .i64 k, .string d, .slice bo ne bcap, .string t, .slice bp np bcp, .int .i64 h, .string n] := by rw [hW]; exact BlkIs.new2 _ _ _ _
  rw [← hW] at hb
  have hm1 := he.1
  have hm2 := hp.1
  have H0 := Lib.hid (And.intro k1 (And.intro k2 (And.intro (he.later hb) (And.intro (hp.later hb) (And.intro (he'.later hb) (And.intro (hp'.later hb) hb))))))
  have HT := Lib.hid hT2
  have HF1 := Lib.hid hF1
  have HF2 := Lib.hid hF2
  have HW := Lib.hid hW
  have hlt1 := k1.lt
  have hlt2 := k2.lt
  clear hW k1 k2 he hp he' hp' hb hT2 hF1 hF2
  go_enter Try.func22, Try.ntmps22
  go_wp2_with fail
  rw [← HW.out]
  clear s1 s2 s3
  go_loopw [5] (fun i wr => ∃ j : Nat, i = .int .i64 (j : Int) ∧ j ≤ ne ∧ Hid (∀ i, i < j → nm i = nm' i ∧ kd i = kd' i ∧ id i = id' i) ∧ DrawsOf W wr) (fun i _ => ((ne : Int) - intOf i).toNat)
  case atStart => exact ⟨0, rfl, by omega, Lib.hid (fun i hi => absurd hi (Nat.not_lt_zero _)), DrawsOf.refl _⟩
  case round =>
    obtain ⟨j, rfl, hj, hall, hd⟩ := hrel
    have c2 : wr.cell? ⟨w.heap.size, 2, none⟩ = some (.slice ao ne cap) := by rw [hd.cell]; exact H0.out.1.cell 2
    have e2 : wr.cell? ⟨w.heap.size + 1, 2, none⟩ = some (.slice bo ne bcap) := by rw [hd.cell]; exact H0.out.2.1.cell 2
    rcases Nat.lt_or_ge j ne with hj1 | hj1
    case inl =>
      have ji : (j : Int) < ne := by omega
      obtain ⟨b, off, rfl, hbw, hcell⟩ := H0.out.2.2.1.2 (by omega)
      obtain ⟨b', off', rfl, hbw', hcell'⟩ := H0.out.2.2.2.2.1.2 (by omega)
      have p0 : wr.cell? ⟨b, off + j * 3, none⟩ = some (.string (nm j)) := by rw [hd.cell]; exact (hcell j hj1).1
      have p1 : wr.cell? ⟨b, off + j * 3 + 1, none⟩ = some (.int .i64 (kd j)) := by rw [hd.cell]; exact (hcell j hj1).2.1
      have p2 : wr.cell? ⟨b, off + j * 3 + 2, none⟩ = some (.string (id j)) := by rw [hd.cell]; exact (hcell j hj1).2.2
      have q0 : wr.cell? ⟨b', off' + j * 3, none⟩ = some (.string (nm' j)) := by rw [hd.cell]; exact (hcell' j hj1).1
      have q1 : wr.cell? ⟨b', off' + j * 3 + 1, none⟩ = some (.int .i64 (kd' j)) := by rw [hd.cell]; exact (hcell' j hj1).2.1
      have q2 : wr.cell? ⟨b', off' + j * 3 + 2, none⟩ = some (.string (id' j)) := by rw [hd.cell]; exact (hcell' j hj1).2.2
      have Hd := Lib.hid hd
      clear hcell hcell' hd
      by_cases y0 : nm j = nm' j
      case neg =>
        have z := ne_list y0
        have hg := Lib.hid (HF1.out j hj1 fun h => y0 h.1)
        clear y0
        go_wp2_with fail
        go_quiet (fail)
        go_wp2_with fail
        go_ret
        exact ⟨by first | (rw [hg.out]; rfl) | rfl, H0.out.2.2.2.2.2.2.trans (((Hd.out.drewN _).below W.heap.size).mono H0.out.2.2.2.2.2.2.size)⟩
      by_cases y1 : kd j = kd' j
      case neg =>
        rw [← y0] at q0
        have z0 := hself (nm j)
        have z : (kd j == kd' j) = false := by simpa using y1
        have hg := Lib.hid (HF1.out j hj1 fun h => y1 h.2.1)
        clear y0 y1
        go_wp2_with fail
        go_quiet (fail)
        go_wp2_with fail
        go_ret
        exact ⟨by first | (rw [hg.out]; rfl) | rfl, H0.out.2.2.2.2.2.2.trans (((Hd.out.drewN _).below W.heap.size).mono H0.out.2.2.2.2.2.2.size)⟩
      by_cases y2 : id j = id' j
      case neg =>
        rw [← y0] at q0
        rw [← y1] at q1
        have z0 := hself (nm j)
        have z := ne_list y2
        have hg := Lib.hid (HF1.out j hj1 fun h => y2 h.2.2)
        clear y0 y1 y2
        go_wp2_with fail
        go_quiet (fail)
        go_wp2_with fail
        go_ret
        exact ⟨by first | (rw [hg.out]; rfl) | rfl, H0.out.2.2.2.2.2.2.trans (((Hd.out.drewN _).below W.heap.size).mono H0.out.2.2.2.2.2.2.size)⟩
      rw [← y0] at q0
      rw [← y1] at q1
      rw [← y2] at q2
      have s1 := hself (nm j)
      have s2 := hself (id j)
      have hnew : Hid (∀ i, i < j + 1 → nm i = nm' i ∧ kd i = kd' i ∧ id i = id' i) := Lib.hid fun i hi => by
        rcases Nat.lt_or_ge i j with h | h
        · exact hall.out i h
        · obtain rfl : i = j := by omega
          exact ⟨y0, y1, y2⟩
      clear y0 y1 y2 hall
      go_wp2_with fail
      go_quiet (fail)
      go_wp2_with fail
      refine ⟨⟨j + 1, rfl, hj1, hnew, Hd.out.drewN _⟩, ?_⟩
      simp [intOf]
      omega
    case inr =>
      have ji : (ne : Int) ≤ (j : Int) := by omega
      obtain rfl : j = ne := by omega
      have Hd := Lib.hid hd
      clear hd hj hj1
      go_wp2_with fail
      clear c2 e2 ji
      go_loopw [6] (fun i wr' => ∃ m : Nat, i = .int .i64 (m : Int) ∧ m ≤ np ∧ Hid (∀ i, i < m → f i = f' i) ∧ DrawsOf W wr') (fun i _ => ((np : Int) - intOf i).toNat)
      case atStart => exact ⟨0, rfl, by omega, Lib.hid (fun i hi => absurd hi (Nat.not_lt_zero _)), Hd.out⟩
      case round =>
        obtain ⟨m, rfl, hj, hall2, hd⟩ := hrel
        have c4 : wr.cell? ⟨w.heap.size, 4, none⟩ = some (.slice ap np cp) := by rw [hd.cell]; exact H0.out.1.cell 4
        have e4 : wr.cell? ⟨w.heap.size + 1, 4, none⟩ = some (.slice bp np bcp) := by rw [hd.cell]; exact H0.out.2.1.cell 4
        have Hd2 := Lib.hid hd
        rcases Nat.lt_or_ge m np with hj1 | hj1
        case inl =>
          have mi : (m : Int) < np := by omega
          obtain ⟨b, off, rfl, hbw, hcell⟩ := H0.out.2.2.2.1.2 (by omega)
          obtain ⟨b', off', rfl, hbw', hcell'⟩ := H0.out.2.2.2.2.2.1.2 (by omega)
          have p0 : wr.cell? ⟨b, off + m, none⟩ = some (.string (f m)) := by rw [hd.cell]; exact hcell m hj1
          have q0 : wr.cell? ⟨b', off' + m, none⟩ = some (.string (f' m)) := by rw [hd.cell]; exact hcell' m hj1
          clear hcell hcell' hd
          by_cases y0 : f m = f' m
          case neg =>
            have z := ne_list y0
            have hg := Lib.hid (HF2.out m hj1 y0)
            clear y0
            go_wp2_with fail
            go_quiet (fail)
            go_wp2_with fail
            go_ret
            exact ⟨by first | (rw [hg.out]; rfl) | rfl, H0.out.2.2.2.2.2.2.trans (((Hd2.out.drewN _).below W.heap.size).mono H0.out.2.2.2.2.2.2.size)⟩
          rw [← y0] at q0
          have s1 := hself (f m)
          have hnew : Hid (∀ i, i < m + 1 → f i = f' i) := Lib.hid fun i hi => by
            rcases Nat.lt_or_ge i m with h | h
            · exact hall2.out i h
            · obtain rfl : i = m := by omega
              exact y0
          clear y0 hall2
          go_wp2_with fail
          go_quiet (fail)
          go_wp2_with fail
          refine ⟨⟨m + 1, rfl, hj1, hnew, Hd2.out.drewN _⟩, ?_⟩
          simp [intOf]
          omega
        case inr =>
          have mi : (np : Int) ≤ (m : Int) := by omega
          obtain rfl : m = np := by omega
          have hg := Lib.hid (HT.out hall.out hall2.out)
          clear hd
          go_wp2_with fail
          go_ret
          exact ⟨by first | (rw [hg.out]; rfl) | rfl, H0.out.2.2.2.2.2.2.trans ((Hd2.out.below W.heap.size).mono H0.out.2.2.2.2.2.2.size)⟩
end Go.Proofs.Ytmdchfmcghiaeaa.Obj
