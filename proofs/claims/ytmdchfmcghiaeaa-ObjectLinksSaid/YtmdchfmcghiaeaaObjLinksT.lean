/- The law ObjectLinks answers true where the object is no commit. Condition: that. -/
import Derived.Test.YtmdchfmcghiaeaaObjLinks0
namespace Go.Proofs.Ytmdchfmcghiaeaa.Obj
set_option linter.unusedVariables false
open Go.RowKit Go.Sort Go.Lib
set_option maxRecDepth 100000 in
set_option maxHeartbeats 20000000 in
theorem olinks_tree (o : Plain) (es ps : Value) (w : World) (he : EntsV w es o) (hp : StrsC w ps o) (hk3 : o.k ≠ 3) (hnz : True) :
    Calls Try.prog 12 #[obj o.k o.d es o.t ps o.h o.n] w fun e w' => e = .returned (.bool true) ∧ Below w.heap.size w w' := by
  have hself : ∀ S : ByteArray, (S.toList == S.toList) = true := fun S => by simp
  have A := Lib.hid awake
  have G := Lib.hid (great_any o es ps)
  have LK := Lib.hid (fun w he hp hn => links_any o es ps w he hp hn)
  have O := Lib.hid (fun w he hp hn => good_any o es ps w he hp hn)
  have T0 := Lib.hid (And.intro (One.new he hp) ((Below.refl w.heap.size w).alloc (Nat.le_refl _) (.cells (objCells o es ps) 34)))
  have hl0 : o.good = false → linksL o = [] := fun h => by unfold linksL; rw [h]; rfl
  have hl1 : o.good = true → linksL o = outL (rawF o) (rawN o) := fun h => by unfold linksL; rw [if_pos h]
  have hk123 : o.good = true → o.k = 1 ∨ o.k = 2 ∨ o.k = 3 := good_kinds
  have hraw2 : o.k = 2 → rawN o = o.ne ∧ rawF o = fun i => (o.kd i, o.id i) := fun hk => by unfold rawN rawF; rw [if_pos hk, if_pos hk]; exact ⟨rfl, rfl⟩
  have hraw3 : o.k = 3 → rawN o = o.np + 1 ∧ rawF o = fun i => if i = 0 then (2, o.t) else (3, o.f (i - 1)) := fun hk => by
    unfold rawN rawF
    rw [if_neg (by omega), if_pos hk, if_neg (by omega)]
    exact ⟨rfl, rfl⟩
  have hraw1 : o.k = 1 → rawN o = 0 := fun hk => by unfold rawN; rw [if_neg (by omega), if_neg (by omega)]
  have hlen3 : o.good = true → o.k = 3 → (outL (rawF o) (rawN o)).length = o.np + 1 := fun hg hk => by
    obtain ⟨e1, e2⟩ := hraw3 hk
    rw [e1, e2]
    refine outL_length _ _ fun i j hij hj => ?_
    have hr := commit_rises (enc_commit hg hk).2
    show (if i = 0 then ((2, o.t) : Lk) else (3, o.f (i - 1))) ≠ (if j = 0 then ((2, o.t) : Lk) else (3, o.f (j - 1)))
    rw [if_neg (show ¬ j = 0 by omega)]
    by_cases hi : i = 0
    · rw [if_pos hi]
      intro h
      have h2 : (2 : Int) = 3 := congrArg Prod.fst h
      omega
    · rw [if_neg hi]
      intro h
      have h2 := congrArg Prod.snd h
      simp only at h2
      have := rises_lt hr (show i - 1 < j - 1 by omega) (by omega)
      rw [h2] at this
      exact List.lt_irrefl _ this
  have hasc := links_asc (rawF o) (rawN o)
  have hfrom := links_from (rawF o) (rawN o)
  have hhas := links_has (rawF o) (rawN o)
  have hL1 := Lib.hid hl1
  have hL0 := Lib.hid hl0
  have HK := Lib.hid hk123
  have R1 := Lib.hid hraw1
  have R2 := Lib.hid hraw2
  have R3 := Lib.hid hraw3
  have HLEN := Lib.hid hlen3
  have HASC := Lib.hid hasc
  have HFROM := Lib.hid hfrom
  have HHAS := Lib.hid hhas
  obtain ⟨ao, cap, rfl, hE⟩ := he
  obtain ⟨ap, cp, rfl, -, hP⟩ := hp
  have hm1 := hE.1
  have hm2 := hP.1
  clear hE hP
  clear hl0 hl1 hk123 hraw1 hraw2 hraw3 hlen3 hasc hfrom hhas
  have HK3 := Lib.hid hk3
  clear hk3
  have HNZ := Lib.hid hnz
  clear hnz
  obtain ⟨gx, hgx⟩ : ∃ g, g = o.good := ⟨_, rfl⟩
  rw [← hgx] at O hL0 hL1 HK HLEN
  clear hgx
  obtain ⟨LS, hLS⟩ : ∃ l, l = linksL o := ⟨_, rfl⟩
  rw [← hLS] at LK hL0 hL1
  clear hLS
  unfold obj at G LK O ⊢
  go_enter Try.func12, Try.ntmps12
  go_wp2_with fail
  refine (A.out _).mono ?_
  rintro e w1 ⟨rfl, hb1⟩
  have T1 := Lib.hid (And.intro (T0.out.1.later hb1) (T0.out.2.trans (hb1.mono T0.out.2.size)))
  clear T0 hb1 A
  have c0 : w1.cell? ⟨w.heap.size, 0, none⟩ = some (.int .i64 o.k) := T1.out.1.blk.cell 0
  have c1 : w1.cell? ⟨w.heap.size, 1, none⟩ = some (.string o.d) := T1.out.1.blk.cell 1
  have c2 : w1.cell? ⟨w.heap.size, 2, none⟩ = some (.slice ao o.ne cap) := T1.out.1.blk.cell 2
  have c3 : w1.cell? ⟨w.heap.size, 3, none⟩ = some (.string o.t) := T1.out.1.blk.cell 3
  have c4 : w1.cell? ⟨w.heap.size, 4, none⟩ = some (.slice ap o.np cp) := T1.out.1.blk.cell 4
  have c5 : w1.cell? ⟨w.heap.size, 5, none⟩ = some (.int .i64 o.h) := T1.out.1.blk.cell 5
  have c6 : w1.cell? ⟨w.heap.size, 6, none⟩ = some (.string o.n) := T1.out.1.blk.cell 6
  go_wp2_with fail
  refine (G.out _ T1.out.1.ents T1.out.1.strs).mono ?_
  rintro e w2 ⟨⟨g, rfl, hg⟩, hb2⟩
  have T2 := Lib.hid (And.intro (T1.out.1.later hb2) (T1.out.2.trans (hb2.mono T1.out.2.size)))
  clear T1 hb2 G
  clear c0 c1 c2 c3 c4 c5 c6
  cases g
  case true =>
    clear hg
    go_wp2_with fail
    go_ret
    exact ⟨rfl, T2.out.2⟩
  have hn := Lib.hid (show o.ne ≤ 1000000 by have := (hg rfl).1; omega)
  have hnp4 := (hg rfl).2
  clear hg
  have c0 : w2.cell? ⟨w.heap.size, 0, none⟩ = some (.int .i64 o.k) := T2.out.1.blk.cell 0
  have c1 : w2.cell? ⟨w.heap.size, 1, none⟩ = some (.string o.d) := T2.out.1.blk.cell 1
  have c2 : w2.cell? ⟨w.heap.size, 2, none⟩ = some (.slice ao o.ne cap) := T2.out.1.blk.cell 2
  have c3 : w2.cell? ⟨w.heap.size, 3, none⟩ = some (.string o.t) := T2.out.1.blk.cell 3
  have c4 : w2.cell? ⟨w.heap.size, 4, none⟩ = some (.slice ap o.np cp) := T2.out.1.blk.cell 4
  have c5 : w2.cell? ⟨w.heap.size, 5, none⟩ = some (.int .i64 o.h) := T2.out.1.blk.cell 5
  have c6 : w2.cell? ⟨w.heap.size, 6, none⟩ = some (.string o.n) := T2.out.1.blk.cell 6
  go_wp2_with fail
  refine (LK.out _ T2.out.1.ents T2.out.1.strs.strs hn.out).mono ?_
  rintro e w3 ⟨⟨u, rfl, hu⟩, hb3⟩
  have T3 := Lib.hid (And.intro (T2.out.1.later hb3) (T2.out.2.trans (hb3.mono T2.out.2.size)))
  clear T2 hb3 LK
  clear c0 c1 c2 c3 c4 c5 c6
  obtain ⟨lo, lc, rfl, hla⟩ := hu
  have hN1 := hla.1
  have c0 : w3.cell? ⟨w.heap.size, 0, none⟩ = some (.int .i64 o.k) := T3.out.1.blk.cell 0
  have c1 : w3.cell? ⟨w.heap.size, 1, none⟩ = some (.string o.d) := T3.out.1.blk.cell 1
  have c2 : w3.cell? ⟨w.heap.size, 2, none⟩ = some (.slice ao o.ne cap) := T3.out.1.blk.cell 2
  have c3 : w3.cell? ⟨w.heap.size, 3, none⟩ = some (.string o.t) := T3.out.1.blk.cell 3
  have c4 : w3.cell? ⟨w.heap.size, 4, none⟩ = some (.slice ap o.np cp) := T3.out.1.blk.cell 4
  have c5 : w3.cell? ⟨w.heap.size, 5, none⟩ = some (.int .i64 o.h) := T3.out.1.blk.cell 5
  have c6 : w3.cell? ⟨w.heap.size, 6, none⟩ = some (.string o.n) := T3.out.1.blk.cell 6
  go_wp2_with fail
  refine (O.out _ T3.out.1.ents T3.out.1.strs.strs hn.out).mono ?_
  rintro e w4 ⟨rfl, hb4⟩
  have T4 := Lib.hid (And.intro (T3.out.1.later hb4) (And.intro (hla.later hb4) (T3.out.2.trans (hb4.mono T3.out.2.size))))
  clear T3 hb4 O hla
  clear c0 c1 c2 c3 c4 c5 c6
  have c0 : w4.cell? ⟨w.heap.size, 0, none⟩ = some (.int .i64 o.k) := T4.out.1.blk.cell 0
  cases gx
  case false =>
    obtain rfl := hL0.out rfl
    go_wp2_with fail
    go_ret
    exact ⟨rfl, T4.out.2.2⟩
  obtain rfl := hL1.out rfl
  have hk := HK.out rfl
  have hlen3 := HLEN.out rfl
  clear hL0 hL1 HK HLEN
  rcases hk with hk | hk
  case inl =>
    have hr1 := R1.out hk
    have h0 : (outL (rawF o) (rawN o)).length = 0 := by rw [hr1]; rfl
    have h0' : ((outL (rawF o) (rawN o)).length : Int) = 0 := by omega
    rw [hk] at c0
    clear hr1 hlen3
    go_wp2_with fail
    go_ret
    exact ⟨rfl, T4.out.2.2⟩
  obtain ⟨N, hN⟩ : ∃ N, N = (outL (rawF o) (rawN o)).length := ⟨_, rfl⟩
  obtain ⟨Lf, hLf⟩ : ∃ f : Nat → Lk, f = fun i => (outL (rawF o) (rawN o))[i]! := ⟨_, rfl⟩
  rw [← hN] at T4 hN1 hlen3
  rw [← hLf] at T4
  have hasc : ∀ i, i + 1 < N → lt_ (Lf i) (Lf (i + 1)) := fun i hi => by rw [hLf]; exact HASC.out i (by rw [← hN]; exact hi)
  have hfrom : ∀ i, i < N → ∃ k, k < rawN o ∧ rawF o k = Lf i := fun i hi => by rw [hLf]; exact HFROM.out i (by rw [← hN]; exact hi)
  have hhas : ∀ k, k < rawN o → ∃ i, i < N ∧ Lf i = rawF o k := fun k hk => by rw [hLf, hN]; exact HHAS.out k hk
  simp only [← hN]
  clear HASC HFROM HHAS hN hLf
  have HASC := Lib.hid hasc
  have HFROM := Lib.hid hfrom
  have HHAS := Lib.hid hhas
  clear hasc hfrom hhas
  have HE : Hid (EntsAt w4 ao o.ne o.nm o.kd o.id) := Lib.hid (by
    obtain ⟨ao', cap', hv, h⟩ := T4.out.1.ents
    obtain ⟨rfl, _⟩ : ao = ao' ∧ cap = cap' := by simpa using hv
    exact h)
  have HP : Hid (StrsAt w4 ap o.np o.f) := Lib.hid (by
    obtain ⟨ap', cp', hv, h⟩ := T4.out.1.strs.strs
    obtain ⟨rfl, _⟩ : ap = ap' ∧ cp = cp' := by simpa using hv
    exact h)
  clear R1
  rcases hk with hk | hk
  case inl =>
    clear hlen3
    rw [hk] at c0
    have HKK := Lib.hid hk
    clear hk
    go_wp2_with fail
    clear c0
    go_loopw [4] (fun i wr => ∃ j : Nat, i = .int .i64 (j : Int) ∧ j ≤ N ∧ DrawsOf w4 wr) (fun i _ => ((N : Int) - intOf i).toNat)
    case atStart => exact ⟨0, rfl, by omega, DrawsOf.refl _⟩
    case round =>
      obtain ⟨j, rfl, hj, hd⟩ := hrel
      have c0 : wr.cell? ⟨w.heap.size, 0, none⟩ = some (.int .i64 o.k) := by rw [hd.cell]; exact T4.out.1.blk.cell 0
      have c2 : wr.cell? ⟨w.heap.size, 2, none⟩ = some (.slice ao o.ne cap) := by rw [hd.cell]; exact T4.out.1.blk.cell 2
      have c3 : wr.cell? ⟨w.heap.size, 3, none⟩ = some (.string o.t) := by rw [hd.cell]; exact T4.out.1.blk.cell 3
      have c4 : wr.cell? ⟨w.heap.size, 4, none⟩ = some (.slice ap o.np cp) := by rw [hd.cell]; exact T4.out.1.blk.cell 4
      rw [HKK.out] at c0
      rcases Nat.lt_or_ge j N with hj1 | hj1
      case inl =>
        have ji : (j : Int) < N := by omega
        obtain ⟨b, off, rfl, hbw, hcell⟩ := T4.out.2.1.2 (by omega)
        have hcj := hcell j hj1
        obtain ⟨a, ha⟩ : ∃ a, a = Lf j := ⟨_, rfl⟩
        rw [← ha] at hcj
        obtain ⟨a1, a2⟩ := a
        have hy : Lf j = (a1, a2) := ha.symm
        have HC := Lib.hid hcj
        have p0 : wr.cell? ⟨b, off + j * 2, none⟩ = some (.int .i64 a1) := by rw [hd.cell]; exact HC.out.1
        have p1 : wr.cell? ⟨b, off + j * 2 + 1, none⟩ = some (.string a2) := by rw [hd.cell]; exact HC.out.2
        have HdQ : Hid (∀ q : Nat, DrawsOf w4 (wr.drewN q)) := Lib.hid fun q => hd.drewN q
        have HdQ2 : Hid (∀ q r : Nat, DrawsOf w4 ((wr.drewN q).drewN r)) := Lib.hid fun q r => (hd.drewN q).drewN r
        clear ha hcj
        rcases Nat.eq_zero_or_pos j with hj0 | hj0
        case inl =>
          have ja : ¬ (0 < j) := by omega
          have ja2 : decide ((0 : Int) < (j : Int)) = false := decide_eq_false (by omega)
          have Hy := Lib.hid hy
          clear hcell hd hj0
          go_wp2_with fail
          go_quiet (fail)
          have hy := Hy.out
          go_wp2_with fail
          go_quiet (fail)
          go_wp2_with fail
          clear c0 c2 c3 c4 p0 p1
          go_loopw [5, 6] (fun s5 s6 wr' => ∃ (m : Nat) (c : Bool), s6 = .int .i64 (m : Int) ∧ s5 = .bool c ∧ m ≤ o.ne ∧ Hid (c = true ↔ ∃ k', k' < m ∧ (o.kd k', o.id k') = (a1, a2)) ∧ DrawsOf w4 wr') (fun _ i _ => ((o.ne : Int) - intOf i).toNat)
          case atStart => exact ⟨0, false, rfl, rfl, by omega, Lib.hid ⟨fun h => (by cases h), fun ⟨k', h, _⟩ => absurd h (Nat.not_lt_zero _)⟩, by first | exact HdQ2.out _ _ | exact HdQ.out _⟩
          case round =>
            obtain ⟨m, c, rfl, rfl, hm, hc, hd⟩ := hrel
            have c0 : wr.cell? ⟨w.heap.size, 0, none⟩ = some (.int .i64 o.k) := by rw [hd.cell]; exact T4.out.1.blk.cell 0
            have c2 : wr.cell? ⟨w.heap.size, 2, none⟩ = some (.slice ao o.ne cap) := by rw [hd.cell]; exact T4.out.1.blk.cell 2
            have c3 : wr.cell? ⟨w.heap.size, 3, none⟩ = some (.string o.t) := by rw [hd.cell]; exact T4.out.1.blk.cell 3
            have c4 : wr.cell? ⟨w.heap.size, 4, none⟩ = some (.slice ap o.np cp) := by rw [hd.cell]; exact T4.out.1.blk.cell 4
            rw [HKK.out] at c0
            have p0 : wr.cell? ⟨b, off + j * 2, none⟩ = some (.int .i64 a1) := by rw [hd.cell]; exact HC.out.1
            have p1 : wr.cell? ⟨b, off + j * 2 + 1, none⟩ = some (.string a2) := by rw [hd.cell]; exact HC.out.2
            rcases Nat.lt_or_ge m o.ne with hm1' | hm1'
            case inl =>
              have mi : (m : Int) < o.ne := by omega
              obtain ⟨b', off', rfl, hbw', hcell'⟩ := HE.out.2 (by omega)
              have q1 : wr.cell? ⟨b', off' + m * 3 + 1, none⟩ = some (.int .i64 (o.kd m)) := by rw [hd.cell]; exact (hcell' m hm1').2.1
              have q2 : wr.cell? ⟨b', off' + m * 3 + 2, none⟩ = some (.string (o.id m)) := by rw [hd.cell]; exact (hcell' m hm1').2.2
              have Hd2 := Lib.hid hd
              clear hd hcell'
              cases c
              case true =>
                go_wp2_with fail
                go_quiet (fail)
                go_wp2_with fail
                refine ⟨⟨m + 1, true, rfl, rfl, hm1', Lib.hid ⟨fun _ => ?_, fun _ => rfl⟩, Hd2.out.drewN _⟩, ?_⟩
                · obtain ⟨k', h1, h2⟩ := hc.out.1 (by trivial)
                  exact ⟨k', by omega, h2⟩
                · simp [intOf]
                  omega
              case false =>
                by_cases hxy : ((a1, a2) : Lk) = ((o.kd m), (o.id m))
                case neg =>
                  rcases eq_false_of_ne hxy with hz | ⟨hz, hz2⟩
                  case inl =>
                    have hz1 : ¬ a1 = (o.kd m) := hz
                    have z : (a1 == (o.kd m)) = false := by simpa using hz1
                    have HNE := Lib.hid hxy
                    clear hz hz1 hxy
                    go_wp2_with fail
                    go_quiet (fail)
                    go_wp2_with fail
                    refine ⟨⟨m + 1, false, rfl, rfl, hm1', Lib.hid ⟨fun h => (by cases h), fun ⟨k', h1, h2⟩ => ?_⟩, Hd2.out.drewN _⟩, ?_⟩
                    · rcases Nat.lt_or_ge k' m with h | h
                      · exact hc.out.2 ⟨k', h, h2⟩
                      · obtain rfl : k' = m := by omega
                        exact absurd h2.symm HNE.out
                    · simp [intOf]
                      omega
                  case inr =>
                    have hz1 : a1 = (o.kd m) := hz
                    rw [hz1] at p0
                    have z := ne_list hz2
                    have HNE := Lib.hid hxy
                    clear hz hz1 hz2 hxy
                    go_wp2_with fail
                    go_quiet (fail)
                    go_wp2_with fail
                    refine ⟨⟨m + 1, false, rfl, rfl, hm1', Lib.hid ⟨fun h => (by cases h), fun ⟨k', h1, h2⟩ => ?_⟩, Hd2.out.drewN _⟩, ?_⟩
                    · rcases Nat.lt_or_ge k' m with h | h
                      · exact hc.out.2 ⟨k', h, h2⟩
                      · obtain rfl : k' = m := by omega
                        exact absurd h2.symm HNE.out
                    · simp [intOf]
                      omega
                have h1 : a1 = (o.kd m) := congrArg Prod.fst hxy
                have h2 : a2 = (o.id m) := congrArg Prod.snd hxy
                rw [h1] at p0
                rw [h2] at p1
                have z := hself ((o.id m))
                have HEQ := Lib.hid hxy
                clear hxy h1 h2
                go_wp2_with fail
                go_quiet (fail)
                go_wp2_with fail
                refine ⟨⟨m + 1, true, rfl, rfl, hm1', Lib.hid ⟨fun _ => ⟨m, by omega, HEQ.out.symm⟩, fun _ => rfl⟩, Hd2.out.drewN _⟩, ?_⟩
                simp [intOf]
                omega
            case inr =>
              have mi : (o.ne : Int) ≤ m := by omega
              obtain rfl : m = o.ne := by omega
              have hct : c = true := by
                obtain ⟨k', h1, h2⟩ := HFROM.out j hj1
                obtain ⟨e1, e2⟩ := R2.out HKK.out
                rw [e1] at h1
                rw [e2] at h2
                exact hc.out.2 ⟨k', h1, h2.trans hy⟩
              subst hct
              have Hd2 := Lib.hid hd
              clear hd hc
              go_wp2_with fail
              clear c0 c2 c3 c4 p0 p1
              go_loopw [5, 7] (fun s5 s wr' => s5 = .bool true ∧ s = .int .i64 0 ∧ DrawsOf w4 wr') (fun _ _ _ => 0)
              case atStart => exact ⟨rfl, rfl, Hd2.out⟩
              case round =>
                obtain ⟨rfl, rfl, hd⟩ := hrel
                have c0 : wr.cell? ⟨w.heap.size, 0, none⟩ = some (.int .i64 o.k) := by rw [hd.cell]; exact T4.out.1.blk.cell 0
                have c2 : wr.cell? ⟨w.heap.size, 2, none⟩ = some (.slice ao o.ne cap) := by rw [hd.cell]; exact T4.out.1.blk.cell 2
                have c3 : wr.cell? ⟨w.heap.size, 3, none⟩ = some (.string o.t) := by rw [hd.cell]; exact T4.out.1.blk.cell 3
                have c4 : wr.cell? ⟨w.heap.size, 4, none⟩ = some (.slice ap o.np cp) := by rw [hd.cell]; exact T4.out.1.blk.cell 4
                rw [HKK.out] at c0
                have Hd3 := Lib.hid hd
                clear hd
                rcases Nat.eq_zero_or_pos o.np with hz0 | hz0
                case' inl =>
                  have hzi : ¬ (0 < o.np) := by omega
                  have hzj : decide ((0 : Int) < (o.np : Int)) = false := decide_eq_false (by omega)
                  clear hz0
                case' inr =>
                  have hzi : 0 < o.np := hz0
                  have hzj : decide ((0 : Int) < (o.np : Int)) = true := decide_eq_true (by omega)
                  clear hz0
                all_goals
                  go_wp2_with fail
                  refine ⟨⟨j + 1, rfl, hj1, Hd3.out⟩, ?_⟩
                  simp [intOf]
                  omega
        case inr =>
          have ja2 : decide ((0 : Int) < (j : Int)) = true := decide_eq_true (by omega)
          have jw : wrap64 ((j : Int) - 1) = ((j - 1 : Nat) : Int) := by unfold wrap64; omega
          have hcp := hcell (j - 1) (by omega)
          have hlt := HASC.out (j - 1) (by omega)
          rw [show j - 1 + 1 = j by omega, hy] at hlt
          obtain ⟨e, he⟩ : ∃ e, e = Lf (j - 1) := ⟨_, rfl⟩
          rw [← he] at hcp hlt
          obtain ⟨e1, e2⟩ := e
          have r0 : wr.cell? ⟨b, off + (j - 1) * 2, none⟩ = some (.int .i64 e1) := by rw [hd.cell]; exact hcp.1
          have r1 : wr.cell? ⟨b, off + (j - 1) * 2 + 1, none⟩ = some (.string e2) := by rw [hd.cell]; exact hcp.2
          have hlp := lt_parts hlt
          have Hy := Lib.hid hy
          clear hcell hd hcp hlt he hy
          rcases hlp with ⟨_, hgt, hneq⟩ | ⟨heq, hlt1, hgt⟩
          case inl =>
            have hgt : Op.bytesLess a2.toList e2.toList = false := hgt
            have hneq : (e2.toList == a2.toList) = false := hneq
            go_wp2_with fail
            go_quiet (fail)
            have hy := Hy.out
            clear r0 r1 hgt hneq
            go_wp2_with fail
            go_quiet (fail)
            go_wp2_with fail
            clear c0 c2 c3 c4 p0 p1
            go_loopw [5, 6] (fun s5 s6 wr' => ∃ (m : Nat) (c : Bool), s6 = .int .i64 (m : Int) ∧ s5 = .bool c ∧ m ≤ o.ne ∧ Hid (c = true ↔ ∃ k', k' < m ∧ (o.kd k', o.id k') = (a1, a2)) ∧ DrawsOf w4 wr') (fun _ i _ => ((o.ne : Int) - intOf i).toNat)
            case atStart => exact ⟨0, false, rfl, rfl, by omega, Lib.hid ⟨fun h => (by cases h), fun ⟨k', h, _⟩ => absurd h (Nat.not_lt_zero _)⟩, by first | exact HdQ2.out _ _ | exact HdQ.out _⟩
            case round =>
              obtain ⟨m, c, rfl, rfl, hm, hc, hd⟩ := hrel
              have c0 : wr.cell? ⟨w.heap.size, 0, none⟩ = some (.int .i64 o.k) := by rw [hd.cell]; exact T4.out.1.blk.cell 0
              have c2 : wr.cell? ⟨w.heap.size, 2, none⟩ = some (.slice ao o.ne cap) := by rw [hd.cell]; exact T4.out.1.blk.cell 2
              have c3 : wr.cell? ⟨w.heap.size, 3, none⟩ = some (.string o.t) := by rw [hd.cell]; exact T4.out.1.blk.cell 3
              have c4 : wr.cell? ⟨w.heap.size, 4, none⟩ = some (.slice ap o.np cp) := by rw [hd.cell]; exact T4.out.1.blk.cell 4
              rw [HKK.out] at c0
              have p0 : wr.cell? ⟨b, off + j * 2, none⟩ = some (.int .i64 a1) := by rw [hd.cell]; exact HC.out.1
              have p1 : wr.cell? ⟨b, off + j * 2 + 1, none⟩ = some (.string a2) := by rw [hd.cell]; exact HC.out.2
              rcases Nat.lt_or_ge m o.ne with hm1' | hm1'
              case inl =>
                have mi : (m : Int) < o.ne := by omega
                obtain ⟨b', off', rfl, hbw', hcell'⟩ := HE.out.2 (by omega)
                have q1 : wr.cell? ⟨b', off' + m * 3 + 1, none⟩ = some (.int .i64 (o.kd m)) := by rw [hd.cell]; exact (hcell' m hm1').2.1
                have q2 : wr.cell? ⟨b', off' + m * 3 + 2, none⟩ = some (.string (o.id m)) := by rw [hd.cell]; exact (hcell' m hm1').2.2
                have Hd2 := Lib.hid hd
                clear hd hcell'
                cases c
                case true =>
                  go_wp2_with fail
                  go_quiet (fail)
                  go_wp2_with fail
                  refine ⟨⟨m + 1, true, rfl, rfl, hm1', Lib.hid ⟨fun _ => ?_, fun _ => rfl⟩, Hd2.out.drewN _⟩, ?_⟩
                  · obtain ⟨k', h1, h2⟩ := hc.out.1 (by trivial)
                    exact ⟨k', by omega, h2⟩
                  · simp [intOf]
                    omega
                case false =>
                  by_cases hxy : ((a1, a2) : Lk) = ((o.kd m), (o.id m))
                  case neg =>
                    rcases eq_false_of_ne hxy with hz | ⟨hz, hz2⟩
                    case inl =>
                      have hz1 : ¬ a1 = (o.kd m) := hz
                      have z : (a1 == (o.kd m)) = false := by simpa using hz1
                      have HNE := Lib.hid hxy
                      clear hz hz1 hxy
                      go_wp2_with fail
                      go_quiet (fail)
                      go_wp2_with fail
                      refine ⟨⟨m + 1, false, rfl, rfl, hm1', Lib.hid ⟨fun h => (by cases h), fun ⟨k', h1, h2⟩ => ?_⟩, Hd2.out.drewN _⟩, ?_⟩
                      · rcases Nat.lt_or_ge k' m with h | h
                        · exact hc.out.2 ⟨k', h, h2⟩
                        · obtain rfl : k' = m := by omega
                          exact absurd h2.symm HNE.out
                      · simp [intOf]
                        omega
                    case inr =>
                      have hz1 : a1 = (o.kd m) := hz
                      rw [hz1] at p0
                      have z := ne_list hz2
                      have HNE := Lib.hid hxy
                      clear hz hz1 hz2 hxy
                      go_wp2_with fail
                      go_quiet (fail)
                      go_wp2_with fail
                      refine ⟨⟨m + 1, false, rfl, rfl, hm1', Lib.hid ⟨fun h => (by cases h), fun ⟨k', h1, h2⟩ => ?_⟩, Hd2.out.drewN _⟩, ?_⟩
                      · rcases Nat.lt_or_ge k' m with h | h
                        · exact hc.out.2 ⟨k', h, h2⟩
                        · obtain rfl : k' = m := by omega
                          exact absurd h2.symm HNE.out
                      · simp [intOf]
                        omega
                  have h1 : a1 = (o.kd m) := congrArg Prod.fst hxy
                  have h2 : a2 = (o.id m) := congrArg Prod.snd hxy
                  rw [h1] at p0
                  rw [h2] at p1
                  have z := hself ((o.id m))
                  have HEQ := Lib.hid hxy
                  clear hxy h1 h2
                  go_wp2_with fail
                  go_quiet (fail)
                  go_wp2_with fail
                  refine ⟨⟨m + 1, true, rfl, rfl, hm1', Lib.hid ⟨fun _ => ⟨m, by omega, HEQ.out.symm⟩, fun _ => rfl⟩, Hd2.out.drewN _⟩, ?_⟩
                  simp [intOf]
                  omega
              case inr =>
                have mi : (o.ne : Int) ≤ m := by omega
                obtain rfl : m = o.ne := by omega
                have hct : c = true := by
                  obtain ⟨k', h1, h2⟩ := HFROM.out j hj1
                  obtain ⟨e1, e2⟩ := R2.out HKK.out
                  rw [e1] at h1
                  rw [e2] at h2
                  exact hc.out.2 ⟨k', h1, h2.trans hy⟩
                subst hct
                have Hd2 := Lib.hid hd
                clear hd hc
                go_wp2_with fail
                clear c0 c2 c3 c4 p0 p1
                go_loopw [5, 7] (fun s5 s wr' => s5 = .bool true ∧ s = .int .i64 0 ∧ DrawsOf w4 wr') (fun _ _ _ => 0)
                case atStart => exact ⟨rfl, rfl, Hd2.out⟩
                case round =>
                  obtain ⟨rfl, rfl, hd⟩ := hrel
                  have c0 : wr.cell? ⟨w.heap.size, 0, none⟩ = some (.int .i64 o.k) := by rw [hd.cell]; exact T4.out.1.blk.cell 0
                  have c2 : wr.cell? ⟨w.heap.size, 2, none⟩ = some (.slice ao o.ne cap) := by rw [hd.cell]; exact T4.out.1.blk.cell 2
                  have c3 : wr.cell? ⟨w.heap.size, 3, none⟩ = some (.string o.t) := by rw [hd.cell]; exact T4.out.1.blk.cell 3
                  have c4 : wr.cell? ⟨w.heap.size, 4, none⟩ = some (.slice ap o.np cp) := by rw [hd.cell]; exact T4.out.1.blk.cell 4
                  rw [HKK.out] at c0
                  have Hd3 := Lib.hid hd
                  clear hd
                  rcases Nat.eq_zero_or_pos o.np with hz0 | hz0
                  case' inl =>
                    have hzi : ¬ (0 < o.np) := by omega
                    have hzj : decide ((0 : Int) < (o.np : Int)) = false := decide_eq_false (by omega)
                    clear hz0
                  case' inr =>
                    have hzi : 0 < o.np := hz0
                    have hzj : decide ((0 : Int) < (o.np : Int)) = true := decide_eq_true (by omega)
                    clear hz0
                  all_goals
                    go_wp2_with fail
                    refine ⟨⟨j + 1, rfl, hj1, Hd3.out⟩, ?_⟩
                    simp [intOf]
                    omega
          case inr =>
            have hgt : Op.bytesLess a2.toList e2.toList = false := hgt
            have heq : (e2.toList == a2.toList) = true := by rw [show e2 = a2 from heq]; simp
            have hlt1 : e1 < a1 := hlt1
            have hle : decide (a1 ≤ e1) = false := decide_eq_false (by omega)
            go_wp2_with fail
            go_quiet (fail)
            have hy := Hy.out
            clear r0 r1 hgt heq hlt1 hle
            go_wp2_with fail
            go_quiet (fail)
            go_wp2_with fail
            clear c0 c2 c3 c4 p0 p1
            go_loopw [5, 6] (fun s5 s6 wr' => ∃ (m : Nat) (c : Bool), s6 = .int .i64 (m : Int) ∧ s5 = .bool c ∧ m ≤ o.ne ∧ Hid (c = true ↔ ∃ k', k' < m ∧ (o.kd k', o.id k') = (a1, a2)) ∧ DrawsOf w4 wr') (fun _ i _ => ((o.ne : Int) - intOf i).toNat)
            case atStart => exact ⟨0, false, rfl, rfl, by omega, Lib.hid ⟨fun h => (by cases h), fun ⟨k', h, _⟩ => absurd h (Nat.not_lt_zero _)⟩, by first | exact HdQ2.out _ _ | exact HdQ.out _⟩
            case round =>
              obtain ⟨m, c, rfl, rfl, hm, hc, hd⟩ := hrel
              have c0 : wr.cell? ⟨w.heap.size, 0, none⟩ = some (.int .i64 o.k) := by rw [hd.cell]; exact T4.out.1.blk.cell 0
              have c2 : wr.cell? ⟨w.heap.size, 2, none⟩ = some (.slice ao o.ne cap) := by rw [hd.cell]; exact T4.out.1.blk.cell 2
              have c3 : wr.cell? ⟨w.heap.size, 3, none⟩ = some (.string o.t) := by rw [hd.cell]; exact T4.out.1.blk.cell 3
              have c4 : wr.cell? ⟨w.heap.size, 4, none⟩ = some (.slice ap o.np cp) := by rw [hd.cell]; exact T4.out.1.blk.cell 4
              rw [HKK.out] at c0
              have p0 : wr.cell? ⟨b, off + j * 2, none⟩ = some (.int .i64 a1) := by rw [hd.cell]; exact HC.out.1
              have p1 : wr.cell? ⟨b, off + j * 2 + 1, none⟩ = some (.string a2) := by rw [hd.cell]; exact HC.out.2
              rcases Nat.lt_or_ge m o.ne with hm1' | hm1'
              case inl =>
                have mi : (m : Int) < o.ne := by omega
                obtain ⟨b', off', rfl, hbw', hcell'⟩ := HE.out.2 (by omega)
                have q1 : wr.cell? ⟨b', off' + m * 3 + 1, none⟩ = some (.int .i64 (o.kd m)) := by rw [hd.cell]; exact (hcell' m hm1').2.1
                have q2 : wr.cell? ⟨b', off' + m * 3 + 2, none⟩ = some (.string (o.id m)) := by rw [hd.cell]; exact (hcell' m hm1').2.2
                have Hd2 := Lib.hid hd
                clear hd hcell'
                cases c
                case true =>
                  go_wp2_with fail
                  go_quiet (fail)
                  go_wp2_with fail
                  refine ⟨⟨m + 1, true, rfl, rfl, hm1', Lib.hid ⟨fun _ => ?_, fun _ => rfl⟩, Hd2.out.drewN _⟩, ?_⟩
                  · obtain ⟨k', h1, h2⟩ := hc.out.1 (by trivial)
                    exact ⟨k', by omega, h2⟩
                  · simp [intOf]
                    omega
                case false =>
                  by_cases hxy : ((a1, a2) : Lk) = ((o.kd m), (o.id m))
                  case neg =>
                    rcases eq_false_of_ne hxy with hz | ⟨hz, hz2⟩
                    case inl =>
                      have hz1 : ¬ a1 = (o.kd m) := hz
                      have z : (a1 == (o.kd m)) = false := by simpa using hz1
                      have HNE := Lib.hid hxy
                      clear hz hz1 hxy
                      go_wp2_with fail
                      go_quiet (fail)
                      go_wp2_with fail
                      refine ⟨⟨m + 1, false, rfl, rfl, hm1', Lib.hid ⟨fun h => (by cases h), fun ⟨k', h1, h2⟩ => ?_⟩, Hd2.out.drewN _⟩, ?_⟩
                      · rcases Nat.lt_or_ge k' m with h | h
                        · exact hc.out.2 ⟨k', h, h2⟩
                        · obtain rfl : k' = m := by omega
                          exact absurd h2.symm HNE.out
                      · simp [intOf]
                        omega
                    case inr =>
                      have hz1 : a1 = (o.kd m) := hz
                      rw [hz1] at p0
                      have z := ne_list hz2
                      have HNE := Lib.hid hxy
                      clear hz hz1 hz2 hxy
                      go_wp2_with fail
                      go_quiet (fail)
                      go_wp2_with fail
                      refine ⟨⟨m + 1, false, rfl, rfl, hm1', Lib.hid ⟨fun h => (by cases h), fun ⟨k', h1, h2⟩ => ?_⟩, Hd2.out.drewN _⟩, ?_⟩
                      · rcases Nat.lt_or_ge k' m with h | h
                        · exact hc.out.2 ⟨k', h, h2⟩
                        · obtain rfl : k' = m := by omega
                          exact absurd h2.symm HNE.out
                      · simp [intOf]
                        omega
                  have h1 : a1 = (o.kd m) := congrArg Prod.fst hxy
                  have h2 : a2 = (o.id m) := congrArg Prod.snd hxy
                  rw [h1] at p0
                  rw [h2] at p1
                  have z := hself ((o.id m))
                  have HEQ := Lib.hid hxy
                  clear hxy h1 h2
                  go_wp2_with fail
                  go_quiet (fail)
                  go_wp2_with fail
                  refine ⟨⟨m + 1, true, rfl, rfl, hm1', Lib.hid ⟨fun _ => ⟨m, by omega, HEQ.out.symm⟩, fun _ => rfl⟩, Hd2.out.drewN _⟩, ?_⟩
                  simp [intOf]
                  omega
              case inr =>
                have mi : (o.ne : Int) ≤ m := by omega
                obtain rfl : m = o.ne := by omega
                have hct : c = true := by
                  obtain ⟨k', h1, h2⟩ := HFROM.out j hj1
                  obtain ⟨e1, e2⟩ := R2.out HKK.out
                  rw [e1] at h1
                  rw [e2] at h2
                  exact hc.out.2 ⟨k', h1, h2.trans hy⟩
                subst hct
                have Hd2 := Lib.hid hd
                clear hd hc
                go_wp2_with fail
                clear c0 c2 c3 c4 p0 p1
                go_loopw [5, 7] (fun s5 s wr' => s5 = .bool true ∧ s = .int .i64 0 ∧ DrawsOf w4 wr') (fun _ _ _ => 0)
                case atStart => exact ⟨rfl, rfl, Hd2.out⟩
                case round =>
                  obtain ⟨rfl, rfl, hd⟩ := hrel
                  have c0 : wr.cell? ⟨w.heap.size, 0, none⟩ = some (.int .i64 o.k) := by rw [hd.cell]; exact T4.out.1.blk.cell 0
                  have c2 : wr.cell? ⟨w.heap.size, 2, none⟩ = some (.slice ao o.ne cap) := by rw [hd.cell]; exact T4.out.1.blk.cell 2
                  have c3 : wr.cell? ⟨w.heap.size, 3, none⟩ = some (.string o.t) := by rw [hd.cell]; exact T4.out.1.blk.cell 3
                  have c4 : wr.cell? ⟨w.heap.size, 4, none⟩ = some (.slice ap o.np cp) := by rw [hd.cell]; exact T4.out.1.blk.cell 4
                  rw [HKK.out] at c0
                  have Hd3 := Lib.hid hd
                  clear hd
                  rcases Nat.eq_zero_or_pos o.np with hz0 | hz0
                  case' inl =>
                    have hzi : ¬ (0 < o.np) := by omega
                    have hzj : decide ((0 : Int) < (o.np : Int)) = false := decide_eq_false (by omega)
                    clear hz0
                  case' inr =>
                    have hzi : 0 < o.np := hz0
                    have hzj : decide ((0 : Int) < (o.np : Int)) = true := decide_eq_true (by omega)
                    clear hz0
                  all_goals
                    go_wp2_with fail
                    refine ⟨⟨j + 1, rfl, hj1, Hd3.out⟩, ?_⟩
                    simp [intOf]
                    omega
      case inr =>
        have ji : (N : Int) ≤ j := by omega
        obtain rfl : j = N := by omega
        have Hd := Lib.hid hd
        clear hd
        go_wp2_with fail
        clear c0 c2 c3 c4
        go_loopw [8] (fun i wr => ∃ m : Nat, i = .int .i64 (m : Int) ∧ m ≤ o.ne ∧ DrawsOf w4 wr) (fun i _ => ((o.ne : Int) - intOf i).toNat)
        case atStart => exact ⟨0, rfl, by omega, Hd.out⟩
        case round =>
          obtain ⟨m, rfl, hm, hd⟩ := hrel
          have c0 : wr.cell? ⟨w.heap.size, 0, none⟩ = some (.int .i64 o.k) := by rw [hd.cell]; exact T4.out.1.blk.cell 0
          have c2 : wr.cell? ⟨w.heap.size, 2, none⟩ = some (.slice ao o.ne cap) := by rw [hd.cell]; exact T4.out.1.blk.cell 2
          have c3 : wr.cell? ⟨w.heap.size, 3, none⟩ = some (.string o.t) := by rw [hd.cell]; exact T4.out.1.blk.cell 3
          have c4 : wr.cell? ⟨w.heap.size, 4, none⟩ = some (.slice ap o.np cp) := by rw [hd.cell]; exact T4.out.1.blk.cell 4
          rw [HKK.out] at c0
          rcases Nat.lt_or_ge m o.ne with hm1' | hm1'
          case inl =>
            have mi : (m : Int) < o.ne := by omega
            have Hd2 := Lib.hid hd
            clear hd
            go_wp2_with fail
            clear c0 c2 c3 c4
            go_loopw [9, 10] (fun s5 s6 wr' => ∃ (i : Nat) (c : Bool), s6 = .int .i64 (i : Int) ∧ s5 = .bool c ∧ i ≤ j ∧ Hid (c = true ↔ ∃ k', k' < i ∧ Lf k' = (o.kd m, o.id m)) ∧ DrawsOf w4 wr') (fun _ i _ => ((j : Int) - intOf i).toNat)
            case atStart => exact ⟨0, false, rfl, rfl, by omega, Lib.hid ⟨fun h => (by cases h), fun ⟨k', h, _⟩ => absurd h (Nat.not_lt_zero _)⟩, Hd2.out⟩
            case round =>
              obtain ⟨i, c, rfl, rfl, hi, hc, hd⟩ := hrel
              have c0 : wr.cell? ⟨w.heap.size, 0, none⟩ = some (.int .i64 o.k) := by rw [hd.cell]; exact T4.out.1.blk.cell 0
              have c2 : wr.cell? ⟨w.heap.size, 2, none⟩ = some (.slice ao o.ne cap) := by rw [hd.cell]; exact T4.out.1.blk.cell 2
              have c3 : wr.cell? ⟨w.heap.size, 3, none⟩ = some (.string o.t) := by rw [hd.cell]; exact T4.out.1.blk.cell 3
              have c4 : wr.cell? ⟨w.heap.size, 4, none⟩ = some (.slice ap o.np cp) := by rw [hd.cell]; exact T4.out.1.blk.cell 4
              rw [HKK.out] at c0
              rcases Nat.lt_or_ge i j with hi1 | hi1
              case inl =>
                have ii : (i : Int) < j := by omega
                obtain ⟨b', off', rfl, hbw', hcell'⟩ := HE.out.2 (by omega)
                obtain ⟨b, off, rfl, hbw, hcell⟩ := T4.out.2.1.2 (by omega)
                have q1 : wr.cell? ⟨b', off' + m * 3 + 1, none⟩ = some (.int .i64 (o.kd m)) := by rw [hd.cell]; exact (hcell' m hm1').2.1
                have q2 : wr.cell? ⟨b', off' + m * 3 + 2, none⟩ = some (.string (o.id m)) := by rw [hd.cell]; exact (hcell' m hm1').2.2
                have hcj := hcell i hi1
                obtain ⟨a, ha⟩ : ∃ a, a = Lf i := ⟨_, rfl⟩
                rw [← ha] at hcj
                obtain ⟨a1, a2⟩ := a
                have hy := Lib.hid (ha.symm : Lf i = (a1, a2))
                have p0 : wr.cell? ⟨b, off + i * 2, none⟩ = some (.int .i64 a1) := by rw [hd.cell]; exact hcj.1
                have p1 : wr.cell? ⟨b, off + i * 2 + 1, none⟩ = some (.string a2) := by rw [hd.cell]; exact hcj.2
                have Hd3 := Lib.hid hd
                clear hd hcell' hcell hcj ha
                cases c
                case true =>
                  go_wp2_with fail
                  go_quiet (fail)
                  go_wp2_with fail
                  refine ⟨⟨i + 1, true, rfl, rfl, hi1, Lib.hid ⟨fun _ => ?_, fun _ => rfl⟩, Hd3.out.drewN _⟩, ?_⟩
                  · obtain ⟨k', h1, h2⟩ := hc.out.1 (by trivial)
                    exact ⟨k', by omega, h2⟩
                  · simp [intOf]
                    omega
                case false =>
                  by_cases hxy : ((a1, a2) : Lk) = ((o.kd m), (o.id m))
                  case neg =>
                    rcases eq_false_of_ne hxy with hz | ⟨hz, hz2⟩
                    case inl =>
                      have hz1 : ¬ a1 = (o.kd m) := hz
                      have z : (a1 == (o.kd m)) = false := by simpa using hz1
                      have HNE := Lib.hid hxy
                      clear hz hz1 hxy
                      go_wp2_with fail
                      go_quiet (fail)
                      go_wp2_with fail
                      refine ⟨⟨i + 1, false, rfl, rfl, hi1, Lib.hid ⟨fun h => (by cases h), fun ⟨k', h1, h2⟩ => ?_⟩, Hd3.out.drewN _⟩, ?_⟩
                      · rcases Nat.lt_or_ge k' i with h | h
                        · exact hc.out.2 ⟨k', h, h2⟩
                        · obtain rfl : k' = i := by omega
                          exact absurd (hy.out.symm.trans h2) HNE.out
                      · simp [intOf]
                        omega
                    case inr =>
                      have hz1 : a1 = (o.kd m) := hz
                      rw [hz1] at p0
                      have z := ne_list hz2
                      have HNE := Lib.hid hxy
                      clear hz hz1 hz2 hxy
                      go_wp2_with fail
                      go_quiet (fail)
                      go_wp2_with fail
                      refine ⟨⟨i + 1, false, rfl, rfl, hi1, Lib.hid ⟨fun h => (by cases h), fun ⟨k', h1, h2⟩ => ?_⟩, Hd3.out.drewN _⟩, ?_⟩
                      · rcases Nat.lt_or_ge k' i with h | h
                        · exact hc.out.2 ⟨k', h, h2⟩
                        · obtain rfl : k' = i := by omega
                          exact absurd (hy.out.symm.trans h2) HNE.out
                      · simp [intOf]
                        omega
                  have h1 : a1 = (o.kd m) := congrArg Prod.fst hxy
                  have h2 : a2 = (o.id m) := congrArg Prod.snd hxy
                  rw [h1] at p0
                  rw [h2] at p1
                  have z := hself ((o.id m))
                  have HEQ := Lib.hid hxy
                  clear hxy h1 h2
                  go_wp2_with fail
                  go_quiet (fail)
                  go_wp2_with fail
                  refine ⟨⟨i + 1, true, rfl, rfl, hi1, Lib.hid ⟨fun _ => ⟨i, by omega, hy.out.trans HEQ.out⟩, fun _ => rfl⟩, Hd3.out.drewN _⟩, ?_⟩
                  simp [intOf]
                  omega
              case inr =>
                have ii : (j : Int) ≤ i := by omega
                obtain rfl : i = j := by omega
                have hct : c = true := by
                  obtain ⟨e1, e2⟩ := R2.out HKK.out
                  obtain ⟨k', h1, h2⟩ := HHAS.out m (by rw [e1]; exact hm1')
                  rw [e2] at h2
                  exact hc.out.2 ⟨k', h1, h2⟩
                subst hct
                have Hd3 := Lib.hid hd
                clear hd hc
                go_wp2_with fail
                refine ⟨⟨m + 1, rfl, hm1', Hd3.out⟩, ?_⟩
                simp [intOf]
                omega
          case inr =>
            have mi : (o.ne : Int) ≤ m := by omega
            have Hd2 := Lib.hid hd
            clear hd
            go_wp2_with fail
            go_ret
            exact ⟨rfl, T4.out.2.2.trans ((Hd2.out.below w4.heap.size).mono T4.out.2.2.size)⟩
  case inr =>
    exact absurd hk HK3.out
end Go.Proofs.Ytmdchfmcghiaeaa.Obj
