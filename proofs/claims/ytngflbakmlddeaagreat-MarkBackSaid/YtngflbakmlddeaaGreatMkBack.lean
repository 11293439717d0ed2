/- The law MarkBack, walked: right marks' bytes are read as themselves, and bytes that are read are written as themselves. (Layer 12.) -/
import Derived.Test.YtngflbakmlddeaaGreatMkLaw
import Derived.Test.YtngflbakmlddeaaGreatMk27
namespace Go.Proofs.YtngflbakmlddeaaGreat.Mk
set_option linter.unusedVariables false
open Go.RowKit
theorem same_to (a b : MkR) (W : World) (t : Bool) (ha : a.Reads W) (hb : b.Reads W) (hna : a.Small) (hnb : b.Small) (ht : eqB a.mk_ b.mk_ = t) : Calls Tryz.prog 18 #[aMk a, aMk b] W fun e w' => e = .returned (.bool t) ∧ Below W.heap.size W w' := by
  rw [← ht]; exact same_any' a b W ha hb hna hnb
set_option maxRecDepth 100000 in
set_option maxHeartbeats 4000000 in
theorem back_any (m o : MkR) (s : ByteArray) (w : World) (h : m.Reads w) (h' : o.Reads w) : Calls Tryz.prog 5 #[aMk m, aMk o, .string s] w fun e w' => e = .returned (.bool true) ∧ Below w.heap.size w w' := by
  obtain ⟨o1, n1, f1, o2, n2, f2, o3, n3, f3, hA⟩ := MkR.form h
  obtain ⟨p1, m1, g1, p2, m2, g2, p3, m3, g3, hA'⟩ := MkR.form h'
  have EC := enc_cases m
  have EC' := enc_cases o
  obtain ⟨W1, hW1⟩ : ∃ W1, W1 = (w.alloc (.cells #[.slice o1 n1 f1, .slice o2 n2 f2, .slice o3 n3 f3] 26)).alloc (.cells #[.slice p1 m1 g1, .slice p2 m2 g2, .slice p3 m3 g3] 26) := ⟨_, rfl⟩
  have hb1 : Below w.heap.size w W1 := by rw [hW1]; exact ((Below.refl _ _).alloc (Nat.le_refl _) _).alloc (by simp) _
  have k1 : BlkIs W1 w.heap.size 26 #[.slice o1 n1 f1, .slice o2 n2 f2, .slice o3 n3 f3] := by rw [hW1]; exact (BlkIs.new _ _ _).alloc _
  have k2 : BlkIs W1 (w.heap.size + 1) 26 #[.slice p1 m1 g1, .slice p2 m2 g2, .slice p3 m3 g3] := by rw [hW1]; exact BlkIs.new2 _ _ _ _
  have hr := h.later hb1
  have hr' := h'.later hb1
  have GR := Lib.hid (fun X : LaterOf W1 => great_any m X.w (hr.later X.h))
  have GR' := Lib.hid (fun X : LaterOf W1 => great_any o X.w (hr'.later X.h))
  have GD := Lib.hid (fun (hs : m.Small) (X : LaterOf W1) => good_any m X.w (hr.later X.h) hs.2.2.2)
  have HEC := Lib.hid (fun hs => (EC hs).imp (fun p => And.intro p.1 (fun X : LaterOf W1 => p.2 X.w (hr.later X.h))) (fun p => And.intro p.1 (fun X : LaterOf W1 => p.2 X.w (hr.later X.h))))
  have HEC' := Lib.hid (fun hs => (EC' hs).imp (fun p => And.intro p.1 (fun X : LaterOf W1 => p.2 X.w (hr'.later X.h))) (fun p => And.intro p.1 (fun X : LaterOf W1 => p.2 X.w (hr'.later X.h))))
  have SM := Lib.hid (fun (hs : m.Small) (x : MkR) (hx : x.Small) (he : x.mk_ = m.mk_) (X : LaterOf W1) (hxr : x.Reads X.w) => same_to x m X.w true hxr (hr.later X.h) hx hs (eqB_yes he))
  have SO := Lib.hid (fun (hs : m.Small) (hs' : o.Small) (t : Bool) (ht : eqB m.mk_ o.mk_ = t) (X : LaterOf W1) => same_to m o X.w t (hr.later X.h) (hr'.later X.h) hs hs' ht)
  have u0 : ∀ X : LaterOf W1, X.w.cell? ⟨w.heap.size, 0, none⟩ = some (.slice o1 n1 f1) := fun X => (X.blk k1).cell 0
  have u1 : ∀ X : LaterOf W1, X.w.cell? ⟨w.heap.size, 1, none⟩ = some (.slice o2 n2 f2) := fun X => (X.blk k1).cell 1
  have u2 : ∀ X : LaterOf W1, X.w.cell? ⟨w.heap.size, 2, none⟩ = some (.slice o3 n3 f3) := fun X => (X.blk k1).cell 2
  have t0 : ∀ X : LaterOf W1, X.w.cell? ⟨w.heap.size + 1, 0, none⟩ = some (.slice p1 m1 g1) := fun X => (X.blk k2).cell 0
  have t1 : ∀ X : LaterOf W1, X.w.cell? ⟨w.heap.size + 1, 1, none⟩ = some (.slice p2 m2 g2) := fun X => (X.blk k2).cell 1
  have t2 : ∀ X : LaterOf W1, X.w.cell? ⟨w.heap.size + 1, 2, none⟩ = some (.slice p3 m3 g3) := fun X => (X.blk k2).cell 2
  have z0 : ∀ X : LaterOf W1, w.heap.size < X.w.heap.size := fun X => (X.blk k1).lt
  have z1 : ∀ X : LaterOf W1, w.heap.size + 1 < X.w.heap.size := fun X => (X.blk k2).lt
  have HB := Lib.hid (fun X : LaterOf W1 => hb1.trans (X.h.mono hb1.size))
  have HW := Lib.hid hW1
  rw [hA, hA'] at SO ⊢
  rw [hA] at GR HEC GD SM
  rw [hA'] at GR' HEC'
  clear EC EC' hA hA' h h' hr hr' k1 k2 hb1 hW1
  have HD : Hid ((dec s = none) ∨ ∃ M, dec s = some M) := Lib.hid (by cases dec s with | none => exact .inl rfl | some M => exact .inr ⟨M, rfl⟩)
  go_enter Tryz.func5, Tryz.ntmps5
  go_wp2_with fail
  rw [← HW.out]
  clear HW
  obtain ⟨X, hX⟩ := LaterOf.at_ W1
  rw [hX]
  refine (LaterOf.call X (awake_any X.w)).mono ?_
  clear hX
  rintro e _ ⟨rfl, X, rfl⟩
  go_wp2_with fail
  refine (GR.out X).mono ?_
  rintro e w' ⟨⟨v, rfl, hlow⟩, hb⟩
  obtain ⟨X, rfl⟩ := X.next hb
  clear hb GR
  cases v
  case true =>
    clear hlow
    go_wp2_with fail
    go_ret
    exact ⟨rfl, HB.out X⟩
  have hs := Lib.hid ((hlow rfl).small)
  clear hlow
  go_wp2_with fail
  refine (GR'.out X).mono ?_
  rintro e w' ⟨⟨v, rfl, hlow⟩, hb⟩
  obtain ⟨X, rfl⟩ := X.next hb
  clear hb GR'
  cases v
  case true =>
    clear hlow
    go_wp2_with fail
    go_ret
    exact ⟨rfl, HB.out X⟩
  have hs' := Lib.hid ((hlow rfl).small)
  clear hlow
  by_cases hl : 131072 < (s.size : Int)
  case pos =>
    go_wp2_with fail
    go_ret
    exact ⟨rfl, HB.out X⟩
  rcases HEC.out hs.out with ⟨hg, EN⟩ | ⟨hg, EN⟩
  case inr =>
    have EN := Lib.hid EN
    have HG := Lib.hid hg
    clear hg HEC
    rcases HEC'.out hs'.out with ⟨hg', EN'⟩ | ⟨hg', EN'⟩
    · have EN' := Lib.hid EN'
      clear hg' HEC'
      go_wp2_with fail
      refine (LaterOf.call X (EN.out X)).mono ?_
      rintro e _ ⟨rfl, X, rfl⟩
      go_wp2_with fail
      refine (LaterOf.call X (EN'.out X)).mono ?_
      rintro e _ ⟨rfl, X, rfl⟩
      go_wp2_with fail
      refine (LaterOf.call X (show Calls Tryz.prog 14 #[.agg #[.slice o1 n1 f1, .slice o2 n2 f2, .slice o3 n3 f3]] X.w fun e w' => e = .returned (.bool false) ∧ Below X.w.heap.size X.w w' from by have := GD.out hs.out X; rw [HG.out] at this; exact this)).mono ?_
      rintro e _ ⟨rfl, X, rfl⟩
      rcases HD.out with hd | ⟨M, hd⟩
      · have DN := Lib.hid (dec_none_any s hd)
        clear hd
        go_wp2_with fail
        refine (LaterOf.call X (DN.out X.w)).mono ?_
        rintro e _ ⟨rfl, X, rfl⟩
        go_wp2_with fail
        obtain ⟨Y, hY⟩ := X.allocs (.cells #[.slice none 0 0, .slice none 0 0, .slice none 0 0] 26)
        rw [hY]
        refine (LaterOf.call Y (same_to MkR.none_ MkR.none_ Y.w true (MkR.none_reads _) (MkR.none_reads _) MkR.none_small MkR.none_small (eqB_yes rfl))).mono ?_
        clear hY
        rintro e _ ⟨rfl, Y, rfl⟩
        go_wp2_with fail
        go_ret
        exact ⟨rfl, HB.out Y⟩
      · have DS := Lib.hid (dec_some_any s M hd)
        obtain ⟨hgM, heM⟩ := dec_some hd
        have HM := Lib.hid (And.intro hgM heM)
        clear hd hgM heM
        go_wp2_with fail
        refine (DS.out X.w).mono ?_
        rintro e w' ⟨⟨x, he, hmk, hxr, hxs⟩, hb⟩
        obtain ⟨X, rfl⟩ := X.next hb
        obtain ⟨q1, l1, r1, q2, l2, r2, q3, l3, r3, hAx⟩ := MkR.form hxr
        have EN := fun W (hW : x.Reads W) => encode_good x W hW hxs.2.2.2 (by rw [hmk]; exact HM.out.1)
        rw [hmk, HM.out.2, hAx] at EN
        rw [hAx] at he
        subst he
        have EN := Lib.hid EN
        have HX := Lib.hid hxr
        clear hmk hxr hxs hb hAx DS
        go_wp2_with fail
        obtain ⟨Y, hY⟩ := X.allocs (.cells #[.slice q1 l1 r1, .slice q2 l2 r2, .slice q3 l3 r3] 26)
        have hYb : Below X.w.heap.size X.w Y.w := by rw [← hY]; exact (Below.refl _ _).alloc (Nat.le_refl _) _
        rw [hY]
        refine (LaterOf.call Y (EN.out Y.w (HX.out.later hYb))).mono ?_
        clear hY hYb
        rintro e _ ⟨rfl, Y, rfl⟩
        go_wp2_with fail
        go_ret
        exact ⟨by simp, HB.out Y⟩
    · have EN' := Lib.hid EN'
      clear hg' HEC'
      go_wp2_with fail
      refine (LaterOf.call X (EN.out X)).mono ?_
      rintro e _ ⟨rfl, X, rfl⟩
      go_wp2_with fail
      refine (LaterOf.call X (EN'.out X)).mono ?_
      rintro e _ ⟨rfl, X, rfl⟩
      go_wp2_with fail
      refine (LaterOf.call X (show Calls Tryz.prog 14 #[.agg #[.slice o1 n1 f1, .slice o2 n2 f2, .slice o3 n3 f3]] X.w fun e w' => e = .returned (.bool false) ∧ Below X.w.heap.size X.w w' from by have := GD.out hs.out X; rw [HG.out] at this; exact this)).mono ?_
      rintro e _ ⟨rfl, X, rfl⟩
      rcases HD.out with hd | ⟨M, hd⟩
      · have DN := Lib.hid (dec_none_any s hd)
        clear hd
        go_wp2_with fail
        refine (LaterOf.call X (DN.out X.w)).mono ?_
        rintro e _ ⟨rfl, X, rfl⟩
        go_wp2_with fail
        obtain ⟨Y, hY⟩ := X.allocs (.cells #[.slice none 0 0, .slice none 0 0, .slice none 0 0] 26)
        rw [hY]
        refine (LaterOf.call Y (same_to MkR.none_ MkR.none_ Y.w true (MkR.none_reads _) (MkR.none_reads _) MkR.none_small MkR.none_small (eqB_yes rfl))).mono ?_
        clear hY
        rintro e _ ⟨rfl, Y, rfl⟩
        go_wp2_with fail
        go_ret
        exact ⟨rfl, HB.out Y⟩
      · have DS := Lib.hid (dec_some_any s M hd)
        obtain ⟨hgM, heM⟩ := dec_some hd
        have HM := Lib.hid (And.intro hgM heM)
        clear hd hgM heM
        go_wp2_with fail
        refine (DS.out X.w).mono ?_
        rintro e w' ⟨⟨x, he, hmk, hxr, hxs⟩, hb⟩
        obtain ⟨X, rfl⟩ := X.next hb
        obtain ⟨q1, l1, r1, q2, l2, r2, q3, l3, r3, hAx⟩ := MkR.form hxr
        have EN := fun W (hW : x.Reads W) => encode_good x W hW hxs.2.2.2 (by rw [hmk]; exact HM.out.1)
        rw [hmk, HM.out.2, hAx] at EN
        rw [hAx] at he
        subst he
        have EN := Lib.hid EN
        have HX := Lib.hid hxr
        clear hmk hxr hxs hb hAx DS
        go_wp2_with fail
        obtain ⟨Y, hY⟩ := X.allocs (.cells #[.slice q1 l1 r1, .slice q2 l2 r2, .slice q3 l3 r3] 26)
        have hYb : Below X.w.heap.size X.w Y.w := by rw [← hY]; exact (Below.refl _ _).alloc (Nat.le_refl _) _
        rw [hY]
        refine (LaterOf.call Y (EN.out Y.w (HX.out.later hYb))).mono ?_
        clear hY hYb
        rintro e _ ⟨rfl, Y, rfl⟩
        go_wp2_with fail
        go_ret
        exact ⟨by simp, HB.out Y⟩
  obtain ⟨S, hS⟩ : ∃ S, S = enMk m.mk_ := ⟨_, rfl⟩
  rw [← hS] at EN
  have EN := Lib.hid EN
  have HG := Lib.hid hg
  have DM := Lib.hid (dec_some_any S m.mk_ (by rw [hS]; exact dec_enc hg))
  have HS := Lib.hid hS
  clear hg HEC hS
  rcases HEC'.out hs'.out with ⟨hg', EN'⟩ | ⟨hg', EN'⟩
  · obtain ⟨S', hS'⟩ : ∃ S, S = enMk o.mk_ := ⟨_, rfl⟩
    rw [← hS'] at EN'
    have EN' := Lib.hid EN'
    obtain ⟨t, ht⟩ : ∃ t, t = eqB m.mk_ o.mk_ := ⟨_, rfl⟩
    have HT : (S.toList == S'.toList) = t := by
      rw [Bool.eq_iff_iff, bytes_eq, ht, eqB_iff, HS.out, hS']
      exact ⟨fun e => enc_inj HG.out hg' e, fun e => by rw [e]⟩
    have SO := Lib.hid (SO.out hs.out hs'.out t ht.symm)
    clear hg' HEC' hS' ht
    go_wp2_with fail
    refine (LaterOf.call X (EN.out X)).mono ?_
    rintro e _ ⟨rfl, X, rfl⟩
    go_wp2_with fail
    refine (LaterOf.call X (EN'.out X)).mono ?_
    rintro e _ ⟨rfl, X, rfl⟩
    go_wp2_with fail
    refine (LaterOf.call X (show Calls Tryz.prog 14 #[.agg #[.slice o1 n1 f1, .slice o2 n2 f2, .slice o3 n3 f3]] X.w fun e w' => e = .returned (.bool true) ∧ Below X.w.heap.size X.w w' from by have := GD.out hs.out X; rw [HG.out] at this; exact this)).mono ?_
    rintro e _ ⟨rfl, X, rfl⟩
    go_wp2_with fail
    refine (DM.out X.w).mono ?_
    rintro e w' ⟨⟨x, he, hmk, hxr, hxs⟩, hb⟩
    obtain ⟨X, rfl⟩ := X.next hb
    obtain ⟨q1, l1, r1, q2, l2, r2, q3, l3, r3, hAx⟩ := MkR.form hxr
    have SX := SM.out hs.out x hxs hmk
    rw [hAx] at SX
    rw [hAx] at he
    subst he
    have SX := Lib.hid SX
    have HX := Lib.hid hxr
    have zX0 := z0 X
    have zX1 := z1 X
    clear hmk hxr hxs hb hAx DM
    go_wp2_with fail
    obtain ⟨Y, hY⟩ := X.allocs (.cells #[.slice q1 l1 r1, .slice q2 l2 r2, .slice q3 l3 r3] 26)
    have hYb : Below X.w.heap.size X.w Y.w := by rw [← hY]; exact (Below.refl _ _).alloc (Nat.le_refl _) _
    rw [hY]
    refine (LaterOf.call Y (SX.out Y (HX.out.later hYb))).mono ?_
    clear hY hYb zX0 zX1 SX HX
    rintro e _ ⟨rfl, X, rfl⟩
    go_wp2_with fail
    refine (LaterOf.call X (SO.out X)).mono ?_
    rintro e _ ⟨rfl, X, rfl⟩
    cases t
    · rcases HD.out with hd | ⟨M, hd⟩
      · have DN := Lib.hid (dec_none_any s hd)
        clear hd
        go_wp2_with fail
        refine (LaterOf.call X (DN.out X.w)).mono ?_
        rintro e _ ⟨rfl, X, rfl⟩
        go_wp2_with fail
        obtain ⟨Y, hY⟩ := X.allocs (.cells #[.slice none 0 0, .slice none 0 0, .slice none 0 0] 26)
        rw [hY]
        refine (LaterOf.call Y (same_to MkR.none_ MkR.none_ Y.w true (MkR.none_reads _) (MkR.none_reads _) MkR.none_small MkR.none_small (eqB_yes rfl))).mono ?_
        clear hY
        rintro e _ ⟨rfl, Y, rfl⟩
        go_wp2_with fail
        go_ret
        exact ⟨rfl, HB.out Y⟩
      · have DS := Lib.hid (dec_some_any s M hd)
        obtain ⟨hgM, heM⟩ := dec_some hd
        have HM := Lib.hid (And.intro hgM heM)
        clear hd hgM heM
        go_wp2_with fail
        refine (DS.out X.w).mono ?_
        rintro e w' ⟨⟨x, he, hmk, hxr, hxs⟩, hb⟩
        obtain ⟨X, rfl⟩ := X.next hb
        obtain ⟨q1, l1, r1, q2, l2, r2, q3, l3, r3, hAx⟩ := MkR.form hxr
        have EN := fun W (hW : x.Reads W) => encode_good x W hW hxs.2.2.2 (by rw [hmk]; exact HM.out.1)
        rw [hmk, HM.out.2, hAx] at EN
        rw [hAx] at he
        subst he
        have EN := Lib.hid EN
        have HX := Lib.hid hxr
        clear hmk hxr hxs hb hAx DS
        go_wp2_with fail
        obtain ⟨Y, hY⟩ := X.allocs (.cells #[.slice q1 l1 r1, .slice q2 l2 r2, .slice q3 l3 r3] 26)
        have hYb : Below X.w.heap.size X.w Y.w := by rw [← hY]; exact (Below.refl _ _).alloc (Nat.le_refl _) _
        rw [hY]
        refine (LaterOf.call Y (EN.out Y.w (HX.out.later hYb))).mono ?_
        clear hY hYb
        rintro e _ ⟨rfl, Y, rfl⟩
        go_wp2_with fail
        go_ret
        exact ⟨by simp, HB.out Y⟩
    · rcases HD.out with hd | ⟨M, hd⟩
      · have DN := Lib.hid (dec_none_any s hd)
        clear hd
        go_wp2_with fail
        refine (LaterOf.call X (DN.out X.w)).mono ?_
        rintro e _ ⟨rfl, X, rfl⟩
        go_wp2_with fail
        obtain ⟨Y, hY⟩ := X.allocs (.cells #[.slice none 0 0, .slice none 0 0, .slice none 0 0] 26)
        rw [hY]
        refine (LaterOf.call Y (same_to MkR.none_ MkR.none_ Y.w true (MkR.none_reads _) (MkR.none_reads _) MkR.none_small MkR.none_small (eqB_yes rfl))).mono ?_
        clear hY
        rintro e _ ⟨rfl, Y, rfl⟩
        go_wp2_with fail
        go_ret
        exact ⟨rfl, HB.out Y⟩
      · have DS := Lib.hid (dec_some_any s M hd)
        obtain ⟨hgM, heM⟩ := dec_some hd
        have HM := Lib.hid (And.intro hgM heM)
        clear hd hgM heM
        go_wp2_with fail
        refine (DS.out X.w).mono ?_
        rintro e w' ⟨⟨x, he, hmk, hxr, hxs⟩, hb⟩
        obtain ⟨X, rfl⟩ := X.next hb
        obtain ⟨q1, l1, r1, q2, l2, r2, q3, l3, r3, hAx⟩ := MkR.form hxr
        have EN := fun W (hW : x.Reads W) => encode_good x W hW hxs.2.2.2 (by rw [hmk]; exact HM.out.1)
        rw [hmk, HM.out.2, hAx] at EN
        rw [hAx] at he
        subst he
        have EN := Lib.hid EN
        have HX := Lib.hid hxr
        clear hmk hxr hxs hb hAx DS
        go_wp2_with fail
        obtain ⟨Y, hY⟩ := X.allocs (.cells #[.slice q1 l1 r1, .slice q2 l2 r2, .slice q3 l3 r3] 26)
        have hYb : Below X.w.heap.size X.w Y.w := by rw [← hY]; exact (Below.refl _ _).alloc (Nat.le_refl _) _
        rw [hY]
        refine (LaterOf.call Y (EN.out Y.w (HX.out.later hYb))).mono ?_
        clear hY hYb
        rintro e _ ⟨rfl, Y, rfl⟩
        go_wp2_with fail
        go_ret
        exact ⟨by simp, HB.out Y⟩
  · have EN' := Lib.hid EN'
    clear hg' HEC'
    go_wp2_with fail
    refine (LaterOf.call X (EN.out X)).mono ?_
    rintro e _ ⟨rfl, X, rfl⟩
    go_wp2_with fail
    refine (LaterOf.call X (EN'.out X)).mono ?_
    rintro e _ ⟨rfl, X, rfl⟩
    go_wp2_with fail
    refine (LaterOf.call X (show Calls Tryz.prog 14 #[.agg #[.slice o1 n1 f1, .slice o2 n2 f2, .slice o3 n3 f3]] X.w fun e w' => e = .returned (.bool true) ∧ Below X.w.heap.size X.w w' from by have := GD.out hs.out X; rw [HG.out] at this; exact this)).mono ?_
    rintro e _ ⟨rfl, X, rfl⟩
    go_wp2_with fail
    refine (DM.out X.w).mono ?_
    rintro e w' ⟨⟨x, he, hmk, hxr, hxs⟩, hb⟩
    obtain ⟨X, rfl⟩ := X.next hb
    obtain ⟨q1, l1, r1, q2, l2, r2, q3, l3, r3, hAx⟩ := MkR.form hxr
    have SX := SM.out hs.out x hxs hmk
    rw [hAx] at SX
    rw [hAx] at he
    subst he
    have SX := Lib.hid SX
    have HX := Lib.hid hxr
    have zX0 := z0 X
    have zX1 := z1 X
    clear hmk hxr hxs hb hAx DM
    go_wp2_with fail
    obtain ⟨Y, hY⟩ := X.allocs (.cells #[.slice q1 l1 r1, .slice q2 l2 r2, .slice q3 l3 r3] 26)
    have hYb : Below X.w.heap.size X.w Y.w := by rw [← hY]; exact (Below.refl _ _).alloc (Nat.le_refl _) _
    rw [hY]
    refine (LaterOf.call Y (SX.out Y (HX.out.later hYb))).mono ?_
    clear hY hYb zX0 zX1 SX HX
    rintro e _ ⟨rfl, X, rfl⟩
    rcases HD.out with hd | ⟨M, hd⟩
    · have DN := Lib.hid (dec_none_any s hd)
      clear hd
      go_wp2_with fail
      refine (LaterOf.call X (DN.out X.w)).mono ?_
      rintro e _ ⟨rfl, X, rfl⟩
      go_wp2_with fail
      obtain ⟨Y, hY⟩ := X.allocs (.cells #[.slice none 0 0, .slice none 0 0, .slice none 0 0] 26)
      rw [hY]
      refine (LaterOf.call Y (same_to MkR.none_ MkR.none_ Y.w true (MkR.none_reads _) (MkR.none_reads _) MkR.none_small MkR.none_small (eqB_yes rfl))).mono ?_
      clear hY
      rintro e _ ⟨rfl, Y, rfl⟩
      go_wp2_with fail
      go_ret
      exact ⟨rfl, HB.out Y⟩
    · have DS := Lib.hid (dec_some_any s M hd)
      obtain ⟨hgM, heM⟩ := dec_some hd
      have HM := Lib.hid (And.intro hgM heM)
      clear hd hgM heM
      go_wp2_with fail
      refine (DS.out X.w).mono ?_
      rintro e w' ⟨⟨x, he, hmk, hxr, hxs⟩, hb⟩
      obtain ⟨X, rfl⟩ := X.next hb
      obtain ⟨q1, l1, r1, q2, l2, r2, q3, l3, r3, hAx⟩ := MkR.form hxr
      have EN := fun W (hW : x.Reads W) => encode_good x W hW hxs.2.2.2 (by rw [hmk]; exact HM.out.1)
      rw [hmk, HM.out.2, hAx] at EN
      rw [hAx] at he
      subst he
      have EN := Lib.hid EN
      have HX := Lib.hid hxr
      clear hmk hxr hxs hb hAx DS
      go_wp2_with fail
      obtain ⟨Y, hY⟩ := X.allocs (.cells #[.slice q1 l1 r1, .slice q2 l2 r2, .slice q3 l3 r3] 26)
      have hYb : Below X.w.heap.size X.w Y.w := by rw [← hY]; exact (Below.refl _ _).alloc (Nat.le_refl _) _
      rw [hY]
      refine (LaterOf.call Y (EN.out Y.w (HX.out.later hYb))).mono ?_
      clear hY hYb
      rintro e _ ⟨rfl, Y, rfl⟩
      go_wp2_with fail
      go_ret
      exact ⟨by simp, HB.out Y⟩
end Go.Proofs.YtngflbakmlddeaaGreat.Mk
