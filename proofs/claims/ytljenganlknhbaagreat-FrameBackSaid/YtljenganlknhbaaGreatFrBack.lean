/- The law FrameBack, walked: a right message's bytes are read as itself, and bytes that are read are written as themselves. Printed by gen_frback.py. (Layer 19.) -/
import Derived.Test.YtljenganlknhbaaGreatFrV
namespace Go.Proofs.YtljenganlknhbaaGreat.Fr
set_option linter.unusedVariables false
set_option linter.unusedSimpArgs false
open Go.RowKit Go.Lib Oct
open Mk (eqB eqB_yes eqB_iff bytes_eq)
set_option maxRecDepth 100000 in
set_option maxHeartbeats 8000000 in
theorem back_any (m o : MsgR) (s : ByteArray) (w : World) (h : m.Reads w) (hz : m.Sized) (h' : o.Reads w) (hz' : o.Sized) : Calls Tryz.prog 5 #[aMsg m, aMsg o, .string s] w fun e w' => e = .returned (.bool true) ∧ Below w.heap.size w w' := by
  obtain ⟨akk, asc, ads, ase, ast, ao1, an1, af1, ao2, an2, af2, ao3, an3, af3, ao4, an4, af4, ao5, an5, af5, ao6, an6, af6, ao7, an7, af7, hA⟩ := MsgR.agg h
  obtain ⟨bkk, bsc, bds, bse, bst, bo1, bn1, bf1, bo2, bn2, bf2, bo3, bn3, bf3, bo4, bn4, bf4, bo5, bn5, bf5, bo6, bn6, bf6, bo7, bn7, bf7, hA'⟩ := MsgR.agg h'
  have EC := enc_cases m
  have EC' := enc_cases o
  obtain ⟨W1, hW1⟩ : ∃ W1, W1 = (w.alloc (.cells #[.int .i64 akk, .int .i64 asc, .int .i64 ads, .int .i64 ase, .int .i64 ast, .slice ao1 an1 af1, .slice ao2 an2 af2, .slice ao3 an3 af3, .slice ao4 an4 af4, .slice ao5 an5 af5, .slice ao6 an6 af6, .slice ao7 an7 af7] 30)).alloc (.cells #[.int .i64 bkk, .int .i64 bsc, .int .i64 bds, .int .i64 bse, .int .i64 bst, .slice bo1 bn1 bf1, .slice bo2 bn2 bf2, .slice bo3 bn3 bf3, .slice bo4 bn4 bf4, .slice bo5 bn5 bf5, .slice bo6 bn6 bf6, .slice bo7 bn7 bf7] 30) := ⟨_, rfl⟩
  have hb1 : Below w.heap.size w W1 := by rw [hW1]; exact ((Below.refl _ _).alloc (Nat.le_refl _) _).alloc (by simp) _
  have k1 : BlkIs W1 w.heap.size 30 #[.int .i64 akk, .int .i64 asc, .int .i64 ads, .int .i64 ase, .int .i64 ast, .slice ao1 an1 af1, .slice ao2 an2 af2, .slice ao3 an3 af3, .slice ao4 an4 af4, .slice ao5 an5 af5, .slice ao6 an6 af6, .slice ao7 an7 af7] := by rw [hW1]; exact (BlkIs.new _ _ _).alloc _
  have k2 : BlkIs W1 (w.heap.size + 1) 30 #[.int .i64 bkk, .int .i64 bsc, .int .i64 bds, .int .i64 bse, .int .i64 bst, .slice bo1 bn1 bf1, .slice bo2 bn2 bf2, .slice bo3 bn3 bf3, .slice bo4 bn4 bf4, .slice bo5 bn5 bf5, .slice bo6 bn6 bf6, .slice bo7 bn7 bf7] := by rw [hW1]; exact BlkIs.new2 _ _ _ _
  have hr := h.later hb1
  have hr' := h'.later hb1
  have GR := Lib.hid (fun X : LaterOf W1 => great_any m X.w (hr.later X.h) hz)
  have GR' := Lib.hid (fun X : LaterOf W1 => great_any o X.w (hr'.later X.h) hz')
  have GD := Lib.hid (fun (hs : m.Small) (X : LaterOf W1) => good_any m X.w (hr.later X.h) hs)
  have HEC := Lib.hid (fun hs => (EC hs).imp (fun p => And.intro p.1 (fun X : LaterOf W1 => p.2 X.w (hr.later X.h))) (fun p => And.intro p.1 (fun X : LaterOf W1 => p.2 X.w (hr.later X.h))))
  have HEC' := Lib.hid (fun hs => (EC' hs).imp (fun p => And.intro p.1 (fun X : LaterOf W1 => p.2 X.w (hr'.later X.h))) (fun p => And.intro p.1 (fun X : LaterOf W1 => p.2 X.w (hr'.later X.h))))
  have SM := Lib.hid (fun (hs : m.Small) (x : MsgR) (hx : x.Small) (he : x.msg = m.msg) (X : LaterOf W1) (hxr : x.Reads X.w) => same_to x m X.w true hxr (hr.later X.h) hx hs (eqB_yes he))
  have SO := Lib.hid (fun (hs : m.Small) (hs' : o.Small) (t : Bool) (ht : eqB m.msg o.msg = t) (X : LaterOf W1) => same_to m o X.w t (hr.later X.h) (hr'.later X.h) hs hs' ht)
  have u0 : ∀ X : LaterOf W1, X.w.cell? ⟨w.heap.size, 0, none⟩ = some (.int .i64 akk) := fun X => (X.blk k1).cell 0
  have u1 : ∀ X : LaterOf W1, X.w.cell? ⟨w.heap.size, 1, none⟩ = some (.int .i64 asc) := fun X => (X.blk k1).cell 1
  have u2 : ∀ X : LaterOf W1, X.w.cell? ⟨w.heap.size, 2, none⟩ = some (.int .i64 ads) := fun X => (X.blk k1).cell 2
  have u3 : ∀ X : LaterOf W1, X.w.cell? ⟨w.heap.size, 3, none⟩ = some (.int .i64 ase) := fun X => (X.blk k1).cell 3
  have u4 : ∀ X : LaterOf W1, X.w.cell? ⟨w.heap.size, 4, none⟩ = some (.int .i64 ast) := fun X => (X.blk k1).cell 4
  have u5 : ∀ X : LaterOf W1, X.w.cell? ⟨w.heap.size, 5, none⟩ = some (.slice ao1 an1 af1) := fun X => (X.blk k1).cell 5
  have u6 : ∀ X : LaterOf W1, X.w.cell? ⟨w.heap.size, 6, none⟩ = some (.slice ao2 an2 af2) := fun X => (X.blk k1).cell 6
  have u7 : ∀ X : LaterOf W1, X.w.cell? ⟨w.heap.size, 7, none⟩ = some (.slice ao3 an3 af3) := fun X => (X.blk k1).cell 7
  have u8 : ∀ X : LaterOf W1, X.w.cell? ⟨w.heap.size, 8, none⟩ = some (.slice ao4 an4 af4) := fun X => (X.blk k1).cell 8
  have u9 : ∀ X : LaterOf W1, X.w.cell? ⟨w.heap.size, 9, none⟩ = some (.slice ao5 an5 af5) := fun X => (X.blk k1).cell 9
  have u10 : ∀ X : LaterOf W1, X.w.cell? ⟨w.heap.size, 10, none⟩ = some (.slice ao6 an6 af6) := fun X => (X.blk k1).cell 10
  have u11 : ∀ X : LaterOf W1, X.w.cell? ⟨w.heap.size, 11, none⟩ = some (.slice ao7 an7 af7) := fun X => (X.blk k1).cell 11
  have t0 : ∀ X : LaterOf W1, X.w.cell? ⟨w.heap.size + 1, 0, none⟩ = some (.int .i64 bkk) := fun X => (X.blk k2).cell 0
  have t1 : ∀ X : LaterOf W1, X.w.cell? ⟨w.heap.size + 1, 1, none⟩ = some (.int .i64 bsc) := fun X => (X.blk k2).cell 1
  have t2 : ∀ X : LaterOf W1, X.w.cell? ⟨w.heap.size + 1, 2, none⟩ = some (.int .i64 bds) := fun X => (X.blk k2).cell 2
  have t3 : ∀ X : LaterOf W1, X.w.cell? ⟨w.heap.size + 1, 3, none⟩ = some (.int .i64 bse) := fun X => (X.blk k2).cell 3
  have t4 : ∀ X : LaterOf W1, X.w.cell? ⟨w.heap.size + 1, 4, none⟩ = some (.int .i64 bst) := fun X => (X.blk k2).cell 4
  have t5 : ∀ X : LaterOf W1, X.w.cell? ⟨w.heap.size + 1, 5, none⟩ = some (.slice bo1 bn1 bf1) := fun X => (X.blk k2).cell 5
  have t6 : ∀ X : LaterOf W1, X.w.cell? ⟨w.heap.size + 1, 6, none⟩ = some (.slice bo2 bn2 bf2) := fun X => (X.blk k2).cell 6
  have t7 : ∀ X : LaterOf W1, X.w.cell? ⟨w.heap.size + 1, 7, none⟩ = some (.slice bo3 bn3 bf3) := fun X => (X.blk k2).cell 7
  have t8 : ∀ X : LaterOf W1, X.w.cell? ⟨w.heap.size + 1, 8, none⟩ = some (.slice bo4 bn4 bf4) := fun X => (X.blk k2).cell 8
  have t9 : ∀ X : LaterOf W1, X.w.cell? ⟨w.heap.size + 1, 9, none⟩ = some (.slice bo5 bn5 bf5) := fun X => (X.blk k2).cell 9
  have t10 : ∀ X : LaterOf W1, X.w.cell? ⟨w.heap.size + 1, 10, none⟩ = some (.slice bo6 bn6 bf6) := fun X => (X.blk k2).cell 10
  have t11 : ∀ X : LaterOf W1, X.w.cell? ⟨w.heap.size + 1, 11, none⟩ = some (.slice bo7 bn7 bf7) := fun X => (X.blk k2).cell 11
  have z0 : ∀ X : LaterOf W1, w.heap.size < X.w.heap.size := fun X => (X.blk k1).lt
  have z1 : ∀ X : LaterOf W1, w.heap.size + 1 < X.w.heap.size := fun X => (X.blk k2).lt
  have HB := Lib.hid (fun X : LaterOf W1 => hb1.trans (X.h.mono hb1.size))
  have HW := Lib.hid hW1
  rw [hA, hA'] at SO ⊢
  rw [hA] at GR HEC GD SM
  rw [hA'] at GR' HEC'
  clear EC EC' hA hA' h h' hr hr' k1 k2 hb1 hW1 hz hz'
  have HD := Lib.hid (decM_split s)
  go_enter Tryz.func5, Tryz.ntmps5
  go_wp2_with fail
  rw [← HW.out]
  clear HW
  obtain ⟨X, hX⟩ := later_at W1
  rw [hX]
  refine (LaterOf.call X (awake_any X.w)).mono ?_
  clear hX
  rintro e _ ⟨rfl, X, rfl⟩
  go_wp2_with fail
  refine (GR.out X).mono ?_
  rintro e w' ⟨⟨v, rfl, hlow⟩, hb⟩
  obtain ⟨X, rfl⟩ := lat_next X hb
  clear hb GR
  cases v
  case true =>
    clear hlow
    go_wp2_with fail
    go_ret
    exact ⟨rfl, HB.out X⟩
  have hs := Lib.hid (hlow rfl)
  clear hlow
  go_wp2_with fail
  refine (GR'.out X).mono ?_
  rintro e w' ⟨⟨v, rfl, hlow⟩, hb⟩
  obtain ⟨X, rfl⟩ := lat_next X hb
  clear hb GR'
  cases v
  case true =>
    clear hlow
    go_wp2_with fail
    go_ret
    exact ⟨rfl, HB.out X⟩
  have hs' := Lib.hid (hlow rfl)
  clear hlow
  by_cases hl : 131072 < (s.size : Int)
  case pos =>
    go_wp2_with fail
    go_ret
    exact ⟨rfl, HB.out X⟩
  have HZ := Lib.hid (show s.size ≤ 1073741824 by omega)
  rcases HEC.out hs.out with ⟨hg, EN⟩ | ⟨hg, EN⟩
  case inl =>
    have EN := Lib.hid EN
    have HG := Lib.hid hg
    clear hg HEC
    rcases HEC'.out hs'.out with ⟨hg', EN'⟩ | ⟨hg', EN'⟩
    · have EN' := Lib.hid EN'
      clear hg' HEC'
      go_wp2_with fail
      refine (LaterOf.call X (EN.out X)).mono ?_
      rintro e _ ⟨rfl, X, rfl⟩
      go_wp2_with fail
      refine (LaterOf.call X (EN'.out X)).mono ?_
      rintro e _ ⟨rfl, X, rfl⟩
      go_wp2_with fail
      refine (LaterOf.call X (show Calls Tryz.prog 12 #[.agg #[.int .i64 akk, .int .i64 asc, .int .i64 ads, .int .i64 ase, .int .i64 ast, .slice ao1 an1 af1, .slice ao2 an2 af2, .slice ao3 an3 af3, .slice ao4 an4 af4, .slice ao5 an5 af5, .slice ao6 an6 af6, .slice ao7 an7 af7]] X.w fun e w' => e = .returned (.bool false) ∧ Below X.w.heap.size X.w w' from by have := GD.out hs.out X; rw [HG.out] at this; exact this)).mono ?_
      rintro e _ ⟨rfl, X, rfl⟩
      rcases HD.out with ⟨n, hd, hn⟩ | ⟨M, hd, hgM, heM⟩
      · have DN := Lib.hid (fun W => dec_to s W HZ.out hd)
        have n1 : (n == 0) = false := by simpa using hn
        have n2 : (n != 0) = true := by simpa using hn
        have n3 : ¬ n = 0 := hn
        clear hd hn
        go_wp2_with fail
        refine (DN.out X.w).mono ?_
        rintro e w' ⟨x, he, hmk, hxr, hxs, hb⟩
        obtain ⟨X, rfl⟩ := lat_next X hb
        obtain ⟨qkk, qsc, qds, qse, qst, qo1, qn1, qf1, qo2, qn2, qf2, qo3, qn3, qf3, qo4, qn4, qf4, qo5, qn5, qf5, qo6, qn6, qf6, qo7, qn7, qf7, hAx⟩ := MsgR.agg hxr
        have SX := fun W (hW : x.Reads W) => same_to x MsgR.none_ W true hW (MsgR.none_reads _) hxs MsgR.none_small (eqB_yes (by rw [hmk]; rfl))
        rw [hAx, MsgR.none_agg] at SX
        rw [hAx] at he
        subst he
        have SX := Lib.hid SX
        have HX := Lib.hid hxr
        clear hmk hxr hxs hb hAx DN
        go_wp2_with fail
        obtain ⟨Y, hY⟩ := lat_allocs X (.cells #[.int .i64 qkk, .int .i64 qsc, .int .i64 qds, .int .i64 qse, .int .i64 qst, .slice qo1 qn1 qf1, .slice qo2 qn2 qf2, .slice qo3 qn3 qf3, .slice qo4 qn4 qf4, .slice qo5 qn5 qf5, .slice qo6 qn6 qf6, .slice qo7 qn7 qf7] 30)
        have hYb : Below X.w.heap.size X.w Y.w := by rw [← hY]; exact (Below.refl _ _).alloc (Nat.le_refl _) _
        rw [hY]
        refine (LaterOf.call Y (SX.out Y.w (HX.out.later hYb))).mono ?_
        clear hY hYb
        rintro e _ ⟨rfl, Y, rfl⟩
        go_wp2_with fail
        go_ret
        exact ⟨rfl, HB.out Y⟩
      · have DS := Lib.hid (fun W => dec_to s W HZ.out hd)
        have HM := Lib.hid (And.intro hgM heM)
        clear hd hgM heM
        go_wp2_with fail
        refine (DS.out X.w).mono ?_
        rintro e w' ⟨x, he, hmk, hxr, hxs, hb⟩
        obtain ⟨X, rfl⟩ := lat_next X hb
        obtain ⟨qkk, qsc, qds, qse, qst, qo1, qn1, qf1, qo2, qn2, qf2, qo3, qn3, qf3, qo4, qn4, qf4, qo5, qn5, qf5, qo6, qn6, qf6, qo7, qn7, qf7, hAx⟩ := MsgR.agg hxr
        have EN := fun W (hW : x.Reads W) => encode_good x W hW hxs (by rw [hmk]; exact HM.out.1)
        rw [hmk, HM.out.2, hAx] at EN
        rw [hAx] at he
        subst he
        have EN := Lib.hid EN
        have HX := Lib.hid hxr
        clear hmk hxr hxs hb hAx DS
        go_wp2_with fail
        obtain ⟨Y, hY⟩ := lat_allocs X (.cells #[.int .i64 qkk, .int .i64 qsc, .int .i64 qds, .int .i64 qse, .int .i64 qst, .slice qo1 qn1 qf1, .slice qo2 qn2 qf2, .slice qo3 qn3 qf3, .slice qo4 qn4 qf4, .slice qo5 qn5 qf5, .slice qo6 qn6 qf6, .slice qo7 qn7 qf7] 30)
        have hYb : Below X.w.heap.size X.w Y.w := by rw [← hY]; exact (Below.refl _ _).alloc (Nat.le_refl _) _
        rw [hY]
        refine (LaterOf.call Y (EN.out Y.w (HX.out.later hYb))).mono ?_
        clear hY hYb
        rintro e _ ⟨rfl, Y, rfl⟩
        go_wp2_with fail
        go_ret
        exact ⟨by simp, HB.out Y⟩
    · have EN' := Lib.hid EN'
      clear hg' HEC'
      go_wp2_with fail
      refine (LaterOf.call X (EN.out X)).mono ?_
      rintro e _ ⟨rfl, X, rfl⟩
      go_wp2_with fail
      refine (LaterOf.call X (EN'.out X)).mono ?_
      rintro e _ ⟨rfl, X, rfl⟩
      go_wp2_with fail
      refine (LaterOf.call X (show Calls Tryz.prog 12 #[.agg #[.int .i64 akk, .int .i64 asc, .int .i64 ads, .int .i64 ase, .int .i64 ast, .slice ao1 an1 af1, .slice ao2 an2 af2, .slice ao3 an3 af3, .slice ao4 an4 af4, .slice ao5 an5 af5, .slice ao6 an6 af6, .slice ao7 an7 af7]] X.w fun e w' => e = .returned (.bool false) ∧ Below X.w.heap.size X.w w' from by have := GD.out hs.out X; rw [HG.out] at this; exact this)).mono ?_
      rintro e _ ⟨rfl, X, rfl⟩
      rcases HD.out with ⟨n, hd, hn⟩ | ⟨M, hd, hgM, heM⟩
      · have DN := Lib.hid (fun W => dec_to s W HZ.out hd)
        have n1 : (n == 0) = false := by simpa using hn
        have n2 : (n != 0) = true := by simpa using hn
        have n3 : ¬ n = 0 := hn
        clear hd hn
        go_wp2_with fail
        refine (DN.out X.w).mono ?_
        rintro e w' ⟨x, he, hmk, hxr, hxs, hb⟩
        obtain ⟨X, rfl⟩ := lat_next X hb
        obtain ⟨qkk, qsc, qds, qse, qst, qo1, qn1, qf1, qo2, qn2, qf2, qo3, qn3, qf3, qo4, qn4, qf4, qo5, qn5, qf5, qo6, qn6, qf6, qo7, qn7, qf7, hAx⟩ := MsgR.agg hxr
        have SX := fun W (hW : x.Reads W) => same_to x MsgR.none_ W true hW (MsgR.none_reads _) hxs MsgR.none_small (eqB_yes (by rw [hmk]; rfl))
        rw [hAx, MsgR.none_agg] at SX
        rw [hAx] at he
        subst he
        have SX := Lib.hid SX
        have HX := Lib.hid hxr
        clear hmk hxr hxs hb hAx DN
        go_wp2_with fail
        obtain ⟨Y, hY⟩ := lat_allocs X (.cells #[.int .i64 qkk, .int .i64 qsc, .int .i64 qds, .int .i64 qse, .int .i64 qst, .slice qo1 qn1 qf1, .slice qo2 qn2 qf2, .slice qo3 qn3 qf3, .slice qo4 qn4 qf4, .slice qo5 qn5 qf5, .slice qo6 qn6 qf6, .slice qo7 qn7 qf7] 30)
        have hYb : Below X.w.heap.size X.w Y.w := by rw [← hY]; exact (Below.refl _ _).alloc (Nat.le_refl _) _
        rw [hY]
        refine (LaterOf.call Y (SX.out Y.w (HX.out.later hYb))).mono ?_
        clear hY hYb
        rintro e _ ⟨rfl, Y, rfl⟩
        go_wp2_with fail
        go_ret
        exact ⟨rfl, HB.out Y⟩
      · have DS := Lib.hid (fun W => dec_to s W HZ.out hd)
        have HM := Lib.hid (And.intro hgM heM)
        clear hd hgM heM
        go_wp2_with fail
        refine (DS.out X.w).mono ?_
        rintro e w' ⟨x, he, hmk, hxr, hxs, hb⟩
        obtain ⟨X, rfl⟩ := lat_next X hb
        obtain ⟨qkk, qsc, qds, qse, qst, qo1, qn1, qf1, qo2, qn2, qf2, qo3, qn3, qf3, qo4, qn4, qf4, qo5, qn5, qf5, qo6, qn6, qf6, qo7, qn7, qf7, hAx⟩ := MsgR.agg hxr
        have EN := fun W (hW : x.Reads W) => encode_good x W hW hxs (by rw [hmk]; exact HM.out.1)
        rw [hmk, HM.out.2, hAx] at EN
        rw [hAx] at he
        subst he
        have EN := Lib.hid EN
        have HX := Lib.hid hxr
        clear hmk hxr hxs hb hAx DS
        go_wp2_with fail
        obtain ⟨Y, hY⟩ := lat_allocs X (.cells #[.int .i64 qkk, .int .i64 qsc, .int .i64 qds, .int .i64 qse, .int .i64 qst, .slice qo1 qn1 qf1, .slice qo2 qn2 qf2, .slice qo3 qn3 qf3, .slice qo4 qn4 qf4, .slice qo5 qn5 qf5, .slice qo6 qn6 qf6, .slice qo7 qn7 qf7] 30)
        have hYb : Below X.w.heap.size X.w Y.w := by rw [← hY]; exact (Below.refl _ _).alloc (Nat.le_refl _) _
        rw [hY]
        refine (LaterOf.call Y (EN.out Y.w (HX.out.later hYb))).mono ?_
        clear hY hYb
        rintro e _ ⟨rfl, Y, rfl⟩
        go_wp2_with fail
        go_ret
        exact ⟨by simp, HB.out Y⟩
  obtain ⟨S, hS⟩ : ∃ S, S = encM m.msg := ⟨_, rfl⟩
  rw [← hS] at EN
  have EN := Lib.hid EN
  have HG := Lib.hid hg
  have DM := Lib.hid (fun W => dec_to S W (by rw [hS]; exact encM_size hg) (show decM S = (0, m.msg) by rw [hS]; exact decM_enc hg))
  have HS := Lib.hid hS
  clear hg HEC hS
  rcases HEC'.out hs'.out with ⟨hg', EN'⟩ | ⟨hg', EN'⟩
  · have EN' := Lib.hid EN'
    clear hg' HEC'
    go_wp2_with fail
    refine (LaterOf.call X (EN.out X)).mono ?_
    rintro e _ ⟨rfl, X, rfl⟩
    go_wp2_with fail
    refine (LaterOf.call X (EN'.out X)).mono ?_
    rintro e _ ⟨rfl, X, rfl⟩
    go_wp2_with fail
    refine (LaterOf.call X (show Calls Tryz.prog 12 #[.agg #[.int .i64 akk, .int .i64 asc, .int .i64 ads, .int .i64 ase, .int .i64 ast, .slice ao1 an1 af1, .slice ao2 an2 af2, .slice ao3 an3 af3, .slice ao4 an4 af4, .slice ao5 an5 af5, .slice ao6 an6 af6, .slice ao7 an7 af7]] X.w fun e w' => e = .returned (.bool true) ∧ Below X.w.heap.size X.w w' from by have := GD.out hs.out X; rw [HG.out] at this; exact this)).mono ?_
    rintro e _ ⟨rfl, X, rfl⟩
    go_wp2_with fail
    refine (DM.out X.w).mono ?_
    rintro e w' ⟨x, he, hmk, hxr, hxs, hb⟩
    obtain ⟨X, rfl⟩ := lat_next X hb
    obtain ⟨ckk, csc, cds, cse, cst, co1, cn1, cf1, co2, cn2, cf2, co3, cn3, cf3, co4, cn4, cf4, co5, cn5, cf5, co6, cn6, cf6, co7, cn7, cf7, hAx⟩ := MsgR.agg hxr
    have SX := SM.out hs.out x hxs hmk
    rw [hAx] at SX
    rw [hAx] at he
    subst he
    have SX := Lib.hid SX
    have HX := Lib.hid hxr
    have zX0 := z0 X
    have zX1 := z1 X
    clear hmk hxr hxs hb hAx DM
    go_wp2_with fail
    obtain ⟨Y, hY⟩ := lat_allocs X (.cells #[.int .i64 ckk, .int .i64 csc, .int .i64 cds, .int .i64 cse, .int .i64 cst, .slice co1 cn1 cf1, .slice co2 cn2 cf2, .slice co3 cn3 cf3, .slice co4 cn4 cf4, .slice co5 cn5 cf5, .slice co6 cn6 cf6, .slice co7 cn7 cf7] 30)
    have hYb : Below X.w.heap.size X.w Y.w := by rw [← hY]; exact (Below.refl _ _).alloc (Nat.le_refl _) _
    rw [hY]
    refine (LaterOf.call Y (SX.out Y (HX.out.later hYb))).mono ?_
    clear hY hYb zX0 zX1 SX HX
    rintro e _ ⟨rfl, X, rfl⟩
    rcases HD.out with ⟨n, hd, hn⟩ | ⟨M, hd, hgM, heM⟩
    · have DN := Lib.hid (fun W => dec_to s W HZ.out hd)
      have n1 : (n == 0) = false := by simpa using hn
      have n2 : (n != 0) = true := by simpa using hn
      have n3 : ¬ n = 0 := hn
      clear hd hn
      go_wp2_with fail
      refine (DN.out X.w).mono ?_
      rintro e w' ⟨x, he, hmk, hxr, hxs, hb⟩
      obtain ⟨X, rfl⟩ := lat_next X hb
      obtain ⟨qkk, qsc, qds, qse, qst, qo1, qn1, qf1, qo2, qn2, qf2, qo3, qn3, qf3, qo4, qn4, qf4, qo5, qn5, qf5, qo6, qn6, qf6, qo7, qn7, qf7, hAx⟩ := MsgR.agg hxr
      have SX := fun W (hW : x.Reads W) => same_to x MsgR.none_ W true hW (MsgR.none_reads _) hxs MsgR.none_small (eqB_yes (by rw [hmk]; rfl))
      rw [hAx, MsgR.none_agg] at SX
      rw [hAx] at he
      subst he
      have SX := Lib.hid SX
      have HX := Lib.hid hxr
      clear hmk hxr hxs hb hAx DN
      go_wp2_with fail
      obtain ⟨Y, hY⟩ := lat_allocs X (.cells #[.int .i64 qkk, .int .i64 qsc, .int .i64 qds, .int .i64 qse, .int .i64 qst, .slice qo1 qn1 qf1, .slice qo2 qn2 qf2, .slice qo3 qn3 qf3, .slice qo4 qn4 qf4, .slice qo5 qn5 qf5, .slice qo6 qn6 qf6, .slice qo7 qn7 qf7] 30)
      have hYb : Below X.w.heap.size X.w Y.w := by rw [← hY]; exact (Below.refl _ _).alloc (Nat.le_refl _) _
      rw [hY]
      refine (LaterOf.call Y (SX.out Y.w (HX.out.later hYb))).mono ?_
      clear hY hYb
      rintro e _ ⟨rfl, Y, rfl⟩
      go_wp2_with fail
      go_ret
      exact ⟨rfl, HB.out Y⟩
    · have DS := Lib.hid (fun W => dec_to s W HZ.out hd)
      have HM := Lib.hid (And.intro hgM heM)
      clear hd hgM heM
      go_wp2_with fail
      refine (DS.out X.w).mono ?_
      rintro e w' ⟨x, he, hmk, hxr, hxs, hb⟩
      obtain ⟨X, rfl⟩ := lat_next X hb
      obtain ⟨qkk, qsc, qds, qse, qst, qo1, qn1, qf1, qo2, qn2, qf2, qo3, qn3, qf3, qo4, qn4, qf4, qo5, qn5, qf5, qo6, qn6, qf6, qo7, qn7, qf7, hAx⟩ := MsgR.agg hxr
      have EN := fun W (hW : x.Reads W) => encode_good x W hW hxs (by rw [hmk]; exact HM.out.1)
      rw [hmk, HM.out.2, hAx] at EN
      rw [hAx] at he
      subst he
      have EN := Lib.hid EN
      have HX := Lib.hid hxr
      clear hmk hxr hxs hb hAx DS
      go_wp2_with fail
      obtain ⟨Y, hY⟩ := lat_allocs X (.cells #[.int .i64 qkk, .int .i64 qsc, .int .i64 qds, .int .i64 qse, .int .i64 qst, .slice qo1 qn1 qf1, .slice qo2 qn2 qf2, .slice qo3 qn3 qf3, .slice qo4 qn4 qf4, .slice qo5 qn5 qf5, .slice qo6 qn6 qf6, .slice qo7 qn7 qf7] 30)
      have hYb : Below X.w.heap.size X.w Y.w := by rw [← hY]; exact (Below.refl _ _).alloc (Nat.le_refl _) _
      rw [hY]
      refine (LaterOf.call Y (EN.out Y.w (HX.out.later hYb))).mono ?_
      clear hY hYb
      rintro e _ ⟨rfl, Y, rfl⟩
      go_wp2_with fail
      go_ret
      exact ⟨by simp, HB.out Y⟩
  · obtain ⟨S', hS'⟩ : ∃ S, S = encM o.msg := ⟨_, rfl⟩
    rw [← hS'] at EN'
    have EN' := Lib.hid EN'
    obtain ⟨t, ht⟩ : ∃ t, t = eqB m.msg o.msg := ⟨_, rfl⟩
    have HT : (S.toList == S'.toList) = t := by
      rw [Bool.eq_iff_iff, bytes_eq, ht, eqB_iff, HS.out, hS']
      exact ⟨fun e => encM_inj HG.out hg' e, fun e => by rw [e]⟩
    have SO := Lib.hid (SO.out hs.out hs'.out t ht.symm)
    clear hg' HEC' hS' ht
    go_wp2_with fail
    refine (LaterOf.call X (EN.out X)).mono ?_
    rintro e _ ⟨rfl, X, rfl⟩
    go_wp2_with fail
    refine (LaterOf.call X (EN'.out X)).mono ?_
    rintro e _ ⟨rfl, X, rfl⟩
    go_wp2_with fail
    refine (LaterOf.call X (show Calls Tryz.prog 12 #[.agg #[.int .i64 akk, .int .i64 asc, .int .i64 ads, .int .i64 ase, .int .i64 ast, .slice ao1 an1 af1, .slice ao2 an2 af2, .slice ao3 an3 af3, .slice ao4 an4 af4, .slice ao5 an5 af5, .slice ao6 an6 af6, .slice ao7 an7 af7]] X.w fun e w' => e = .returned (.bool true) ∧ Below X.w.heap.size X.w w' from by have := GD.out hs.out X; rw [HG.out] at this; exact this)).mono ?_
    rintro e _ ⟨rfl, X, rfl⟩
    go_wp2_with fail
    refine (DM.out X.w).mono ?_
    rintro e w' ⟨x, he, hmk, hxr, hxs, hb⟩
    obtain ⟨X, rfl⟩ := lat_next X hb
    obtain ⟨ckk, csc, cds, cse, cst, co1, cn1, cf1, co2, cn2, cf2, co3, cn3, cf3, co4, cn4, cf4, co5, cn5, cf5, co6, cn6, cf6, co7, cn7, cf7, hAx⟩ := MsgR.agg hxr
    have SX := SM.out hs.out x hxs hmk
    rw [hAx] at SX
    rw [hAx] at he
    subst he
    have SX := Lib.hid SX
    have HX := Lib.hid hxr
    have zX0 := z0 X
    have zX1 := z1 X
    clear hmk hxr hxs hb hAx DM
    go_wp2_with fail
    obtain ⟨Y, hY⟩ := lat_allocs X (.cells #[.int .i64 ckk, .int .i64 csc, .int .i64 cds, .int .i64 cse, .int .i64 cst, .slice co1 cn1 cf1, .slice co2 cn2 cf2, .slice co3 cn3 cf3, .slice co4 cn4 cf4, .slice co5 cn5 cf5, .slice co6 cn6 cf6, .slice co7 cn7 cf7] 30)
    have hYb : Below X.w.heap.size X.w Y.w := by rw [← hY]; exact (Below.refl _ _).alloc (Nat.le_refl _) _
    rw [hY]
    refine (LaterOf.call Y (SX.out Y (HX.out.later hYb))).mono ?_
    clear hY hYb zX0 zX1 SX HX
    rintro e _ ⟨rfl, X, rfl⟩
    go_wp2_with fail
    refine (LaterOf.call X (SO.out X)).mono ?_
    rintro e _ ⟨rfl, X, rfl⟩
    cases t
    · rcases HD.out with ⟨n, hd, hn⟩ | ⟨M, hd, hgM, heM⟩
      · have DN := Lib.hid (fun W => dec_to s W HZ.out hd)
        have n1 : (n == 0) = false := by simpa using hn
        have n2 : (n != 0) = true := by simpa using hn
        have n3 : ¬ n = 0 := hn
        clear hd hn
        go_wp2_with fail
        refine (DN.out X.w).mono ?_
        rintro e w' ⟨x, he, hmk, hxr, hxs, hb⟩
        obtain ⟨X, rfl⟩ := lat_next X hb
        obtain ⟨qkk, qsc, qds, qse, qst, qo1, qn1, qf1, qo2, qn2, qf2, qo3, qn3, qf3, qo4, qn4, qf4, qo5, qn5, qf5, qo6, qn6, qf6, qo7, qn7, qf7, hAx⟩ := MsgR.agg hxr
        have SX := fun W (hW : x.Reads W) => same_to x MsgR.none_ W true hW (MsgR.none_reads _) hxs MsgR.none_small (eqB_yes (by rw [hmk]; rfl))
        rw [hAx, MsgR.none_agg] at SX
        rw [hAx] at he
        subst he
        have SX := Lib.hid SX
        have HX := Lib.hid hxr
        clear hmk hxr hxs hb hAx DN
        go_wp2_with fail
        obtain ⟨Y, hY⟩ := lat_allocs X (.cells #[.int .i64 qkk, .int .i64 qsc, .int .i64 qds, .int .i64 qse, .int .i64 qst, .slice qo1 qn1 qf1, .slice qo2 qn2 qf2, .slice qo3 qn3 qf3, .slice qo4 qn4 qf4, .slice qo5 qn5 qf5, .slice qo6 qn6 qf6, .slice qo7 qn7 qf7] 30)
        have hYb : Below X.w.heap.size X.w Y.w := by rw [← hY]; exact (Below.refl _ _).alloc (Nat.le_refl _) _
        rw [hY]
        refine (LaterOf.call Y (SX.out Y.w (HX.out.later hYb))).mono ?_
        clear hY hYb
        rintro e _ ⟨rfl, Y, rfl⟩
        go_wp2_with fail
        go_ret
        exact ⟨rfl, HB.out Y⟩
      · have DS := Lib.hid (fun W => dec_to s W HZ.out hd)
        have HM := Lib.hid (And.intro hgM heM)
        clear hd hgM heM
        go_wp2_with fail
        refine (DS.out X.w).mono ?_
        rintro e w' ⟨x, he, hmk, hxr, hxs, hb⟩
        obtain ⟨X, rfl⟩ := lat_next X hb
        obtain ⟨qkk, qsc, qds, qse, qst, qo1, qn1, qf1, qo2, qn2, qf2, qo3, qn3, qf3, qo4, qn4, qf4, qo5, qn5, qf5, qo6, qn6, qf6, qo7, qn7, qf7, hAx⟩ := MsgR.agg hxr
        have EN := fun W (hW : x.Reads W) => encode_good x W hW hxs (by rw [hmk]; exact HM.out.1)
        rw [hmk, HM.out.2, hAx] at EN
        rw [hAx] at he
        subst he
        have EN := Lib.hid EN
        have HX := Lib.hid hxr
        clear hmk hxr hxs hb hAx DS
        go_wp2_with fail
        obtain ⟨Y, hY⟩ := lat_allocs X (.cells #[.int .i64 qkk, .int .i64 qsc, .int .i64 qds, .int .i64 qse, .int .i64 qst, .slice qo1 qn1 qf1, .slice qo2 qn2 qf2, .slice qo3 qn3 qf3, .slice qo4 qn4 qf4, .slice qo5 qn5 qf5, .slice qo6 qn6 qf6, .slice qo7 qn7 qf7] 30)
        have hYb : Below X.w.heap.size X.w Y.w := by rw [← hY]; exact (Below.refl _ _).alloc (Nat.le_refl _) _
        rw [hY]
        refine (LaterOf.call Y (EN.out Y.w (HX.out.later hYb))).mono ?_
        clear hY hYb
        rintro e _ ⟨rfl, Y, rfl⟩
        go_wp2_with fail
        go_ret
        exact ⟨by simp, HB.out Y⟩
    · rcases HD.out with ⟨n, hd, hn⟩ | ⟨M, hd, hgM, heM⟩
      · have DN := Lib.hid (fun W => dec_to s W HZ.out hd)
        have n1 : (n == 0) = false := by simpa using hn
        have n2 : (n != 0) = true := by simpa using hn
        have n3 : ¬ n = 0 := hn
        clear hd hn
        go_wp2_with fail
        refine (DN.out X.w).mono ?_
        rintro e w' ⟨x, he, hmk, hxr, hxs, hb⟩
        obtain ⟨X, rfl⟩ := lat_next X hb
        obtain ⟨qkk, qsc, qds, qse, qst, qo1, qn1, qf1, qo2, qn2, qf2, qo3, qn3, qf3, qo4, qn4, qf4, qo5, qn5, qf5, qo6, qn6, qf6, qo7, qn7, qf7, hAx⟩ := MsgR.agg hxr
        have SX := fun W (hW : x.Reads W) => same_to x MsgR.none_ W true hW (MsgR.none_reads _) hxs MsgR.none_small (eqB_yes (by rw [hmk]; rfl))
        rw [hAx, MsgR.none_agg] at SX
        rw [hAx] at he
        subst he
        have SX := Lib.hid SX
        have HX := Lib.hid hxr
        clear hmk hxr hxs hb hAx DN
        go_wp2_with fail
        obtain ⟨Y, hY⟩ := lat_allocs X (.cells #[.int .i64 qkk, .int .i64 qsc, .int .i64 qds, .int .i64 qse, .int .i64 qst, .slice qo1 qn1 qf1, .slice qo2 qn2 qf2, .slice qo3 qn3 qf3, .slice qo4 qn4 qf4, .slice qo5 qn5 qf5, .slice qo6 qn6 qf6, .slice qo7 qn7 qf7] 30)
        have hYb : Below X.w.heap.size X.w Y.w := by rw [← hY]; exact (Below.refl _ _).alloc (Nat.le_refl _) _
        rw [hY]
        refine (LaterOf.call Y (SX.out Y.w (HX.out.later hYb))).mono ?_
        clear hY hYb
        rintro e _ ⟨rfl, Y, rfl⟩
        go_wp2_with fail
        go_ret
        exact ⟨rfl, HB.out Y⟩
      · have DS := Lib.hid (fun W => dec_to s W HZ.out hd)
        have HM := Lib.hid (And.intro hgM heM)
        clear hd hgM heM
        go_wp2_with fail
        refine (DS.out X.w).mono ?_
        rintro e w' ⟨x, he, hmk, hxr, hxs, hb⟩
        obtain ⟨X, rfl⟩ := lat_next X hb
        obtain ⟨qkk, qsc, qds, qse, qst, qo1, qn1, qf1, qo2, qn2, qf2, qo3, qn3, qf3, qo4, qn4, qf4, qo5, qn5, qf5, qo6, qn6, qf6, qo7, qn7, qf7, hAx⟩ := MsgR.agg hxr
        have EN := fun W (hW : x.Reads W) => encode_good x W hW hxs (by rw [hmk]; exact HM.out.1)
        rw [hmk, HM.out.2, hAx] at EN
        rw [hAx] at he
        subst he
        have EN := Lib.hid EN
        have HX := Lib.hid hxr
        clear hmk hxr hxs hb hAx DS
        go_wp2_with fail
        obtain ⟨Y, hY⟩ := lat_allocs X (.cells #[.int .i64 qkk, .int .i64 qsc, .int .i64 qds, .int .i64 qse, .int .i64 qst, .slice qo1 qn1 qf1, .slice qo2 qn2 qf2, .slice qo3 qn3 qf3, .slice qo4 qn4 qf4, .slice qo5 qn5 qf5, .slice qo6 qn6 qf6, .slice qo7 qn7 qf7] 30)
        have hYb : Below X.w.heap.size X.w Y.w := by rw [← hY]; exact (Below.refl _ _).alloc (Nat.le_refl _) _
        rw [hY]
        refine (LaterOf.call Y (EN.out Y.w (HX.out.later hYb))).mono ?_
        clear hY hYb
        rintro e _ ⟨rfl, Y, rfl⟩
        go_wp2_with fail
        go_ret
        exact ⟨by simp, HB.out Y⟩
end Go.Proofs.YtljenganlknhbaaGreat.Fr
