/- mark.Good, walked. At most 1,000,000 things in each list of a tomb. (Layer 12.) -/
import Derived.Test.YtbmknmjcoeinkaaGreatMk5
namespace Go.Proofs.YtbmknmjcoeinkaaGreat.Mk
set_option linter.unusedVariables false
open Go.RowKit
theorem riseB_map {α β : Type} (f : α → β) (p : β → β → Bool) : ∀ (l : List α), riseB (fun x y => p (f x) (f y)) l = riseB p (l.map f)
  | [] => rfl
  | [_] => rfl
  | a :: b :: l => by
    show (p (f a) (f b) && riseB _ (b :: l)) = (p (f a) (f b) && riseB p ((b :: l).map f))
    rw [riseB_map f p (b :: l)]
/-- The lists of each tomb are not great. -/
def Fit (zs : List TbR) : Prop := ∀ z ∈ zs, z.t.acks.length ≤ 1000000 ∧ z.t.cov.length ≤ 1000000
theorem goodTomb_tells (zs : List TbR) (w : World) (h : ∀ z ∈ zs, z.Reads w) (hf : Fit zs) : Tells 55 #[] aTb (fun z => tombB z.t) zs w :=
  ⟨enters_of Tryz.func55 (by kernel_rfl) rfl, fun x hx W hW => goodTomb_any x W ((h x hx).later hW) (hf x hx).1⟩
set_option maxRecDepth 100000 in
set_option maxHeartbeats 8000000 in
theorem good_any (m : MkR) (w : World) (h : m.Reads w) (hf : Fit m.tombs) : Calls Tryz.prog 18 #[aMk m] w fun e w' => e = .returned (.bool (goodB m.mk_)) ∧ Below w.heap.size w w' := by
  obtain ⟨refs, toks, zs, rv, kv, bv⟩ := m
  obtain ⟨h1, h2, h3, h4⟩ := h
  dsimp only at h1 h2 h3 h4 hf
  have HT := Lib.hid (show goodB ⟨refs, toks, zs.map (·.t)⟩ = ((decide (refs.length ≤ 64) && refs.all refB && riseB nameLt refs) && (decide ((zs.map (·.t)).length ≤ 64) && (zs.map (·.t)).all tombB && riseB tombLt (zs.map (·.t))) && tokensB toks) from rfl)
  rw [List.length_map, List.all_map, ← riseB_map] at HT
  have H := Lib.hid (And.intro h1 (And.intro h2 (And.intro h3 h4)))
  have A1 := Lib.hid (fun (hl : refs.length ≤ 64) W (hW : Below w.heap.size w W) => all_rf rv refs 52 #[] refB W (H.out.1.later hW) (goodRef_tells refs W) (by omega))
  have A2 := Lib.hid (fun (hl : refs.length ≤ 64) W (hW : Below w.heap.size w W) => ri_rf rv refs 47 #[] nameLt W (H.out.1.later hW) (names_tells refs W) (by omega))
  have A3 := Lib.hid (fun (hl : zs.length ≤ 64) W (hW : Below w.heap.size w W) => all_tb bv zs 55 #[] (fun z => tombB z.t) W (H.out.2.2.1.later hW) (goodTomb_tells zs W (fun z hz => (H.out.2.2.2 z hz).later hW) hf) (by omega))
  have A4 := Lib.hid (fun (hl : zs.length ≤ 64) W (hW : Below w.heap.size w W) => ri_tb bv zs 48 #[] (fun x y => tombLt x.t y.t) W (H.out.2.2.1.later hW) (tombs_tells zs W) (by omega))
  have A5 := Lib.hid (fun W (hW : Below w.heap.size w W) => goodTokens_any kv toks W (H.out.2.1.later hW))
  obtain ⟨ao1, c1, rfl, -, -⟩ := h1.form
  obtain ⟨ao3, c3, rfl, -, -⟩ := h3.form
  obtain ⟨q1, hq1⟩ : ∃ q, q = refs.all refB := ⟨_, rfl⟩
  obtain ⟨q2, hq2⟩ : ∃ q, q = riseB nameLt refs := ⟨_, rfl⟩
  obtain ⟨q3, hq3⟩ : ∃ q, q = zs.all fun z => tombB z.t := ⟨_, rfl⟩
  obtain ⟨q4, hq4⟩ : ∃ q, q = riseB (fun x y => tombLt x.t y.t) zs := ⟨_, rfl⟩
  obtain ⟨q5, hq5⟩ : ∃ q, q = tokensB toks := ⟨_, rfl⟩
  rw [← hq1] at A1
  rw [← hq2] at A2
  rw [← hq3] at A3
  rw [← hq4] at A4
  rw [← hq5] at A5
  rw [← hq1, ← hq2, show (zs.all (tombB ∘ fun x => x.t)) = zs.all (fun z => tombB z.t) from rfl, ← hq3, ← hq4, ← hq5] at HT
  show Calls Tryz.prog 18 #[.agg #[.slice ao1 refs.length c1, kv, .slice ao3 zs.length c3]] w fun e w' => e = .returned (.bool (goodB ⟨refs, toks, zs.map (·.t)⟩)) ∧ Below w.heap.size w w'
  rw [HT.out]
  obtain ⟨n1, hn1⟩ : ∃ n, n = refs.length := ⟨_, rfl⟩
  obtain ⟨n3, hn3⟩ : ∃ n, n = zs.length := ⟨_, rfl⟩
  rw [← hn1] at A1 A2 ⊢
  rw [← hn3] at A3 A4 ⊢
  clear h1 h2 h3 h4 hf hq1 hq2 hq3 hq4 hq5 HT hn1 hn3 H
  obtain ⟨W1, hW1⟩ : ∃ W1, W1 = w.alloc (.cells #[.slice ao1 n1 c1, kv, .slice ao3 n3 c3] 26) := ⟨_, rfl⟩
  have hb1 : Below w.heap.size w W1 := by rw [hW1]; exact (Below.refl _ _).alloc (Nat.le_refl _) _
  have k1 : BlkIs W1 w.heap.size 26 #[.slice ao1 n1 c1, kv, .slice ao3 n3 c3] := by rw [hW1]; exact BlkIs.new _ _ _
  have HW := Lib.hid hW1
  have H1 := Lib.hid (And.intro k1 hb1)
  have d0 : W1.cell? ⟨w.heap.size, 0, none⟩ = some (.slice ao1 n1 c1) := k1.cell 0
  have d1 : W1.cell? ⟨w.heap.size, 1, none⟩ = some kv := k1.cell 1
  have d2 : W1.cell? ⟨w.heap.size, 2, none⟩ = some (.slice ao3 n3 c3) := k1.cell 2
  clear hW1 hb1 k1
  have er : ((64 : Int) < n1 ∧ ¬ n1 ≤ 64) ∨ ((n1 : Int) ≤ 64 ∧ n1 ≤ 64) := by omega
  have et : ((64 : Int) < n3 ∧ ¬ n3 ≤ 64) ∨ ((n3 : Int) ≤ 64 ∧ n3 ≤ 64) := by omega
  go_enter Tryz.func18, Tryz.ntmps18
  rcases er with ⟨r1, r2⟩ | ⟨r1, r2⟩
  · skip
    rcases et with ⟨t1, t2⟩ | ⟨t1, t2⟩
    · skip
      go_wp2_with fail
      rw [← HW.out]
      go_ret
      exact ⟨ret_b (by first | (simp; done) | (simp [r2]; done) | (simp [t2]; done) | (simp [r2, t2]; done)), H1.out.2⟩
    · cases q3
      · skip
        go_wp2_with fail
        rw [← HW.out]
        refine ((A3.out t2) W1 H1.out.2).mono ?_
        rintro e w2 ⟨rfl, hb⟩
        have H2 := Lib.hid (show BlkIs w2 w.heap.size 26 #[.slice ao1 n1 c1, kv, .slice ao3 n3 c3] ∧ Below w.heap.size w w2 from ⟨H1.out.1.below hb H1.out.1.lt, H1.out.2.trans (hb.mono H1.out.2.size)⟩)
        clear hb d0 d1 d2
        have d0 : w2.cell? ⟨w.heap.size, 0, none⟩ = some (.slice ao1 n1 c1) := H2.out.1.cell 0
        have d1 : w2.cell? ⟨w.heap.size, 1, none⟩ = some kv := H2.out.1.cell 1
        have d2 : w2.cell? ⟨w.heap.size, 2, none⟩ = some (.slice ao3 n3 c3) := H2.out.1.cell 2
        go_wp2_with fail
        go_ret
        exact ⟨ret_b (by first | (simp; done) | (simp [r2]; done) | (simp [t2]; done) | (simp [r2, t2]; done)), H2.out.2⟩
      · cases q4
        · skip
          go_wp2_with fail
          rw [← HW.out]
          refine ((A3.out t2) W1 H1.out.2).mono ?_
          rintro e w2 ⟨rfl, hb⟩
          have H2 := Lib.hid (show BlkIs w2 w.heap.size 26 #[.slice ao1 n1 c1, kv, .slice ao3 n3 c3] ∧ Below w.heap.size w w2 from ⟨H1.out.1.below hb H1.out.1.lt, H1.out.2.trans (hb.mono H1.out.2.size)⟩)
          clear hb d0 d1 d2
          have d0 : w2.cell? ⟨w.heap.size, 0, none⟩ = some (.slice ao1 n1 c1) := H2.out.1.cell 0
          have d1 : w2.cell? ⟨w.heap.size, 1, none⟩ = some kv := H2.out.1.cell 1
          have d2 : w2.cell? ⟨w.heap.size, 2, none⟩ = some (.slice ao3 n3 c3) := H2.out.1.cell 2
          go_wp2_with fail
          refine ((A4.out t2) w2 H2.out.2).mono ?_
          rintro e w3 ⟨rfl, hb⟩
          have H3 := Lib.hid (show BlkIs w3 w.heap.size 26 #[.slice ao1 n1 c1, kv, .slice ao3 n3 c3] ∧ Below w.heap.size w w3 from ⟨H2.out.1.below hb H2.out.1.lt, H2.out.2.trans (hb.mono H2.out.2.size)⟩)
          clear hb d0 d1 d2
          have d0 : w3.cell? ⟨w.heap.size, 0, none⟩ = some (.slice ao1 n1 c1) := H3.out.1.cell 0
          have d1 : w3.cell? ⟨w.heap.size, 1, none⟩ = some kv := H3.out.1.cell 1
          have d2 : w3.cell? ⟨w.heap.size, 2, none⟩ = some (.slice ao3 n3 c3) := H3.out.1.cell 2
          go_wp2_with fail
          go_ret
          exact ⟨ret_b (by first | (simp; done) | (simp [r2]; done) | (simp [t2]; done) | (simp [r2, t2]; done)), H3.out.2⟩
        · skip
          go_wp2_with fail
          rw [← HW.out]
          refine ((A3.out t2) W1 H1.out.2).mono ?_
          rintro e w2 ⟨rfl, hb⟩
          have H2 := Lib.hid (show BlkIs w2 w.heap.size 26 #[.slice ao1 n1 c1, kv, .slice ao3 n3 c3] ∧ Below w.heap.size w w2 from ⟨H1.out.1.below hb H1.out.1.lt, H1.out.2.trans (hb.mono H1.out.2.size)⟩)
          clear hb d0 d1 d2
          have d0 : w2.cell? ⟨w.heap.size, 0, none⟩ = some (.slice ao1 n1 c1) := H2.out.1.cell 0
          have d1 : w2.cell? ⟨w.heap.size, 1, none⟩ = some kv := H2.out.1.cell 1
          have d2 : w2.cell? ⟨w.heap.size, 2, none⟩ = some (.slice ao3 n3 c3) := H2.out.1.cell 2
          go_wp2_with fail
          refine ((A4.out t2) w2 H2.out.2).mono ?_
          rintro e w3 ⟨rfl, hb⟩
          have H3 := Lib.hid (show BlkIs w3 w.heap.size 26 #[.slice ao1 n1 c1, kv, .slice ao3 n3 c3] ∧ Below w.heap.size w w3 from ⟨H2.out.1.below hb H2.out.1.lt, H2.out.2.trans (hb.mono H2.out.2.size)⟩)
          clear hb d0 d1 d2
          have d0 : w3.cell? ⟨w.heap.size, 0, none⟩ = some (.slice ao1 n1 c1) := H3.out.1.cell 0
          have d1 : w3.cell? ⟨w.heap.size, 1, none⟩ = some kv := H3.out.1.cell 1
          have d2 : w3.cell? ⟨w.heap.size, 2, none⟩ = some (.slice ao3 n3 c3) := H3.out.1.cell 2
          go_wp2_with fail
          go_ret
          exact ⟨ret_b (by first | (simp; done) | (simp [r2]; done) | (simp [t2]; done) | (simp [r2, t2]; done)), H3.out.2⟩
  · cases q1
    · skip
      rcases et with ⟨t1, t2⟩ | ⟨t1, t2⟩
      · skip
        go_wp2_with fail
        rw [← HW.out]
        refine ((A1.out r2) W1 H1.out.2).mono ?_
        rintro e w2 ⟨rfl, hb⟩
        have H2 := Lib.hid (show BlkIs w2 w.heap.size 26 #[.slice ao1 n1 c1, kv, .slice ao3 n3 c3] ∧ Below w.heap.size w w2 from ⟨H1.out.1.below hb H1.out.1.lt, H1.out.2.trans (hb.mono H1.out.2.size)⟩)
        clear hb d0 d1 d2
        have d0 : w2.cell? ⟨w.heap.size, 0, none⟩ = some (.slice ao1 n1 c1) := H2.out.1.cell 0
        have d1 : w2.cell? ⟨w.heap.size, 1, none⟩ = some kv := H2.out.1.cell 1
        have d2 : w2.cell? ⟨w.heap.size, 2, none⟩ = some (.slice ao3 n3 c3) := H2.out.1.cell 2
        go_wp2_with fail
        go_ret
        exact ⟨ret_b (by first | (simp; done) | (simp [r2]; done) | (simp [t2]; done) | (simp [r2, t2]; done)), H2.out.2⟩
      · cases q3
        · skip
          go_wp2_with fail
          rw [← HW.out]
          refine ((A1.out r2) W1 H1.out.2).mono ?_
          rintro e w2 ⟨rfl, hb⟩
          have H2 := Lib.hid (show BlkIs w2 w.heap.size 26 #[.slice ao1 n1 c1, kv, .slice ao3 n3 c3] ∧ Below w.heap.size w w2 from ⟨H1.out.1.below hb H1.out.1.lt, H1.out.2.trans (hb.mono H1.out.2.size)⟩)
          clear hb d0 d1 d2
          have d0 : w2.cell? ⟨w.heap.size, 0, none⟩ = some (.slice ao1 n1 c1) := H2.out.1.cell 0
          have d1 : w2.cell? ⟨w.heap.size, 1, none⟩ = some kv := H2.out.1.cell 1
          have d2 : w2.cell? ⟨w.heap.size, 2, none⟩ = some (.slice ao3 n3 c3) := H2.out.1.cell 2
          go_wp2_with fail
          refine ((A3.out t2) w2 H2.out.2).mono ?_
          rintro e w3 ⟨rfl, hb⟩
          have H3 := Lib.hid (show BlkIs w3 w.heap.size 26 #[.slice ao1 n1 c1, kv, .slice ao3 n3 c3] ∧ Below w.heap.size w w3 from ⟨H2.out.1.below hb H2.out.1.lt, H2.out.2.trans (hb.mono H2.out.2.size)⟩)
          clear hb d0 d1 d2
          have d0 : w3.cell? ⟨w.heap.size, 0, none⟩ = some (.slice ao1 n1 c1) := H3.out.1.cell 0
          have d1 : w3.cell? ⟨w.heap.size, 1, none⟩ = some kv := H3.out.1.cell 1
          have d2 : w3.cell? ⟨w.heap.size, 2, none⟩ = some (.slice ao3 n3 c3) := H3.out.1.cell 2
          go_wp2_with fail
          go_ret
          exact ⟨ret_b (by first | (simp; done) | (simp [r2]; done) | (simp [t2]; done) | (simp [r2, t2]; done)), H3.out.2⟩
        · cases q4
          · skip
            go_wp2_with fail
            rw [← HW.out]
            refine ((A1.out r2) W1 H1.out.2).mono ?_
            rintro e w2 ⟨rfl, hb⟩
            have H2 := Lib.hid (show BlkIs w2 w.heap.size 26 #[.slice ao1 n1 c1, kv, .slice ao3 n3 c3] ∧ Below w.heap.size w w2 from ⟨H1.out.1.below hb H1.out.1.lt, H1.out.2.trans (hb.mono H1.out.2.size)⟩)
            clear hb d0 d1 d2
            have d0 : w2.cell? ⟨w.heap.size, 0, none⟩ = some (.slice ao1 n1 c1) := H2.out.1.cell 0
            have d1 : w2.cell? ⟨w.heap.size, 1, none⟩ = some kv := H2.out.1.cell 1
            have d2 : w2.cell? ⟨w.heap.size, 2, none⟩ = some (.slice ao3 n3 c3) := H2.out.1.cell 2
            go_wp2_with fail
            refine ((A3.out t2) w2 H2.out.2).mono ?_
            rintro e w3 ⟨rfl, hb⟩
            have H3 := Lib.hid (show BlkIs w3 w.heap.size 26 #[.slice ao1 n1 c1, kv, .slice ao3 n3 c3] ∧ Below w.heap.size w w3 from ⟨H2.out.1.below hb H2.out.1.lt, H2.out.2.trans (hb.mono H2.out.2.size)⟩)
            clear hb d0 d1 d2
            have d0 : w3.cell? ⟨w.heap.size, 0, none⟩ = some (.slice ao1 n1 c1) := H3.out.1.cell 0
            have d1 : w3.cell? ⟨w.heap.size, 1, none⟩ = some kv := H3.out.1.cell 1
            have d2 : w3.cell? ⟨w.heap.size, 2, none⟩ = some (.slice ao3 n3 c3) := H3.out.1.cell 2
            go_wp2_with fail
            refine ((A4.out t2) w3 H3.out.2).mono ?_
            rintro e w4 ⟨rfl, hb⟩
            have H4 := Lib.hid (show BlkIs w4 w.heap.size 26 #[.slice ao1 n1 c1, kv, .slice ao3 n3 c3] ∧ Below w.heap.size w w4 from ⟨H3.out.1.below hb H3.out.1.lt, H3.out.2.trans (hb.mono H3.out.2.size)⟩)
            clear hb d0 d1 d2
            have d0 : w4.cell? ⟨w.heap.size, 0, none⟩ = some (.slice ao1 n1 c1) := H4.out.1.cell 0
            have d1 : w4.cell? ⟨w.heap.size, 1, none⟩ = some kv := H4.out.1.cell 1
            have d2 : w4.cell? ⟨w.heap.size, 2, none⟩ = some (.slice ao3 n3 c3) := H4.out.1.cell 2
            go_wp2_with fail
            go_ret
            exact ⟨ret_b (by first | (simp; done) | (simp [r2]; done) | (simp [t2]; done) | (simp [r2, t2]; done)), H4.out.2⟩
          · skip
            go_wp2_with fail
            rw [← HW.out]
            refine ((A1.out r2) W1 H1.out.2).mono ?_
            rintro e w2 ⟨rfl, hb⟩
            have H2 := Lib.hid (show BlkIs w2 w.heap.size 26 #[.slice ao1 n1 c1, kv, .slice ao3 n3 c3] ∧ Below w.heap.size w w2 from ⟨H1.out.1.below hb H1.out.1.lt, H1.out.2.trans (hb.mono H1.out.2.size)⟩)
            clear hb d0 d1 d2
            have d0 : w2.cell? ⟨w.heap.size, 0, none⟩ = some (.slice ao1 n1 c1) := H2.out.1.cell 0
            have d1 : w2.cell? ⟨w.heap.size, 1, none⟩ = some kv := H2.out.1.cell 1
            have d2 : w2.cell? ⟨w.heap.size, 2, none⟩ = some (.slice ao3 n3 c3) := H2.out.1.cell 2
            go_wp2_with fail
            refine ((A3.out t2) w2 H2.out.2).mono ?_
            rintro e w3 ⟨rfl, hb⟩
            have H3 := Lib.hid (show BlkIs w3 w.heap.size 26 #[.slice ao1 n1 c1, kv, .slice ao3 n3 c3] ∧ Below w.heap.size w w3 from ⟨H2.out.1.below hb H2.out.1.lt, H2.out.2.trans (hb.mono H2.out.2.size)⟩)
            clear hb d0 d1 d2
            have d0 : w3.cell? ⟨w.heap.size, 0, none⟩ = some (.slice ao1 n1 c1) := H3.out.1.cell 0
            have d1 : w3.cell? ⟨w.heap.size, 1, none⟩ = some kv := H3.out.1.cell 1
            have d2 : w3.cell? ⟨w.heap.size, 2, none⟩ = some (.slice ao3 n3 c3) := H3.out.1.cell 2
            go_wp2_with fail
            refine ((A4.out t2) w3 H3.out.2).mono ?_
            rintro e w4 ⟨rfl, hb⟩
            have H4 := Lib.hid (show BlkIs w4 w.heap.size 26 #[.slice ao1 n1 c1, kv, .slice ao3 n3 c3] ∧ Below w.heap.size w w4 from ⟨H3.out.1.below hb H3.out.1.lt, H3.out.2.trans (hb.mono H3.out.2.size)⟩)
            clear hb d0 d1 d2
            have d0 : w4.cell? ⟨w.heap.size, 0, none⟩ = some (.slice ao1 n1 c1) := H4.out.1.cell 0
            have d1 : w4.cell? ⟨w.heap.size, 1, none⟩ = some kv := H4.out.1.cell 1
            have d2 : w4.cell? ⟨w.heap.size, 2, none⟩ = some (.slice ao3 n3 c3) := H4.out.1.cell 2
            go_wp2_with fail
            go_ret
            exact ⟨ret_b (by first | (simp; done) | (simp [r2]; done) | (simp [t2]; done) | (simp [r2, t2]; done)), H4.out.2⟩
    · cases q2
      · skip
        rcases et with ⟨t1, t2⟩ | ⟨t1, t2⟩
        · skip
          go_wp2_with fail
          rw [← HW.out]
          refine ((A1.out r2) W1 H1.out.2).mono ?_
          rintro e w2 ⟨rfl, hb⟩
          have H2 := Lib.hid (show BlkIs w2 w.heap.size 26 #[.slice ao1 n1 c1, kv, .slice ao3 n3 c3] ∧ Below w.heap.size w w2 from ⟨H1.out.1.below hb H1.out.1.lt, H1.out.2.trans (hb.mono H1.out.2.size)⟩)
          clear hb d0 d1 d2
          have d0 : w2.cell? ⟨w.heap.size, 0, none⟩ = some (.slice ao1 n1 c1) := H2.out.1.cell 0
          have d1 : w2.cell? ⟨w.heap.size, 1, none⟩ = some kv := H2.out.1.cell 1
          have d2 : w2.cell? ⟨w.heap.size, 2, none⟩ = some (.slice ao3 n3 c3) := H2.out.1.cell 2
          go_wp2_with fail
          refine ((A2.out r2) w2 H2.out.2).mono ?_
          rintro e w3 ⟨rfl, hb⟩
          have H3 := Lib.hid (show BlkIs w3 w.heap.size 26 #[.slice ao1 n1 c1, kv, .slice ao3 n3 c3] ∧ Below w.heap.size w w3 from ⟨H2.out.1.below hb H2.out.1.lt, H2.out.2.trans (hb.mono H2.out.2.size)⟩)
          clear hb d0 d1 d2
          have d0 : w3.cell? ⟨w.heap.size, 0, none⟩ = some (.slice ao1 n1 c1) := H3.out.1.cell 0
          have d1 : w3.cell? ⟨w.heap.size, 1, none⟩ = some kv := H3.out.1.cell 1
          have d2 : w3.cell? ⟨w.heap.size, 2, none⟩ = some (.slice ao3 n3 c3) := H3.out.1.cell 2
          go_wp2_with fail
          go_ret
          exact ⟨ret_b (by first | (simp; done) | (simp [r2]; done) | (simp [t2]; done) | (simp [r2, t2]; done)), H3.out.2⟩
        · cases q3
          · skip
            go_wp2_with fail
            rw [← HW.out]
            refine ((A1.out r2) W1 H1.out.2).mono ?_
            rintro e w2 ⟨rfl, hb⟩
            have H2 := Lib.hid (show BlkIs w2 w.heap.size 26 #[.slice ao1 n1 c1, kv, .slice ao3 n3 c3] ∧ Below w.heap.size w w2 from ⟨H1.out.1.below hb H1.out.1.lt, H1.out.2.trans (hb.mono H1.out.2.size)⟩)
            clear hb d0 d1 d2
            have d0 : w2.cell? ⟨w.heap.size, 0, none⟩ = some (.slice ao1 n1 c1) := H2.out.1.cell 0
            have d1 : w2.cell? ⟨w.heap.size, 1, none⟩ = some kv := H2.out.1.cell 1
            have d2 : w2.cell? ⟨w.heap.size, 2, none⟩ = some (.slice ao3 n3 c3) := H2.out.1.cell 2
            go_wp2_with fail
            refine ((A2.out r2) w2 H2.out.2).mono ?_
            rintro e w3 ⟨rfl, hb⟩
            have H3 := Lib.hid (show BlkIs w3 w.heap.size 26 #[.slice ao1 n1 c1, kv, .slice ao3 n3 c3] ∧ Below w.heap.size w w3 from ⟨H2.out.1.below hb H2.out.1.lt, H2.out.2.trans (hb.mono H2.out.2.size)⟩)
            clear hb d0 d1 d2
            have d0 : w3.cell? ⟨w.heap.size, 0, none⟩ = some (.slice ao1 n1 c1) := H3.out.1.cell 0
            have d1 : w3.cell? ⟨w.heap.size, 1, none⟩ = some kv := H3.out.1.cell 1
            have d2 : w3.cell? ⟨w.heap.size, 2, none⟩ = some (.slice ao3 n3 c3) := H3.out.1.cell 2
            go_wp2_with fail
            refine ((A3.out t2) w3 H3.out.2).mono ?_
            rintro e w4 ⟨rfl, hb⟩
            have H4 := Lib.hid (show BlkIs w4 w.heap.size 26 #[.slice ao1 n1 c1, kv, .slice ao3 n3 c3] ∧ Below w.heap.size w w4 from ⟨H3.out.1.below hb H3.out.1.lt, H3.out.2.trans (hb.mono H3.out.2.size)⟩)
            clear hb d0 d1 d2
            have d0 : w4.cell? ⟨w.heap.size, 0, none⟩ = some (.slice ao1 n1 c1) := H4.out.1.cell 0
            have d1 : w4.cell? ⟨w.heap.size, 1, none⟩ = some kv := H4.out.1.cell 1
            have d2 : w4.cell? ⟨w.heap.size, 2, none⟩ = some (.slice ao3 n3 c3) := H4.out.1.cell 2
            go_wp2_with fail
            go_ret
            exact ⟨ret_b (by first | (simp; done) | (simp [r2]; done) | (simp [t2]; done) | (simp [r2, t2]; done)), H4.out.2⟩
          · cases q4
            · skip
              go_wp2_with fail
              rw [← HW.out]
              refine ((A1.out r2) W1 H1.out.2).mono ?_
              rintro e w2 ⟨rfl, hb⟩
              have H2 := Lib.hid (show BlkIs w2 w.heap.size 26 #[.slice ao1 n1 c1, kv, .slice ao3 n3 c3] ∧ Below w.heap.size w w2 from ⟨H1.out.1.below hb H1.out.1.lt, H1.out.2.trans (hb.mono H1.out.2.size)⟩)
              clear hb d0 d1 d2
              have d0 : w2.cell? ⟨w.heap.size, 0, none⟩ = some (.slice ao1 n1 c1) := H2.out.1.cell 0
              have d1 : w2.cell? ⟨w.heap.size, 1, none⟩ = some kv := H2.out.1.cell 1
              have d2 : w2.cell? ⟨w.heap.size, 2, none⟩ = some (.slice ao3 n3 c3) := H2.out.1.cell 2
              go_wp2_with fail
              refine ((A2.out r2) w2 H2.out.2).mono ?_
              rintro e w3 ⟨rfl, hb⟩
              have H3 := Lib.hid (show BlkIs w3 w.heap.size 26 #[.slice ao1 n1 c1, kv, .slice ao3 n3 c3] ∧ Below w.heap.size w w3 from ⟨H2.out.1.below hb H2.out.1.lt, H2.out.2.trans (hb.mono H2.out.2.size)⟩)
              clear hb d0 d1 d2
              have d0 : w3.cell? ⟨w.heap.size, 0, none⟩ = some (.slice ao1 n1 c1) := H3.out.1.cell 0
              have d1 : w3.cell? ⟨w.heap.size, 1, none⟩ = some kv := H3.out.1.cell 1
              have d2 : w3.cell? ⟨w.heap.size, 2, none⟩ = some (.slice ao3 n3 c3) := H3.out.1.cell 2
              go_wp2_with fail
              refine ((A3.out t2) w3 H3.out.2).mono ?_
              rintro e w4 ⟨rfl, hb⟩
              have H4 := Lib.hid (show BlkIs w4 w.heap.size 26 #[.slice ao1 n1 c1, kv, .slice ao3 n3 c3] ∧ Below w.heap.size w w4 from ⟨H3.out.1.below hb H3.out.1.lt, H3.out.2.trans (hb.mono H3.out.2.size)⟩)
              clear hb d0 d1 d2
              have d0 : w4.cell? ⟨w.heap.size, 0, none⟩ = some (.slice ao1 n1 c1) := H4.out.1.cell 0
              have d1 : w4.cell? ⟨w.heap.size, 1, none⟩ = some kv := H4.out.1.cell 1
              have d2 : w4.cell? ⟨w.heap.size, 2, none⟩ = some (.slice ao3 n3 c3) := H4.out.1.cell 2
              go_wp2_with fail
              refine ((A4.out t2) w4 H4.out.2).mono ?_
              rintro e w5 ⟨rfl, hb⟩
              have H5 := Lib.hid (show BlkIs w5 w.heap.size 26 #[.slice ao1 n1 c1, kv, .slice ao3 n3 c3] ∧ Below w.heap.size w w5 from ⟨H4.out.1.below hb H4.out.1.lt, H4.out.2.trans (hb.mono H4.out.2.size)⟩)
              clear hb d0 d1 d2
              have d0 : w5.cell? ⟨w.heap.size, 0, none⟩ = some (.slice ao1 n1 c1) := H5.out.1.cell 0
              have d1 : w5.cell? ⟨w.heap.size, 1, none⟩ = some kv := H5.out.1.cell 1
              have d2 : w5.cell? ⟨w.heap.size, 2, none⟩ = some (.slice ao3 n3 c3) := H5.out.1.cell 2
              go_wp2_with fail
              go_ret
              exact ⟨ret_b (by first | (simp; done) | (simp [r2]; done) | (simp [t2]; done) | (simp [r2, t2]; done)), H5.out.2⟩
            · skip
              go_wp2_with fail
              rw [← HW.out]
              refine ((A1.out r2) W1 H1.out.2).mono ?_
              rintro e w2 ⟨rfl, hb⟩
              have H2 := Lib.hid (show BlkIs w2 w.heap.size 26 #[.slice ao1 n1 c1, kv, .slice ao3 n3 c3] ∧ Below w.heap.size w w2 from ⟨H1.out.1.below hb H1.out.1.lt, H1.out.2.trans (hb.mono H1.out.2.size)⟩)
              clear hb d0 d1 d2
              have d0 : w2.cell? ⟨w.heap.size, 0, none⟩ = some (.slice ao1 n1 c1) := H2.out.1.cell 0
              have d1 : w2.cell? ⟨w.heap.size, 1, none⟩ = some kv := H2.out.1.cell 1
              have d2 : w2.cell? ⟨w.heap.size, 2, none⟩ = some (.slice ao3 n3 c3) := H2.out.1.cell 2
              go_wp2_with fail
              refine ((A2.out r2) w2 H2.out.2).mono ?_
              rintro e w3 ⟨rfl, hb⟩
              have H3 := Lib.hid (show BlkIs w3 w.heap.size 26 #[.slice ao1 n1 c1, kv, .slice ao3 n3 c3] ∧ Below w.heap.size w w3 from ⟨H2.out.1.below hb H2.out.1.lt, H2.out.2.trans (hb.mono H2.out.2.size)⟩)
              clear hb d0 d1 d2
              have d0 : w3.cell? ⟨w.heap.size, 0, none⟩ = some (.slice ao1 n1 c1) := H3.out.1.cell 0
              have d1 : w3.cell? ⟨w.heap.size, 1, none⟩ = some kv := H3.out.1.cell 1
              have d2 : w3.cell? ⟨w.heap.size, 2, none⟩ = some (.slice ao3 n3 c3) := H3.out.1.cell 2
              go_wp2_with fail
              refine ((A3.out t2) w3 H3.out.2).mono ?_
              rintro e w4 ⟨rfl, hb⟩
              have H4 := Lib.hid (show BlkIs w4 w.heap.size 26 #[.slice ao1 n1 c1, kv, .slice ao3 n3 c3] ∧ Below w.heap.size w w4 from ⟨H3.out.1.below hb H3.out.1.lt, H3.out.2.trans (hb.mono H3.out.2.size)⟩)
              clear hb d0 d1 d2
              have d0 : w4.cell? ⟨w.heap.size, 0, none⟩ = some (.slice ao1 n1 c1) := H4.out.1.cell 0
              have d1 : w4.cell? ⟨w.heap.size, 1, none⟩ = some kv := H4.out.1.cell 1
              have d2 : w4.cell? ⟨w.heap.size, 2, none⟩ = some (.slice ao3 n3 c3) := H4.out.1.cell 2
              go_wp2_with fail
              refine ((A4.out t2) w4 H4.out.2).mono ?_
              rintro e w5 ⟨rfl, hb⟩
              have H5 := Lib.hid (show BlkIs w5 w.heap.size 26 #[.slice ao1 n1 c1, kv, .slice ao3 n3 c3] ∧ Below w.heap.size w w5 from ⟨H4.out.1.below hb H4.out.1.lt, H4.out.2.trans (hb.mono H4.out.2.size)⟩)
              clear hb d0 d1 d2
              have d0 : w5.cell? ⟨w.heap.size, 0, none⟩ = some (.slice ao1 n1 c1) := H5.out.1.cell 0
              have d1 : w5.cell? ⟨w.heap.size, 1, none⟩ = some kv := H5.out.1.cell 1
              have d2 : w5.cell? ⟨w.heap.size, 2, none⟩ = some (.slice ao3 n3 c3) := H5.out.1.cell 2
              go_wp2_with fail
              go_ret
              exact ⟨ret_b (by first | (simp; done) | (simp [r2]; done) | (simp [t2]; done) | (simp [r2, t2]; done)), H5.out.2⟩
      · skip
        rcases et with ⟨t1, t2⟩ | ⟨t1, t2⟩
        · skip
          go_wp2_with fail
          rw [← HW.out]
          refine ((A1.out r2) W1 H1.out.2).mono ?_
          rintro e w2 ⟨rfl, hb⟩
          have H2 := Lib.hid (show BlkIs w2 w.heap.size 26 #[.slice ao1 n1 c1, kv, .slice ao3 n3 c3] ∧ Below w.heap.size w w2 from ⟨H1.out.1.below hb H1.out.1.lt, H1.out.2.trans (hb.mono H1.out.2.size)⟩)
          clear hb d0 d1 d2
          have d0 : w2.cell? ⟨w.heap.size, 0, none⟩ = some (.slice ao1 n1 c1) := H2.out.1.cell 0
          have d1 : w2.cell? ⟨w.heap.size, 1, none⟩ = some kv := H2.out.1.cell 1
          have d2 : w2.cell? ⟨w.heap.size, 2, none⟩ = some (.slice ao3 n3 c3) := H2.out.1.cell 2
          go_wp2_with fail
          refine ((A2.out r2) w2 H2.out.2).mono ?_
          rintro e w3 ⟨rfl, hb⟩
          have H3 := Lib.hid (show BlkIs w3 w.heap.size 26 #[.slice ao1 n1 c1, kv, .slice ao3 n3 c3] ∧ Below w.heap.size w w3 from ⟨H2.out.1.below hb H2.out.1.lt, H2.out.2.trans (hb.mono H2.out.2.size)⟩)
          clear hb d0 d1 d2
          have d0 : w3.cell? ⟨w.heap.size, 0, none⟩ = some (.slice ao1 n1 c1) := H3.out.1.cell 0
          have d1 : w3.cell? ⟨w.heap.size, 1, none⟩ = some kv := H3.out.1.cell 1
          have d2 : w3.cell? ⟨w.heap.size, 2, none⟩ = some (.slice ao3 n3 c3) := H3.out.1.cell 2
          go_wp2_with fail
          go_ret
          exact ⟨ret_b (by first | (simp; done) | (simp [r2]; done) | (simp [t2]; done) | (simp [r2, t2]; done)), H3.out.2⟩
        · cases q3
          · skip
            go_wp2_with fail
            rw [← HW.out]
            refine ((A1.out r2) W1 H1.out.2).mono ?_
            rintro e w2 ⟨rfl, hb⟩
            have H2 := Lib.hid (show BlkIs w2 w.heap.size 26 #[.slice ao1 n1 c1, kv, .slice ao3 n3 c3] ∧ Below w.heap.size w w2 from ⟨H1.out.1.below hb H1.out.1.lt, H1.out.2.trans (hb.mono H1.out.2.size)⟩)
            clear hb d0 d1 d2
            have d0 : w2.cell? ⟨w.heap.size, 0, none⟩ = some (.slice ao1 n1 c1) := H2.out.1.cell 0
            have d1 : w2.cell? ⟨w.heap.size, 1, none⟩ = some kv := H2.out.1.cell 1
            have d2 : w2.cell? ⟨w.heap.size, 2, none⟩ = some (.slice ao3 n3 c3) := H2.out.1.cell 2
            go_wp2_with fail
            refine ((A2.out r2) w2 H2.out.2).mono ?_
            rintro e w3 ⟨rfl, hb⟩
            have H3 := Lib.hid (show BlkIs w3 w.heap.size 26 #[.slice ao1 n1 c1, kv, .slice ao3 n3 c3] ∧ Below w.heap.size w w3 from ⟨H2.out.1.below hb H2.out.1.lt, H2.out.2.trans (hb.mono H2.out.2.size)⟩)
            clear hb d0 d1 d2
            have d0 : w3.cell? ⟨w.heap.size, 0, none⟩ = some (.slice ao1 n1 c1) := H3.out.1.cell 0
            have d1 : w3.cell? ⟨w.heap.size, 1, none⟩ = some kv := H3.out.1.cell 1
            have d2 : w3.cell? ⟨w.heap.size, 2, none⟩ = some (.slice ao3 n3 c3) := H3.out.1.cell 2
            go_wp2_with fail
            refine ((A3.out t2) w3 H3.out.2).mono ?_
            rintro e w4 ⟨rfl, hb⟩
            have H4 := Lib.hid (show BlkIs w4 w.heap.size 26 #[.slice ao1 n1 c1, kv, .slice ao3 n3 c3] ∧ Below w.heap.size w w4 from ⟨H3.out.1.below hb H3.out.1.lt, H3.out.2.trans (hb.mono H3.out.2.size)⟩)
            clear hb d0 d1 d2
            have d0 : w4.cell? ⟨w.heap.size, 0, none⟩ = some (.slice ao1 n1 c1) := H4.out.1.cell 0
            have d1 : w4.cell? ⟨w.heap.size, 1, none⟩ = some kv := H4.out.1.cell 1
            have d2 : w4.cell? ⟨w.heap.size, 2, none⟩ = some (.slice ao3 n3 c3) := H4.out.1.cell 2
            go_wp2_with fail
            go_ret
            exact ⟨ret_b (by first | (simp; done) | (simp [r2]; done) | (simp [t2]; done) | (simp [r2, t2]; done)), H4.out.2⟩
          · cases q4
            · skip
              go_wp2_with fail
              rw [← HW.out]
              refine ((A1.out r2) W1 H1.out.2).mono ?_
              rintro e w2 ⟨rfl, hb⟩
              have H2 := Lib.hid (show BlkIs w2 w.heap.size 26 #[.slice ao1 n1 c1, kv, .slice ao3 n3 c3] ∧ Below w.heap.size w w2 from ⟨H1.out.1.below hb H1.out.1.lt, H1.out.2.trans (hb.mono H1.out.2.size)⟩)
              clear hb d0 d1 d2
              have d0 : w2.cell? ⟨w.heap.size, 0, none⟩ = some (.slice ao1 n1 c1) := H2.out.1.cell 0
              have d1 : w2.cell? ⟨w.heap.size, 1, none⟩ = some kv := H2.out.1.cell 1
              have d2 : w2.cell? ⟨w.heap.size, 2, none⟩ = some (.slice ao3 n3 c3) := H2.out.1.cell 2
              go_wp2_with fail
              refine ((A2.out r2) w2 H2.out.2).mono ?_
              rintro e w3 ⟨rfl, hb⟩
              have H3 := Lib.hid (show BlkIs w3 w.heap.size 26 #[.slice ao1 n1 c1, kv, .slice ao3 n3 c3] ∧ Below w.heap.size w w3 from ⟨H2.out.1.below hb H2.out.1.lt, H2.out.2.trans (hb.mono H2.out.2.size)⟩)
              clear hb d0 d1 d2
              have d0 : w3.cell? ⟨w.heap.size, 0, none⟩ = some (.slice ao1 n1 c1) := H3.out.1.cell 0
              have d1 : w3.cell? ⟨w.heap.size, 1, none⟩ = some kv := H3.out.1.cell 1
              have d2 : w3.cell? ⟨w.heap.size, 2, none⟩ = some (.slice ao3 n3 c3) := H3.out.1.cell 2
              go_wp2_with fail
              refine ((A3.out t2) w3 H3.out.2).mono ?_
              rintro e w4 ⟨rfl, hb⟩
              have H4 := Lib.hid (show BlkIs w4 w.heap.size 26 #[.slice ao1 n1 c1, kv, .slice ao3 n3 c3] ∧ Below w.heap.size w w4 from ⟨H3.out.1.below hb H3.out.1.lt, H3.out.2.trans (hb.mono H3.out.2.size)⟩)
              clear hb d0 d1 d2
              have d0 : w4.cell? ⟨w.heap.size, 0, none⟩ = some (.slice ao1 n1 c1) := H4.out.1.cell 0
              have d1 : w4.cell? ⟨w.heap.size, 1, none⟩ = some kv := H4.out.1.cell 1
              have d2 : w4.cell? ⟨w.heap.size, 2, none⟩ = some (.slice ao3 n3 c3) := H4.out.1.cell 2
              go_wp2_with fail
              refine ((A4.out t2) w4 H4.out.2).mono ?_
              rintro e w5 ⟨rfl, hb⟩
              have H5 := Lib.hid (show BlkIs w5 w.heap.size 26 #[.slice ao1 n1 c1, kv, .slice ao3 n3 c3] ∧ Below w.heap.size w w5 from ⟨H4.out.1.below hb H4.out.1.lt, H4.out.2.trans (hb.mono H4.out.2.size)⟩)
              clear hb d0 d1 d2
              have d0 : w5.cell? ⟨w.heap.size, 0, none⟩ = some (.slice ao1 n1 c1) := H5.out.1.cell 0
              have d1 : w5.cell? ⟨w.heap.size, 1, none⟩ = some kv := H5.out.1.cell 1
              have d2 : w5.cell? ⟨w.heap.size, 2, none⟩ = some (.slice ao3 n3 c3) := H5.out.1.cell 2
              go_wp2_with fail
              go_ret
              exact ⟨ret_b (by first | (simp; done) | (simp [r2]; done) | (simp [t2]; done) | (simp [r2, t2]; done)), H5.out.2⟩
            · skip
              go_wp2_with fail
              rw [← HW.out]
              refine ((A1.out r2) W1 H1.out.2).mono ?_
              rintro e w2 ⟨rfl, hb⟩
              have H2 := Lib.hid (show BlkIs w2 w.heap.size 26 #[.slice ao1 n1 c1, kv, .slice ao3 n3 c3] ∧ Below w.heap.size w w2 from ⟨H1.out.1.below hb H1.out.1.lt, H1.out.2.trans (hb.mono H1.out.2.size)⟩)
              clear hb d0 d1 d2
              have d0 : w2.cell? ⟨w.heap.size, 0, none⟩ = some (.slice ao1 n1 c1) := H2.out.1.cell 0
              have d1 : w2.cell? ⟨w.heap.size, 1, none⟩ = some kv := H2.out.1.cell 1
              have d2 : w2.cell? ⟨w.heap.size, 2, none⟩ = some (.slice ao3 n3 c3) := H2.out.1.cell 2
              go_wp2_with fail
              refine ((A2.out r2) w2 H2.out.2).mono ?_
              rintro e w3 ⟨rfl, hb⟩
              have H3 := Lib.hid (show BlkIs w3 w.heap.size 26 #[.slice ao1 n1 c1, kv, .slice ao3 n3 c3] ∧ Below w.heap.size w w3 from ⟨H2.out.1.below hb H2.out.1.lt, H2.out.2.trans (hb.mono H2.out.2.size)⟩)
              clear hb d0 d1 d2
              have d0 : w3.cell? ⟨w.heap.size, 0, none⟩ = some (.slice ao1 n1 c1) := H3.out.1.cell 0
              have d1 : w3.cell? ⟨w.heap.size, 1, none⟩ = some kv := H3.out.1.cell 1
              have d2 : w3.cell? ⟨w.heap.size, 2, none⟩ = some (.slice ao3 n3 c3) := H3.out.1.cell 2
              go_wp2_with fail
              refine ((A3.out t2) w3 H3.out.2).mono ?_
              rintro e w4 ⟨rfl, hb⟩
              have H4 := Lib.hid (show BlkIs w4 w.heap.size 26 #[.slice ao1 n1 c1, kv, .slice ao3 n3 c3] ∧ Below w.heap.size w w4 from ⟨H3.out.1.below hb H3.out.1.lt, H3.out.2.trans (hb.mono H3.out.2.size)⟩)
              clear hb d0 d1 d2
              have d0 : w4.cell? ⟨w.heap.size, 0, none⟩ = some (.slice ao1 n1 c1) := H4.out.1.cell 0
              have d1 : w4.cell? ⟨w.heap.size, 1, none⟩ = some kv := H4.out.1.cell 1
              have d2 : w4.cell? ⟨w.heap.size, 2, none⟩ = some (.slice ao3 n3 c3) := H4.out.1.cell 2
              go_wp2_with fail
              refine ((A4.out t2) w4 H4.out.2).mono ?_
              rintro e w5 ⟨rfl, hb⟩
              have H5 := Lib.hid (show BlkIs w5 w.heap.size 26 #[.slice ao1 n1 c1, kv, .slice ao3 n3 c3] ∧ Below w.heap.size w w5 from ⟨H4.out.1.below hb H4.out.1.lt, H4.out.2.trans (hb.mono H4.out.2.size)⟩)
              clear hb d0 d1 d2
              have d0 : w5.cell? ⟨w.heap.size, 0, none⟩ = some (.slice ao1 n1 c1) := H5.out.1.cell 0
              have d1 : w5.cell? ⟨w.heap.size, 1, none⟩ = some kv := H5.out.1.cell 1
              have d2 : w5.cell? ⟨w.heap.size, 2, none⟩ = some (.slice ao3 n3 c3) := H5.out.1.cell 2
              go_wp2_with fail
              refine (A5.out w5 H5.out.2).mono ?_
              rintro e w6 ⟨rfl, hb⟩
              have H6 := Lib.hid (show BlkIs w6 w.heap.size 26 #[.slice ao1 n1 c1, kv, .slice ao3 n3 c3] ∧ Below w.heap.size w w6 from ⟨H5.out.1.below hb H5.out.1.lt, H5.out.2.trans (hb.mono H5.out.2.size)⟩)
              clear hb d0 d1 d2
              have d0 : w6.cell? ⟨w.heap.size, 0, none⟩ = some (.slice ao1 n1 c1) := H6.out.1.cell 0
              have d1 : w6.cell? ⟨w.heap.size, 1, none⟩ = some kv := H6.out.1.cell 1
              have d2 : w6.cell? ⟨w.heap.size, 2, none⟩ = some (.slice ao3 n3 c3) := H6.out.1.cell 2
              go_wp2_with fail
              go_ret
              exact ⟨ret_b (by first | (simp; done) | (simp [r2]; done) | (simp [t2]; done) | (simp [r2, t2]; done)), H6.out.2⟩
end Go.Proofs.YtbmknmjcoeinkaaGreat.Mk
