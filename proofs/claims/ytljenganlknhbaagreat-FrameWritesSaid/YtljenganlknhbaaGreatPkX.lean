/- Several texts in one. (Layer 19.) -/
import Derived.Test.YtljenganlknhbaaGreatPkG
import Derived.Test.YtljenganlknhbaaGreatPkF
import Derived.WalkLawsBesides
/- reliquaryref12.Good, walked: the same as the program's own. (Layer 12.) -/
namespace Go.Proofs.YtljenganlknhbaaGreat.Mk
set_option linter.unusedVariables false
open Go.RowKit
/-- So far each is right, and they rise. -/
def So {α : Type} (p : α → Bool) (r : α → α → Bool) (l : List α) (k : Nat) : Prop := (∀ x ∈ l.take k, p x = true) ∧ ∀ i, i + 1 < k → ∀ (h : i + 1 < l.length), r l[i] l[i + 1] = true
theorem So.start {α : Type} (p : α → Bool) (r : α → α → Bool) (l : List α) : So p r l 0 := ⟨fun x hx => by simp at hx, fun i hi => absurd hi (Nat.not_lt_zero _)⟩
theorem So.step {α : Type} {p : α → Bool} {r : α → α → Bool} {l : List α} {k : Nat} (h : So p r l k) (hk : k < l.length) (h1 : p l[k] = true) (h2 : ∀ i, i + 1 = k → ∀ (h : i + 1 < l.length), r l[i] l[i + 1] = true) : So p r l (k + 1) := by
  refine ⟨fun x hx => ?_, fun i hi hl => ?_⟩
  · rw [take_snoc' hk] at hx
    rcases List.mem_append.1 hx with hx | hx
    · exact h.1 x hx
    · rcases List.mem_singleton.1 hx with rfl; exact h1
  · rcases Nat.lt_or_ge (i + 1) k with hlt | hge
    · exact h.2 i hlt hl
    · exact h2 i (by omega) hl
theorem So.all {α : Type} {p : α → Bool} {r : α → α → Bool} {l : List α} (h : So p r l l.length) : l.all p = true ∧ riseB r l = true := by
  rw [List.all_eq_true, riseB_iff]
  exact ⟨fun x hx => h.1 x (by rw [List.take_length]; exact hx), fun i hi => h.2 i hi hi⟩
theorem all_no {α : Type} {p : α → Bool} {l : List α} {k : Nat} (hk : k < l.length) (h : p l[k] = false) : l.all p = false := by
  rw [List.all_eq_false]; exact ⟨l[k], List.getElem_mem hk, by simp [h]⟩
theorem rise_no {α : Type} {r : α → α → Bool} {l : List α} {k : Nat} (hk : k + 1 < l.length) (h : r l[k] l[k + 1] = false) : riseB r l = false := by
  cases hr : riseB r l
  · rfl
  · have := (riseB_iff _ _).1 hr k hk
    rw [h] at this; cases this
set_option maxRecDepth 100000 in
set_option maxHeartbeats 8000000 in
theorem rgood_any (m : MkR) (w : World) (h : m.Reads w) (hf : Fit m.tombs) (hl : m.toks.length ≤ 1000000) : Calls Tryz.prog 39 #[aMk m] w fun e w' => e = .returned (.bool (goodB m.mk_)) ∧ Below w.heap.size w w' := by
  obtain ⟨refs, toks, zs, rv, kv, bv⟩ := m
  obtain ⟨h1, h2, h3, h4⟩ := h
  dsimp only at h1 h2 h3 h4 hf hl
  have hQ0 : goodB ⟨refs, toks, zs.map (·.t)⟩ = ((decide (refs.length ≤ 64) && refs.all refB && riseB nameLt refs) && (decide ((zs.map (·.t)).length ≤ 64) && (zs.map (·.t)).all tombB && riseB tombLt (zs.map (·.t))) && tokensB toks) := rfl
  rw [List.length_map, List.all_map, ← riseB_map] at hQ0
  obtain ⟨Q, hQ⟩ : ∃ Q, Q = goodB ⟨refs, toks, zs.map (·.t)⟩ := ⟨_, rfl⟩
  have HQ := Lib.hid (hQ.trans hQ0)
  have H := Lib.hid (And.intro h1 (And.intro h2 (And.intro h3 h4)))
  have HF := Lib.hid hf
  have A5 := Lib.hid (fun W (hW : Below w.heap.size w W) => rtokens_any kv toks W (H.out.2.1.later hW) hl)
  obtain ⟨ao1, c1, rfl, hc1, -⟩ := h1.form
  obtain ⟨ao3, c3, rfl, hc3, -⟩ := h3.form
  obtain ⟨q5, hq5⟩ : ∃ q, q = tokensB toks := ⟨_, rfl⟩
  rw [← hq5] at A5
  have HQ5 := Lib.hid hq5
  show Calls Tryz.prog 39 #[.agg #[.slice ao1 refs.length c1, kv, .slice ao3 zs.length c3]] w fun e w' => e = .returned (.bool (goodB ⟨refs, toks, zs.map (·.t)⟩)) ∧ Below w.heap.size w w'
  rw [← hQ]
  obtain ⟨n1, hn1⟩ : ∃ n, n = refs.length := ⟨_, rfl⟩
  obtain ⟨n3, hn3⟩ : ∃ n, n = zs.length := ⟨_, rfl⟩
  rw [← hn1, ← hn3]
  have HN := Lib.hid (And.intro hn1 hn3)
  obtain ⟨W1, hW1⟩ : ∃ W1, W1 = w.alloc (.cells #[.slice ao1 n1 c1, kv, .slice ao3 n3 c3] 28) := ⟨_, rfl⟩
  have hb1 : Below w.heap.size w W1 := by rw [hW1]; exact (Below.refl _ _).alloc (Nat.le_refl _) _
  have k1 : BlkIs W1 w.heap.size 28 #[.slice ao1 n1 c1, kv, .slice ao3 n3 c3] := by rw [hW1]; exact BlkIs.new _ _ _
  have HW := Lib.hid hW1
  have H1 := Lib.hid (And.intro k1 hb1)
  have HC := Lib.hid (show RowAt 3 vRf W1 (.slice ao1 n1 c1) refs ∧ RowAt 5 vTb W1 (.slice ao3 n3 c3) zs ∧ ∀ z ∈ zs, z.Reads W1 from by rw [hn1, hn3]; exact ⟨H.out.1.later hb1, H.out.2.2.1.later hb1, fun z hz => (H.out.2.2.2 z hz).later hb1⟩)
  have d0 : W1.cell? ⟨w.heap.size, 0, none⟩ = some (.slice ao1 n1 c1) := k1.cell 0
  have d1 : W1.cell? ⟨w.heap.size, 1, none⟩ = some kv := k1.cell 1
  have d2 : W1.cell? ⟨w.heap.size, 2, none⟩ = some (.slice ao3 n3 c3) := k1.cell 2
  clear h1 h2 h3 h4 hf hl hQ hQ0 hq5 hn1 hn3 hc1 hc3 H hW1 hb1 k1
  go_enter Tryz.func39, Tryz.ntmps39
  by_cases e1 : n1 ≤ 64
  case neg =>
    have r1 : (64 : Int) < n1 := by omega
    go_wp2_with fail
    rw [← HW.out]
    go_ret
    exact ⟨ret_b (by rw [HQ.out, ← HN.out.1, decide_eq_false e1]; simp), H1.out.2⟩
  by_cases e3 : n3 ≤ 64
  case neg =>
    have r1 : decide ((64 : Int) < n1) = false := decide_eq_false (by omega)
    have r2 : (64 : Int) < n3 := by omega
    go_wp2_with fail
    rw [← HW.out]
    go_ret
    exact ⟨ret_b (by rw [HQ.out, ← HN.out.2, decide_eq_false e3]; simp), H1.out.2⟩
  have r1 : decide ((64 : Int) < n1) = false := decide_eq_false (by omega)
  have r2 : decide ((64 : Int) < n3) = false := decide_eq_false (by omega)
  have T := Lib.hid (A5.out W1 H1.out.2)
  clear A5
  cases q5
  case false =>
    go_wp2_with fail
    rw [← HW.out]
    refine T.out.mono ?_
    rintro e w2 ⟨rfl, hb⟩
    have H2 := Lib.hid (H1.out.2.trans (hb.mono H1.out.2.size))
    clear T hb
    go_wp2_with fail
    go_ret
    exact ⟨ret_b (by rw [HQ.out, ← HQ5.out]; simp), H2.out⟩
  case true =>
  go_wp2_with fail
  rw [← HW.out]
  refine T.out.mono ?_
  rintro e w2 ⟨rfl, hb⟩
  have HB2 := Lib.hid hb
  clear T hb d0 d1 d2 r1 r2
  go_wp2_with fail
  go_loopw [3] (fun i wr => ∃ k : Nat, i = .int .i64 (k : Int) ∧ k ≤ n1 ∧ Hid (So refB nameLt refs k) ∧ Hid (Below W1.heap.size W1 wr)) (fun i _ => n1 - (intOf i).toNat)
  case atStart => exact ⟨0, rfl, Nat.zero_le _, Lib.hid (So.start _ _ _), HB2⟩
  case round =>
    obtain ⟨k, rfl, hkl, HM, HB⟩ := hrel
    clear HB2
    rcases Nat.lt_or_ge k n1 with hlt | hge
    · have ki : (k : Int) < n1 := by omega
      have hkL : k < refs.length := by rw [← HN.out.1]; exact hlt
      obtain ⟨b, off, rfl, hblt, hc⟩ := HC.out.1.at_ (by omega)
      obtain ⟨x, hx⟩ : ∃ x, x = refs[k] := ⟨_, rfl⟩
      have HR := Lib.hid (show refB refs[k] = (Path.nameOk x.name && decide (x.id.size = 32 ∧ 0 ≤ x.h ∧ x.h ≤ 1073741824)) by rw [← hx]; rfl)
      have HXn := Lib.hid (show refs[k].name = x.name by rw [hx])
      obtain ⟨a0, a1, a2⟩ := x
      dsimp only at HR HXn
      have x0 : wr.cell? ⟨b, off + k * 3, none⟩ = some (.string a0) := by
        have := hc k hkL 0 (.string a0) (by rw [← hx]; rfl)
        rw [HB.out.cell hblt]; simpa using this
      have x1 : wr.cell? ⟨b, off + k * 3 + 1, none⟩ = some (.string a1) := by
        have := hc k hkL 1 (.string a1) (by rw [← hx]; rfl)
        rw [HB.out.cell hblt]; simpa using this
      have x2 : wr.cell? ⟨b, off + k * 3 + 2, none⟩ = some (.int .i64 a2) := by
        have := hc k hkL 2 (.int .i64 a2) (by rw [← hx]; rfl)
        rw [HB.out.cell hblt]; simpa using this
      obtain ⟨W3, hW3⟩ : ∃ W3, W3 = wr.alloc (.cells #[.string a0, .string a1, .int .i64 a2] 51) := ⟨_, rfl⟩
      have hb3 : Below wr.heap.size wr W3 := by rw [hW3]; exact (Below.refl _ _).alloc (Nat.le_refl _) _
      have k3 : BlkIs W3 wr.heap.size 51 #[.string a0, .string a1, .int .i64 a2] := by rw [hW3]; exact BlkIs.new _ _ _
      have HX3 := Lib.hid (show BlkIs W3 w.heap.size 28 #[.slice (some ⟨b, off, none⟩) n1 c1, kv, .slice ao3 n3 c3] ∧ Below W1.heap.size W1 W3 from ⟨(H1.out.1.below HB.out H1.out.1.lt).below hb3 (H1.out.1.below HB.out H1.out.1.lt).lt, HB.out.trans (hb3.mono HB.out.size)⟩)
      have HB3 := Lib.hid HX3.out.2
      have u0 : ∀ X : LaterOf W3, X.w.cell? ⟨wr.heap.size, 0, none⟩ = some (.string a0) := fun X => (X.blk k3).cell 0
      have u1 : ∀ X : LaterOf W3, X.w.cell? ⟨wr.heap.size, 1, none⟩ = some (.string a1) := fun X => (X.blk k3).cell 1
      have u2 : ∀ X : LaterOf W3, X.w.cell? ⟨wr.heap.size, 2, none⟩ = some (.int .i64 a2) := fun X => (X.blk k3).cell 2
      have y0 : ∀ X : LaterOf W3, X.w.cell? ⟨w.heap.size, 0, none⟩ = some (.slice (some ⟨b, off, none⟩) n1 c1) := fun X => (X.blk HX3.out.1).cell 0
      have d0 : wr.cell? ⟨w.heap.size, 0, none⟩ = some (.slice (some ⟨b, off, none⟩) n1 c1) := (H1.out.1.below HB.out H1.out.1.lt).cell 0
      have P := Path.ref_good a0
      obtain ⟨p, hp⟩ : ∃ p, p = Path.nameOk a0 := ⟨_, rfl⟩
      rw [← hp] at P HR
      have P := Lib.hid P
      have HW3 := Lib.hid hW3
      have hwk : IntKind.i64.wrap (k : Int) = (k : Int) := IntWalk.i64_in _ (by omega)
      have HC2 := Lib.hid hc
      clear hb3 k3 hp hc
      cases p
      case false =>
        clear hx
        have hno : refB refs[k] = false := by rw [HR.out]; rfl
        have HNo := Lib.hid (all_no (p := refB) hkL hno)
        clear hno
        go_wp2_with fail
        rw [← HW3.out]
        clear hW3
        refine wp_region_all (fun w' => ∃ x : LaterOf W3, w' = x.w) (by kernel_rfl) (by kernel_rfl) ⟨LaterOf.start W3, rfl⟩ ?_
        repeat (go_big_quiet_step (with_reducible exact LaterOf.call_same _ (P.out _)))
        refine wpQuiet_nil ?_
        intro w3 hw3
        obtain ⟨X, rfl⟩ := hw3
        have H3 := Lib.hid (HB3.out.trans (X.h.mono HB3.out.size))
        obtain ⟨w3, hx3⟩ := X
        clear u0 u1 u2 y0 x0 x1 x2 d0
        go_wp2_with fail
        go_ret
        exact ⟨ret_b (by rw [HQ.out, HNo.out]; simp), H1.out.2.trans (H3.out.mono H1.out.2.size)⟩
      case true =>
      have g0 : (a1.size = 32) ∨ ¬ (a1.size = 32) := by omega
      rcases g0 with g0 | g0
      rotate_left
      · have hno : refB refs[k] = false := by rw [HR.out, Bool.true_and]; exact decide_eq_false (by omega)
        have HNo := Lib.hid (all_no (p := refB) hkL hno)
        have e5 : ((a1.size : Int) != 32) = true := by simp; omega
        have e6 : ((a1.size : Int) == 32) = false := by simp; omega
        clear hno hx g0
        go_wp2_with fail
        rw [← HW3.out]
        clear hW3
        refine wp_region_all (fun w' => ∃ x : LaterOf W3, w' = x.w) (by kernel_rfl) (by kernel_rfl) ⟨LaterOf.start W3, rfl⟩ ?_
        repeat (go_big_quiet_step (with_reducible exact LaterOf.call_same _ (P.out _)))
        refine wpQuiet_nil ?_
        intro w3 hw3
        obtain ⟨X, rfl⟩ := hw3
        have H3 := Lib.hid (HB3.out.trans (X.h.mono HB3.out.size))
        obtain ⟨w3, hx3⟩ := X
        clear u0 u1 u2 y0 x0 x1 x2 d0
        go_wp2_with fail
        go_ret
        exact ⟨ret_b (by rw [HQ.out, HNo.out]; simp), H1.out.2.trans (H3.out.mono H1.out.2.size)⟩
      have e5 : ((a1.size : Int) != 32) = false := by simp; omega
      have e6 : ((a1.size : Int) == 32) = true := by simp; omega
      rcases Int.lt_or_le a2 0 with g1 | g1
      · have hno : refB refs[k] = false := by rw [HR.out, Bool.true_and]; exact decide_eq_false (by omega)
        have HNo := Lib.hid (all_no (p := refB) hkL hno)
        have e7 : decide (a2 < 0) = true := decide_eq_true g1
        clear hno hx g0 g1
        go_wp2_with fail
        rw [← HW3.out]
        clear hW3
        refine wp_region_all (fun w' => ∃ x : LaterOf W3, w' = x.w) (by kernel_rfl) (by kernel_rfl) ⟨LaterOf.start W3, rfl⟩ ?_
        repeat (go_big_quiet_step (with_reducible exact LaterOf.call_same _ (P.out _)))
        refine wpQuiet_nil ?_
        intro w3 hw3
        obtain ⟨X, rfl⟩ := hw3
        have H3 := Lib.hid (HB3.out.trans (X.h.mono HB3.out.size))
        obtain ⟨w3, hx3⟩ := X
        clear u0 u1 u2 y0 x0 x1 x2 d0
        go_wp2_with fail
        go_ret
        exact ⟨ret_b (by rw [HQ.out, HNo.out]; simp), H1.out.2.trans (H3.out.mono H1.out.2.size)⟩
      have e7 : decide (a2 < 0) = false := decide_eq_false (by omega)
      rcases Int.lt_or_le 1073741824 a2 with g2 | g2
      · have hno : refB refs[k] = false := by rw [HR.out, Bool.true_and]; exact decide_eq_false (by omega)
        have HNo := Lib.hid (all_no (p := refB) hkL hno)
        have e8 : decide (1073741824 < a2) = true := decide_eq_true g2
        clear hno hx g0 g1 g2
        go_wp2_with fail
        rw [← HW3.out]
        clear hW3
        refine wp_region_all (fun w' => ∃ x : LaterOf W3, w' = x.w) (by kernel_rfl) (by kernel_rfl) ⟨LaterOf.start W3, rfl⟩ ?_
        repeat (go_big_quiet_step (with_reducible exact LaterOf.call_same _ (P.out _)))
        refine wpQuiet_nil ?_
        intro w3 hw3
        obtain ⟨X, rfl⟩ := hw3
        have H3 := Lib.hid (HB3.out.trans (X.h.mono HB3.out.size))
        obtain ⟨w3, hx3⟩ := X
        clear u0 u1 u2 y0 x0 x1 x2 d0
        go_wp2_with fail
        go_ret
        exact ⟨ret_b (by rw [HQ.out, HNo.out]; simp), H1.out.2.trans (H3.out.mono H1.out.2.size)⟩
      have e8 : decide (1073741824 < a2) = false := decide_eq_false (by omega)
      have HYe := Lib.hid (show refB refs[k] = true by rw [HR.out, Bool.true_and]; exact decide_eq_true ⟨g0, g1, g2⟩)
      clear g0 g1 g2
      rcases Nat.eq_zero_or_pos k with h0 | h0
      · have HK := Lib.hid h0
        have z0 : decide (0 < k) = false := by rw [h0]; rfl
        clear hx h0
        go_wp2_with fail
        rw [← HW3.out]
        clear hW3
        refine wp_region_all (fun w' => ∃ x : LaterOf W3, w' = x.w) (by kernel_rfl) (by kernel_rfl) ⟨LaterOf.start W3, rfl⟩ ?_
        repeat (go_big_quiet_step (with_reducible exact LaterOf.call_same _ (P.out _)))
        refine wpQuiet_nil ?_
        intro w3 hw3
        obtain ⟨X, rfl⟩ := hw3
        have H3 := Lib.hid (HB3.out.trans (X.h.mono HB3.out.size))
        obtain ⟨w3, hx3⟩ := X
        clear u0 u1 u2 y0 x0 x1 x2 d0
        go_wp2_with fail
        exact ⟨⟨k + 1, by simp, by omega, Lib.hid (HM.out.step hkL HYe.out fun i hi => absurd hi (by have := HK.out; omega)), H3⟩, by simp [intOf]; omega⟩
      · obtain ⟨j, rfl⟩ : ∃ j, k = j + 1 := ⟨k - 1, by omega⟩
        have hjL : j < refs.length := by omega
        obtain ⟨y, hy⟩ : ∃ y, y = refs[j].name := ⟨_, rfl⟩
        have HA := Lib.hid (show nameLt refs[j] refs[j + 1] = Op.bytesLess y.toList a0.toList by rw [less_name, hy, ← HXn.out]; rfl)
        have v0 : ∀ X : LaterOf W3, X.w.cell? ⟨b, off + j * 3, none⟩ = some (.string y) := fun X => by
          have := HC2.out j hjL 0 (.string y) (by rw [hy]; rfl)
          rw [X.h.cell (Nat.lt_of_lt_of_le hblt HB3.out.size), HB3.out.cell hblt]; simpa using this
        have hwj : IntKind.i64.wrap (j : Int) = (j : Int) := IntWalk.i64_in _ (by omega)
        have jn : (j : Int) < n1 := by omega
        have z0 : decide (0 < j + 1) = true := by simp
        obtain ⟨r, hr⟩ : ∃ r, r = Op.bytesLess y.toList a0.toList := ⟨_, rfl⟩
        rw [← hr] at HA
        have g4 := hr.symm
        clear hx hy hr h0
        cases r
        · have HNo := Lib.hid (rise_no (r := nameLt) hkL HA.out)
          go_wp2_with fail
          rw [← HW3.out]
          clear hW3
          refine wp_region_all (fun w' => ∃ x : LaterOf W3, w' = x.w) (by kernel_rfl) (by kernel_rfl) ⟨LaterOf.start W3, rfl⟩ ?_
          repeat (go_big_quiet_step (with_reducible exact LaterOf.call_same _ (P.out _)))
          refine wpQuiet_nil ?_
          intro w3 hw3
          obtain ⟨X, rfl⟩ := hw3
          have H3 := Lib.hid (HB3.out.trans (X.h.mono HB3.out.size))
          obtain ⟨w3, hx3⟩ := X
          clear u0 u1 u2 y0 v0 x0 x1 x2 d0
          go_wp2_with fail
          go_ret
          exact ⟨ret_b (by rw [HQ.out, HNo.out]; simp), H1.out.2.trans (H3.out.mono H1.out.2.size)⟩
        · skip
          go_wp2_with fail
          rw [← HW3.out]
          clear hW3
          refine wp_region_all (fun w' => ∃ x : LaterOf W3, w' = x.w) (by kernel_rfl) (by kernel_rfl) ⟨LaterOf.start W3, rfl⟩ ?_
          repeat (go_big_quiet_step (with_reducible exact LaterOf.call_same _ (P.out _)))
          refine wpQuiet_nil ?_
          intro w3 hw3
          obtain ⟨X, rfl⟩ := hw3
          have H3 := Lib.hid (HB3.out.trans (X.h.mono HB3.out.size))
          obtain ⟨w3, hx3⟩ := X
          clear u0 u1 u2 y0 x0 x1 x2 d0 v0
          go_wp2_with fail
          exact ⟨⟨j + 1 + 1, by simp, by omega, Lib.hid (HM.out.step hkL HYe.out fun i hi hl => (by
            obtain rfl : i = j := by omega
            exact HA.out)), H3⟩, by simp [intOf]; omega⟩
    · have ki : decide (k < n1) = false := decide_eq_false (by omega)
      obtain rfl : n1 = k := by omega
      have HRs := Lib.hid (show refs.all refB = true ∧ riseB nameLt refs = true from So.all (by have := HM.out; rwa [HN.out.1] at this))
      have d0 : wr.cell? ⟨w.heap.size, 0, none⟩ = some (.slice ao1 n1 c1) := (H1.out.1.below HB.out H1.out.1.lt).cell 0
      have d2 : wr.cell? ⟨w.heap.size, 2, none⟩ = some (.slice ao3 n3 c3) := (H1.out.1.below HB.out H1.out.1.lt).cell 2
      go_wp2_with fail
      obtain ⟨Wa, hWa⟩ : ∃ Wa, Wa = wr := ⟨_, rfl⟩
      subst hWa
      have HBa := HB
      clear d0 d2 HM HB
      go_loopw [5] (fun i wr => ∃ k : Nat, i = .int .i64 (k : Int) ∧ k ≤ n3 ∧ Hid (So (fun z => tombB z.t) (fun x y => tombLt x.t y.t) zs k) ∧ Hid (Below W1.heap.size W1 wr)) (fun i _ => n3 - (intOf i).toNat)
      case atStart => exact ⟨0, rfl, Nat.zero_le _, Lib.hid (So.start _ _ _), HBa⟩
      case round =>
        obtain ⟨k, rfl, hkl, HM, HB⟩ := hrel
        clear HBa
        rcases Nat.lt_or_ge k n3 with hlt | hge
        · have ki : (k : Int) < n3 := by omega
          have hkL : k < zs.length := by rw [← HN.out.2]; exact hlt
          obtain ⟨b, off, rfl, hblt, hc⟩ := HC.out.2.1.at_ (by omega)
          obtain ⟨x, hx⟩ : ∃ x, x = zs[k] := ⟨_, rfl⟩
          have hxm : x ∈ zs := by rw [hx]; exact List.getElem_mem hkL
          have HR := Lib.hid (show tombB zs[k].t = tombB x.t by rw [hx])
          have TT := fun W (hW : Below W1.heap.size W1 W) => rtomb_any x W ((HC.out.2.2 x hxm).later hW) (HF.out x hxm).2 (HF.out x hxm).1
          obtain ⟨q, hq⟩ : ∃ q, q = tombB x.t := ⟨_, rfl⟩
          rw [← hq] at TT HR
          have HXt := Lib.hid (show zs[k].t.node = x.t.node ∧ zs[k].t.n = x.t.n by rw [hx]; exact ⟨rfl, rfl⟩)
          obtain ⟨o1, f1, hv1, -, -⟩ := (HC.out.2.2 x hxm).1.form
          obtain ⟨o2, f2, hv2, -, -⟩ := (HC.out.2.2 x hxm).2.form
          obtain ⟨m1, hm1⟩ : ∃ m, m = x.t.cov.length := ⟨_, rfl⟩
          obtain ⟨m2, hm2⟩ : ∃ m, m = x.t.acks.length := ⟨_, rfl⟩
          rw [← hm1] at hv1
          rw [← hm2] at hv2
          clear hm1 hm2
          obtain ⟨⟨a0, a1, a2, a5, a6⟩, a3, a4⟩ := x
          dsimp only at hv1 hv2
          subst hv1 hv2
          have T := Lib.hid (show ∀ W, Below W1.heap.size W1 W → Calls Tryz.prog 103 #[.agg #[.int .i64 a0, .int .i64 a1, .string a2, .slice o1 m1 f1, .slice o2 m2 f2]] W fun e w' => e = .returned (.bool q) ∧ Below W.heap.size W w' from TT)
          dsimp only at HXt
          have x0 : wr.cell? ⟨b, off + k * 5, none⟩ = some (.int .i64 a0) := by
            have := hc k hkL 0 (.int .i64 a0) (by rw [← hx]; rfl)
            rw [HB.out.cell hblt]; simpa using this
          have x1 : wr.cell? ⟨b, off + k * 5 + 1, none⟩ = some (.int .i64 a1) := by
            have := hc k hkL 1 (.int .i64 a1) (by rw [← hx]; rfl)
            rw [HB.out.cell hblt]; simpa using this
          have x2 : wr.cell? ⟨b, off + k * 5 + 2, none⟩ = some (.string a2) := by
            have := hc k hkL 2 (.string a2) (by rw [← hx]; rfl)
            rw [HB.out.cell hblt]; simpa using this
          have x3 : wr.cell? ⟨b, off + k * 5 + 3, none⟩ = some (.slice o1 m1 f1) := by
            have := hc k hkL 3 (.slice o1 m1 f1) (by rw [← hx]; rfl)
            rw [HB.out.cell hblt]; simpa using this
          have x4 : wr.cell? ⟨b, off + k * 5 + 4, none⟩ = some (.slice o2 m2 f2) := by
            have := hc k hkL 4 (.slice o2 m2 f2) (by rw [← hx]; rfl)
            rw [HB.out.cell hblt]; simpa using this
          obtain ⟨W3, hW3⟩ : ∃ W3, W3 = wr.alloc (.cells #[.int .i64 a0, .int .i64 a1, .string a2, .slice o1 m1 f1, .slice o2 m2 f2] 54) := ⟨_, rfl⟩
          have hb3 : Below wr.heap.size wr W3 := by rw [hW3]; exact (Below.refl _ _).alloc (Nat.le_refl _) _
          have k3 : BlkIs W3 wr.heap.size 54 #[.int .i64 a0, .int .i64 a1, .string a2, .slice o1 m1 f1, .slice o2 m2 f2] := by rw [hW3]; exact BlkIs.new _ _ _
          have HX3 := Lib.hid (show BlkIs W3 w.heap.size 28 #[.slice ao1 n1 c1, kv, .slice (some ⟨b, off, none⟩) n3 c3] ∧ Below W1.heap.size W1 W3 from ⟨(H1.out.1.below HB.out H1.out.1.lt).below hb3 (H1.out.1.below HB.out H1.out.1.lt).lt, HB.out.trans (hb3.mono HB.out.size)⟩)
          have HB3 := Lib.hid HX3.out.2
          have TX := Lib.hid (fun X : LaterOf W3 => T.out X.w (HB3.out.trans (X.h.mono HB3.out.size)))
          have u0 : ∀ X : LaterOf W3, X.w.cell? ⟨wr.heap.size, 0, none⟩ = some (.int .i64 a0) := fun X => (X.blk k3).cell 0
          have u1 : ∀ X : LaterOf W3, X.w.cell? ⟨wr.heap.size, 1, none⟩ = some (.int .i64 a1) := fun X => (X.blk k3).cell 1
          have u2 : ∀ X : LaterOf W3, X.w.cell? ⟨wr.heap.size, 2, none⟩ = some (.string a2) := fun X => (X.blk k3).cell 2
          have u3 : ∀ X : LaterOf W3, X.w.cell? ⟨wr.heap.size, 3, none⟩ = some (.slice o1 m1 f1) := fun X => (X.blk k3).cell 3
          have u4 : ∀ X : LaterOf W3, X.w.cell? ⟨wr.heap.size, 4, none⟩ = some (.slice o2 m2 f2) := fun X => (X.blk k3).cell 4
          have y2 : ∀ X : LaterOf W3, X.w.cell? ⟨w.heap.size, 2, none⟩ = some (.slice (some ⟨b, off, none⟩) n3 c3) := fun X => (X.blk HX3.out.1).cell 2
          have d2 : wr.cell? ⟨w.heap.size, 2, none⟩ = some (.slice (some ⟨b, off, none⟩) n3 c3) := (H1.out.1.below HB.out H1.out.1.lt).cell 2
          have HW3 := Lib.hid hW3
          have hwk : IntKind.i64.wrap (k : Int) = (k : Int) := IntWalk.i64_in _ (by omega)
          have HC2 := Lib.hid hc
          clear hb3 k3 hq hc hx hxm T TT
          cases q
          case false =>
            have HNo := Lib.hid (all_no (p := fun z : TbR => tombB z.t) hkL HR.out)
            go_wp2_with fail
            rw [← HW3.out]
            clear hW3
            refine wp_region_all (fun w' => ∃ x : LaterOf W3, w' = x.w) (by kernel_rfl) (by kernel_rfl) ⟨LaterOf.start W3, rfl⟩ ?_
            repeat (go_big_quiet_step (with_reducible exact LaterOf.call _ (TX.out _)))
            refine wpQuiet_nil ?_
            intro w3 hw3
            obtain ⟨X, rfl⟩ := hw3
            have H3 := Lib.hid (HB3.out.trans (X.h.mono HB3.out.size))
            obtain ⟨w3, hx3⟩ := X
            clear u0 u1 u2 u3 u4 y2 x0 x1 x2 x3 x4 d2
            go_wp2_with fail
            go_ret
            exact ⟨ret_b (by rw [HQ.out, show (zs.all (tombB ∘ fun x => x.t)) = zs.all (fun z => tombB z.t) from rfl, HNo.out]; simp), H1.out.2.trans (H3.out.mono H1.out.2.size)⟩
          case true =>
          rcases Nat.eq_zero_or_pos k with h0 | h0
          · have HK := Lib.hid h0
            have z0 : decide (0 < k) = false := by rw [h0]; rfl
            clear h0
            go_wp2_with fail
            rw [← HW3.out]
            clear hW3
            refine wp_region_all (fun w' => ∃ x : LaterOf W3, w' = x.w) (by kernel_rfl) (by kernel_rfl) ⟨LaterOf.start W3, rfl⟩ ?_
            repeat (go_big_quiet_step (with_reducible exact LaterOf.call _ (TX.out _)))
            refine wpQuiet_nil ?_
            intro w3 hw3
            obtain ⟨X, rfl⟩ := hw3
            have H3 := Lib.hid (HB3.out.trans (X.h.mono HB3.out.size))
            obtain ⟨w3, hx3⟩ := X
            clear u0 u1 u2 u3 u4 y2 x0 x1 x2 x3 x4 d2
            go_wp2_with fail
            exact ⟨⟨k + 1, by simp, by omega, Lib.hid (HM.out.step hkL HR.out fun i hi => absurd hi (by have := HK.out; omega)), H3⟩, by simp [intOf]; omega⟩
          · obtain ⟨j, rfl⟩ : ∃ j, k = j + 1 := ⟨k - 1, by omega⟩
            have hjL : j < zs.length := by omega
            obtain ⟨b0, hy0⟩ : ∃ y, y = zs[j].t.node := ⟨_, rfl⟩
            obtain ⟨b1, hy1⟩ : ∃ y, y = zs[j].t.n := ⟨_, rfl⟩
            have HA := Lib.hid (show tombLt zs[j].t zs[j + 1].t = decide (b0 < a0 ∨ b0 = a0 ∧ b1 < a1) by rw [hy0, hy1, ← HXt.out.1, ← HXt.out.2]; rfl)
            have v0 : ∀ X : LaterOf W3, X.w.cell? ⟨b, off + j * 5, none⟩ = some (.int .i64 b0) := fun X => by
              have := HC2.out j hjL 0 (.int .i64 b0) (by rw [hy0]; rfl)
              rw [X.h.cell (Nat.lt_of_lt_of_le hblt HB3.out.size), HB3.out.cell hblt]; simpa using this
            have v1 : ∀ X : LaterOf W3, X.w.cell? ⟨b, off + j * 5 + 1, none⟩ = some (.int .i64 b1) := fun X => by
              have := HC2.out j hjL 1 (.int .i64 b1) (by rw [hy1]; rfl)
              rw [X.h.cell (Nat.lt_of_lt_of_le hblt HB3.out.size), HB3.out.cell hblt]; simpa using this
            have hwj : IntKind.i64.wrap (j : Int) = (j : Int) := IntWalk.i64_in _ (by omega)
            have jn : (j : Int) < n3 := by omega
            have z0 : decide (0 < j + 1) = true := by simp
            have S := rahead_any b0 b1 a0 a1
            obtain ⟨r, hr⟩ : ∃ r, r = decide (b0 < a0 ∨ b0 = a0 ∧ b1 < a1) := ⟨_, rfl⟩
            rw [← hr] at S HA
            have S := Lib.hid S
            clear hy0 hy1 hr h0
            cases r
            · have HNo := Lib.hid (rise_no (r := fun x y : TbR => tombLt x.t y.t) hkL HA.out)
              go_wp2_with fail
              rw [← HW3.out]
              clear hW3
              refine wp_region_all (fun w' => ∃ x : LaterOf W3, w' = x.w) (by kernel_rfl) (by kernel_rfl) ⟨LaterOf.start W3, rfl⟩ ?_
              repeat (go_big_quiet_step (first | with_reducible exact LaterOf.call _ (TX.out _) | with_reducible exact LaterOf.call_same _ (S.out _)))
              refine wpQuiet_nil ?_
              intro w3 hw3
              obtain ⟨X, rfl⟩ := hw3
              have H3 := Lib.hid (HB3.out.trans (X.h.mono HB3.out.size))
              obtain ⟨w3, hx3⟩ := X
              clear u0 u1 u2 u3 u4 y2 x0 x1 x2 x3 x4 d2 v0 v1
              go_wp2_with fail
              go_ret
              exact ⟨ret_b (by rw [HQ.out, HNo.out]; simp), H1.out.2.trans (H3.out.mono H1.out.2.size)⟩
            · skip
              go_wp2_with fail
              rw [← HW3.out]
              clear hW3
              refine wp_region_all (fun w' => ∃ x : LaterOf W3, w' = x.w) (by kernel_rfl) (by kernel_rfl) ⟨LaterOf.start W3, rfl⟩ ?_
              repeat (go_big_quiet_step (first | with_reducible exact LaterOf.call _ (TX.out _) | with_reducible exact LaterOf.call_same _ (S.out _)))
              refine wpQuiet_nil ?_
              intro w3 hw3
              obtain ⟨X, rfl⟩ := hw3
              have H3 := Lib.hid (HB3.out.trans (X.h.mono HB3.out.size))
              obtain ⟨w3, hx3⟩ := X
              clear u0 u1 u2 u3 u4 y2 x0 x1 x2 x3 x4 d2 v0 v1
              go_wp2_with fail
              exact ⟨⟨j + 1 + 1, by simp, by omega, Lib.hid (HM.out.step hkL HR.out fun i hi hl => (by
                obtain rfl : i = j := by omega
                exact HA.out)), H3⟩, by simp [intOf]; omega⟩
        · have ki : decide (k < n3) = false := decide_eq_false (by omega)
          obtain rfl : n3 = k := by omega
          have HTs := Lib.hid (show zs.all (fun z => tombB z.t) = true ∧ riseB (fun x y : TbR => tombLt x.t y.t) zs = true from So.all (by have := HM.out; rwa [HN.out.2] at this))
          have d2 : wr.cell? ⟨w.heap.size, 2, none⟩ = some (.slice ao3 n3 c3) := (H1.out.1.below HB.out H1.out.1.lt).cell 2
          go_wp2_with fail
          go_ret
          exact ⟨ret_b (by rw [HQ.out, ← HN.out.1, ← HN.out.2, HRs.out.1, HRs.out.2, show (zs.all (tombB ∘ fun x => x.t)) = zs.all (fun z => tombB z.t) from rfl, HTs.out.1, HTs.out.2, ← HQ5.out, decide_eq_true e1, decide_eq_true e3]; rfl), H1.out.2.trans (HB.out.mono H1.out.2.size)⟩
end Go.Proofs.YtljenganlknhbaaGreat.Mk

/- reliquaryref12.Tokens, Tombs, Same, walked: whether two are the same. (Layer 12.) -/
namespace Go.Proofs.YtljenganlknhbaaGreat.Mk
set_option linter.unusedVariables false
open Go.RowKit
open Classical in
/-- Whether two things are the same. -/
noncomputable def eqB {α : Type} (a b : α) : Bool := if a = b then true else false
theorem eqB_yes {α : Type} {a b : α} (h : a = b) : eqB a b = true := if_pos h
theorem eqB_no {α : Type} {a b : α} (h : a ≠ b) : eqB a b = false := if_neg h
theorem eqB_iff {α : Type} {a b : α} : eqB a b = true ↔ a = b := by
  unfold eqB
  split
  · exact ⟨fun _ => by assumption, fun _ => rfl⟩
  · exact ⟨fun h => (by cases h), fun h => absurd h (by assumption)⟩
theorem bytes_eq {a b : ByteArray} : (a.toList == b.toList) = true ↔ a = b := by
  rw [beq_iff_eq, ByteArray.toList_eq, ByteArray.toList_eq]
  constructor
  · intro h
    apply ByteArray.ext
    apply Array.ext'
    exact h
  · intro h; rw [h]
theorem eql_tok (x y : Tok) (w : World) : (binOp .eql 102 (.agg #[.int .i64 x.node, .int .i64 x.n, .string x.id]) (.agg #[.int .i64 y.node, .int .i64 y.n, .string y.id])).run Tryz.prog w = .ok (.bool (eqB x y)) w := by
  have u3 := Tryz.underlying3
  have u9 := Tryz.underlying9
  have a3 := Tryz.isAgg3
  have z3 := Tryz.sizeOf3
  have a9 := Tryz.isAgg9
  have z9 := Tryz.sizeOf9
  have hS : Tryz.prog.underlying 102 = some (.struct (Tryz.prog.fieldsOf 102)) := by kernel_rfl
  have hp : Tryz.prog.stoodInHeld 102 = false := by kernel_rfl
  have hq : (x.node == y.node && (x.n == y.n && x.id.toList == y.id.toList)) = eqB x y := by
    rw [Bool.eq_iff_iff, eqB_iff, Bool.and_eq_true, Bool.and_eq_true, beq_iff_eq, beq_iff_eq, bytes_eq]
    obtain ⟨a, b, c⟩ := x
    obtain ⟨d, e, f⟩ := y
    simp
  have HQ := Lib.hid hq
  clear hq
  rw [run_eql_struct, show (10000 : Nat) = 9999 + 1 from rfl, run_equalIn_agg w 9999 102 _ _ hS hp]
  simp only [Program.fieldsOf, Tryz.underlying102]
  go_simp
  rw [← HQ.out]
  by_cases h1 : x.node = y.node <;> by_cases h2 : x.n = y.n <;> by_cases h3 : x.id.toList = y.id.toList <;> simp [h1, h2, h3]
theorem eql_rf (x y : Rf) (w : World) : (binOp .eql 51 (.agg #[.string x.name, .string x.id, .int .i64 x.h]) (.agg #[.string y.name, .string y.id, .int .i64 y.h])).run Tryz.prog w = .ok (.bool (eqB x y)) w := by
  have u3 := Tryz.underlying3
  have u9 := Tryz.underlying9
  have a3 := Tryz.isAgg3
  have z3 := Tryz.sizeOf3
  have a9 := Tryz.isAgg9
  have z9 := Tryz.sizeOf9
  have hS : Tryz.prog.underlying 51 = some (.struct (Tryz.prog.fieldsOf 51)) := by kernel_rfl
  have hp : Tryz.prog.stoodInHeld 51 = false := by kernel_rfl
  have hq : (x.name.toList == y.name.toList && (x.id.toList == y.id.toList && x.h == y.h)) = eqB x y := by
    rw [Bool.eq_iff_iff, eqB_iff, Bool.and_eq_true, Bool.and_eq_true, bytes_eq, bytes_eq, beq_iff_eq]
    obtain ⟨a, b, c⟩ := x
    obtain ⟨d, e, f⟩ := y
    simp
  have HQ := Lib.hid hq
  clear hq
  rw [run_eql_struct, show (10000 : Nat) = 9999 + 1 from rfl, run_equalIn_agg w 9999 51 _ _ hS hp]
  simp only [Program.fieldsOf, Tryz.underlying51]
  go_simp
  rw [← HQ.out]
  by_cases h1 : x.name.toList = y.name.toList <;> by_cases h2 : x.id.toList = y.id.toList <;> by_cases h3 : x.h = y.h <;> simp [h1, h2, h3]
set_option maxRecDepth 100000 in
theorem neq_of_eql {t : TypeId} {xs ys : Array Value} {b : Bool} {w : World} (h : (binOp .eql t (.agg xs) (.agg ys)).run Tryz.prog w = .ok (.bool b) w) : (binOp .neq t (.agg xs) (.agg ys)).run Tryz.prog w = .ok (.bool (!b)) w := by
  rw [run_eql_struct] at h
  rw [run_neq_struct]
  generalize (Op.equalIn 10000 t (.agg xs) (.agg ys)).run Tryz.prog w = R at *
  cases R with
  | ok r w1 =>
    simp only [Result.andThen_ok] at h ⊢
    injection h with h1 h2
    injection h1 with h1
    rw [h1, h2]
  | halt x w1 => simp [Result.andThen] at h
set_option maxRecDepth 100000 in
set_option maxHeartbeats 4000000 in
theorem tokens_same (v v' : Value) (l m : List Tok) (w : World) (h : RowAt 3 vTok w v l) (h' : RowAt 3 vTok w v' m) (hn : l.length ≤ 1000000) (hm : m.length ≤ 1000000) : Calls Tryz.prog 112 #[v, v'] w fun e w' => e = .returned (.bool (eqB l m)) ∧ Below w.heap.size w w' := by
  obtain ⟨ao, cap, rfl, -, -, hc1⟩ := h
  obtain ⟨ao', cap', rfl, -, -, hc2⟩ := h'
  have HC := Lib.hid (And.intro hc1 hc2)
  obtain ⟨q, hq⟩ : ∃ q, q = eqB l m := ⟨_, rfl⟩
  rw [← hq]
  have HQ := Lib.hid hq
  obtain ⟨n, hnn⟩ : ∃ n, n = l.length := ⟨_, rfl⟩
  obtain ⟨n', hnn'⟩ : ∃ n, n = m.length := ⟨_, rfl⟩
  rw [← hnn] at hn ⊢
  rw [← hnn'] at hm ⊢
  have HL := Lib.hid (And.intro hnn hnn')
  clear hc1 hc2 hq hnn hnn'
  go_enter Tryz.func112, Tryz.ntmps112
  by_cases hd : n = n'
  case neg =>
    have e1 : ((n : Int) != n') = true := by simp; omega
    have e2 : (n == n') = false := by simp; omega
    have HD := Lib.hid hd
    clear hd
    go_wp2_with fail
    go_ret
    exact ⟨ret_b (by rw [HQ.out]; symm; exact eqB_no fun e => HD.out (by rw [HL.out.1, HL.out.2, e])), Below.refl _ _⟩
  subst hd
  have e1 : ((n : Int) != n) = false := by simp
  go_wp2_with fail
  go_loopw [5] (fun i wr => ∃ k : Nat, i = .int .i64 (k : Int) ∧ k ≤ n ∧ Hid (l.take k = m.take k) ∧ Hid (Below w.heap.size w wr)) (fun i _ => n - (intOf i).toNat)
  case atStart => exact ⟨0, rfl, Nat.zero_le _, Lib.hid (by simp), Lib.hid (Below.refl _ _)⟩
  case round =>
    obtain ⟨k, rfl, hkl, HM, HB⟩ := hrel
    rcases Nat.lt_or_ge k n with hlt | hge
    · have ki : (k : Int) < n := by omega
      have hk1 : k < l.length := by rw [← HL.out.1]; exact hlt
      have hk2 : k < m.length := by rw [← HL.out.2]; exact hlt
      obtain ⟨b, off, rfl, hb1, hc1⟩ := HC.out.1 (by omega)
      obtain ⟨b', off', rfl, hb2, hc2⟩ := HC.out.2 (by omega)
      obtain ⟨x, hx⟩ : ∃ x, x = l[k] := ⟨_, rfl⟩
      obtain ⟨y, hy⟩ : ∃ y, y = m[k] := ⟨_, rfl⟩
      have HXY := Lib.hid (And.intro hx hy)
      by_cases hxy : x = y
      · subst hxy
        obtain ⟨a0, a1, a2⟩ := x
        have x0 : ∀ X : LaterOf wr, X.w.cell? ⟨b, off + k * 3, none⟩ = some (.int .i64 a0) := fun X => by
          have := hc1 k hk1 0 (.int .i64 a0) (by rw [← hx]; rfl)
          rw [X.h.cell (Nat.lt_of_lt_of_le hb1 HB.out.size), HB.out.cell hb1]; simpa using this
        have x1 : ∀ X : LaterOf wr, X.w.cell? ⟨b, off + k * 3 + 1, none⟩ = some (.int .i64 a1) := fun X => by
          have := hc1 k hk1 1 (.int .i64 a1) (by rw [← hx]; rfl)
          rw [X.h.cell (Nat.lt_of_lt_of_le hb1 HB.out.size), HB.out.cell hb1]; simpa using this
        have x2 : ∀ X : LaterOf wr, X.w.cell? ⟨b, off + k * 3 + 2, none⟩ = some (.string a2) := fun X => by
          have := hc1 k hk1 2 (.string a2) (by rw [← hx]; rfl)
          rw [X.h.cell (Nat.lt_of_lt_of_le hb1 HB.out.size), HB.out.cell hb1]; simpa using this
        have y0 : ∀ X : LaterOf wr, X.w.cell? ⟨b', off' + k * 3, none⟩ = some (.int .i64 a0) := fun X => by
          have := hc2 k hk2 0 (.int .i64 a0) (by rw [← hy]; rfl)
          rw [X.h.cell (Nat.lt_of_lt_of_le hb2 HB.out.size), HB.out.cell hb2]; simpa using this
        have y1 : ∀ X : LaterOf wr, X.w.cell? ⟨b', off' + k * 3 + 1, none⟩ = some (.int .i64 a1) := fun X => by
          have := hc2 k hk2 1 (.int .i64 a1) (by rw [← hy]; rfl)
          rw [X.h.cell (Nat.lt_of_lt_of_le hb2 HB.out.size), HB.out.cell hb2]; simpa using this
        have y2 : ∀ X : LaterOf wr, X.w.cell? ⟨b', off' + k * 3 + 2, none⟩ = some (.string a2) := fun X => by
          have := hc2 k hk2 2 (.string a2) (by rw [← hy]; rfl)
          rw [X.h.cell (Nat.lt_of_lt_of_le hb2 HB.out.size), HB.out.cell hb2]; simpa using this
        clear hc1 hc2 hx hy
        go_wp2_with fail
        refine wp_region_all (fun w' => ∃ x : LaterOf wr, w' = x.w) (by kernel_rfl) (by kernel_rfl) ⟨LaterOf.start wr, rfl⟩ ?_
        repeat (go_big_quiet_step (fail))
        refine wpQuiet_nil ?_
        intro w3 hw3
        obtain ⟨X, rfl⟩ := hw3
        have H3 := Lib.hid (HB.out.trans (X.h.mono HB.out.size))
        obtain ⟨w3, hx3⟩ := X
        clear x0 x1 x2 y0 y1 y2
        go_wp2_with fail
        exact ⟨⟨k + 1, by simp, by omega, Lib.hid (by rw [take_snoc' hk1, take_snoc' hk2, HM.out, ← HXY.out.1, ← HXY.out.2]), H3⟩, by simp [intOf]; omega⟩
      · obtain ⟨a0, a1, a2⟩ := x
        obtain ⟨b0, b1, b2⟩ := y
        have x0 : ∀ X : LaterOf wr, X.w.cell? ⟨b, off + k * 3, none⟩ = some (.int .i64 a0) := fun X => by
          have := hc1 k hk1 0 (.int .i64 a0) (by rw [← hx]; rfl)
          rw [X.h.cell (Nat.lt_of_lt_of_le hb1 HB.out.size), HB.out.cell hb1]; simpa using this
        have x1 : ∀ X : LaterOf wr, X.w.cell? ⟨b, off + k * 3 + 1, none⟩ = some (.int .i64 a1) := fun X => by
          have := hc1 k hk1 1 (.int .i64 a1) (by rw [← hx]; rfl)
          rw [X.h.cell (Nat.lt_of_lt_of_le hb1 HB.out.size), HB.out.cell hb1]; simpa using this
        have x2 : ∀ X : LaterOf wr, X.w.cell? ⟨b, off + k * 3 + 2, none⟩ = some (.string a2) := fun X => by
          have := hc1 k hk1 2 (.string a2) (by rw [← hx]; rfl)
          rw [X.h.cell (Nat.lt_of_lt_of_le hb1 HB.out.size), HB.out.cell hb1]; simpa using this
        have y0 : ∀ X : LaterOf wr, X.w.cell? ⟨b', off' + k * 3, none⟩ = some (.int .i64 b0) := fun X => by
          have := hc2 k hk2 0 (.int .i64 b0) (by rw [← hy]; rfl)
          rw [X.h.cell (Nat.lt_of_lt_of_le hb2 HB.out.size), HB.out.cell hb2]; simpa using this
        have y1 : ∀ X : LaterOf wr, X.w.cell? ⟨b', off' + k * 3 + 1, none⟩ = some (.int .i64 b1) := fun X => by
          have := hc2 k hk2 1 (.int .i64 b1) (by rw [← hy]; rfl)
          rw [X.h.cell (Nat.lt_of_lt_of_le hb2 HB.out.size), HB.out.cell hb2]; simpa using this
        have y2 : ∀ X : LaterOf wr, X.w.cell? ⟨b', off' + k * 3 + 2, none⟩ = some (.string b2) := fun X => by
          have := hc2 k hk2 2 (.string b2) (by rw [← hy]; rfl)
          rw [X.h.cell (Nat.lt_of_lt_of_le hb2 HB.out.size), HB.out.cell hb2]; simpa using this
        have hne := fun w => neq_of_eql (eql_tok ⟨a0, a1, a2⟩ ⟨b0, b1, b2⟩ w)
        rw [eqB_no hxy] at hne
        have hg : Tryz.prog.eqGuardType Tryz.prog.depth 102 = false := by kernel_rfl
        dsimp only [Bool.not_false] at hne
        have HXn := Lib.hid hxy
        clear hc1 hc2 hx hy hxy
        go_wp2_with fail
        refine wp_region_all (fun w' => ∃ x : LaterOf wr, w' = x.w) (by kernel_rfl) (by kernel_rfl) ⟨LaterOf.start wr, rfl⟩ ?_
        repeat (go_big_quiet_step (fail))
        refine wpQuiet_nil ?_
        intro w3 hw3
        obtain ⟨X, rfl⟩ := hw3
        have H3 := Lib.hid (HB.out.trans (X.h.mono HB.out.size))
        obtain ⟨w3, hx3⟩ := X
        clear x0 x1 x2 y0 y1 y2
        go_wp2_with fail
        go_ret
        exact ⟨ret_b (by rw [HQ.out]; symm; exact eqB_no fun e => HXn.out (HXY.out.1.trans ((by subst e; rfl : l[k] = m[k]).trans HXY.out.2.symm))), H3.out⟩
    · have ki : decide (k < n) = false := decide_eq_false (by omega)
      obtain rfl : n = k := by omega
      go_wp2_with fail
      go_ret
      have hm := HM.out
      rw [HL.out.1, List.take_length, ← HL.out.1, HL.out.2, List.take_length] at hm
      exact ⟨ret_b (by rw [HQ.out, eqB_yes hm]), HB.out⟩
set_option maxRecDepth 100000 in
set_option maxHeartbeats 4000000 in
theorem tombs_same (x y : TbR) (w : World) (hx : x.Reads w) (hy : y.Reads w) (hnx : x.t.cov.length ≤ 1000000 ∧ x.t.acks.length ≤ 1000000) (hny : y.t.cov.length ≤ 1000000 ∧ y.t.acks.length ≤ 1000000) : Calls Tryz.prog 113 #[aTb x, aTb y] w fun e w' => e = .returned (.bool (eqB x.t y.t)) ∧ Below w.heap.size w w' := by
  obtain ⟨⟨a0, a1, a2, l1, l2⟩, v1, v2⟩ := x
  obtain ⟨⟨b0, b1, b2, l3, l4⟩, v3, v4⟩ := y
  obtain ⟨hc1, hc2⟩ := hx
  obtain ⟨hc3, hc4⟩ := hy
  dsimp only at hc1 hc2 hc3 hc4 hnx hny
  have T := Lib.hid (fun W (hW : Below w.heap.size w W) => tokens_same v1 v3 l1 l3 W (hc1.later hW) (hc3.later hW) hnx.1 hny.1)
  have HC := Lib.hid (And.intro hc2 hc4)
  obtain ⟨o1, f1, rfl, -, -⟩ := hc1.form
  obtain ⟨o2, f2, rfl, -, -⟩ := hc2.form
  obtain ⟨o3, f3, rfl, -, -⟩ := hc3.form
  obtain ⟨o4, f4, rfl, -, -⟩ := hc4.form
  obtain ⟨q, hq⟩ : ∃ q, q = eqB (Tb.mk a0 a1 a2 l1 l2) (Tb.mk b0 b1 b2 l3 l4) := ⟨_, rfl⟩
  have HQ := Lib.hid hq
  obtain ⟨qt, hqt⟩ : ∃ q, q = eqB l1 l3 := ⟨_, rfl⟩
  rw [← hqt] at T
  have HT := Lib.hid hqt
  show Calls Tryz.prog 113 #[.agg #[.int .i64 a0, .int .i64 a1, .string a2, .slice o1 l1.length f1, .slice o2 l2.length f2], .agg #[.int .i64 b0, .int .i64 b1, .string b2, .slice o3 l3.length f3, .slice o4 l4.length f4]] w fun e w' => e = .returned (.bool (eqB (Tb.mk a0 a1 a2 l1 l2) (Tb.mk b0 b1 b2 l3 l4))) ∧ Below w.heap.size w w'
  rw [← hq]
  obtain ⟨m1, hm1⟩ : ∃ m, m = l1.length := ⟨_, rfl⟩
  obtain ⟨m2, hm2⟩ : ∃ m, m = l2.length := ⟨_, rfl⟩
  obtain ⟨m3, hm3⟩ : ∃ m, m = l3.length := ⟨_, rfl⟩
  obtain ⟨m4, hm4⟩ : ∃ m, m = l4.length := ⟨_, rfl⟩
  rw [← hm1, ← hm3] at T
  rw [← hm1, ← hm2, ← hm3, ← hm4]
  rw [← hm2, ← hm4] at HC
  have hn2 : m2 ≤ 1000000 := by rw [hm2]; exact hnx.2
  have hn4 : m4 ≤ 1000000 := by rw [hm4]; exact hny.2
  have HL := Lib.hid (And.intro hm2 hm4)
  obtain ⟨W1, hW1⟩ : ∃ W1, W1 = (w.alloc (.cells #[.int .i64 a0, .int .i64 a1, .string a2, .slice o1 m1 f1, .slice o2 m2 f2] 54)).alloc (.cells #[.int .i64 b0, .int .i64 b1, .string b2, .slice o3 m3 f3, .slice o4 m4 f4] 54) := ⟨_, rfl⟩
  have hb1 : Below w.heap.size w W1 := by rw [hW1]; exact ((Below.refl _ _).alloc (Nat.le_refl _) _).alloc (by simp) _
  have k1 : BlkIs W1 w.heap.size 54 #[.int .i64 a0, .int .i64 a1, .string a2, .slice o1 m1 f1, .slice o2 m2 f2] := by rw [hW1]; exact (BlkIs.new _ _ _).alloc _
  have k2 : BlkIs W1 (w.heap.size + 1) 54 #[.int .i64 b0, .int .i64 b1, .string b2, .slice o3 m3 f3, .slice o4 m4 f4] := by rw [hW1]; exact BlkIs.new2 _ _ _ _
  have HW := Lib.hid hW1
  have H1 := Lib.hid (And.intro k1 (And.intro k2 hb1))
  have HC1 := Lib.hid (And.intro (HC.out.1.later hb1) (HC.out.2.later hb1))
  have d3 : W1.cell? ⟨w.heap.size, 3, none⟩ = some (.slice o1 m1 f1) := k1.cell 3
  have e3 : W1.cell? ⟨w.heap.size + 1, 3, none⟩ = some (.slice o3 m3 f3) := k2.cell 3
  clear hc1 hc2 hc3 hc4 hnx hny hq hqt hm1 hm2 hm3 hm4 hW1 hb1 k1 k2 HC
  go_enter Tryz.func113, Tryz.ntmps113
  by_cases g0 : a0 = b0
  case neg =>
    have z0 : (a0 != b0) = true := by simp [g0]
    have G := Lib.hid g0
    clear g0 T
    go_wp2_with fail
    rw [← HW.out]
    go_ret
    exact ⟨ret_b (by rw [HQ.out]; symm; exact eqB_no fun e => G.out (congrArg Tb.node e)), H1.out.2.2⟩
  subst g0
  have z0 : (a0 != a0) = false := by simp
  by_cases g1 : a1 = b1
  case neg =>
    have z1 : (a1 != b1) = true := by simp [g1]
    have G := Lib.hid g1
    clear g1 T
    go_wp2_with fail
    rw [← HW.out]
    go_ret
    exact ⟨ret_b (by rw [HQ.out]; symm; exact eqB_no fun e => G.out (congrArg Tb.n e)), H1.out.2.2⟩
  subst g1
  have z1 : (a1 != a1) = false := by simp
  by_cases g2 : a2 = b2
  case neg =>
    have z2 : (a2.toList == b2.toList) = false := by
      cases h : (a2.toList == b2.toList)
      · rfl
      · exact absurd (bytes_eq.1 h) g2
    have z3 : (a2.toList != b2.toList) = true := by rw [bne, z2]; rfl
    have G := Lib.hid g2
    clear g2 T
    go_wp2_with fail
    rw [← HW.out]
    go_ret
    exact ⟨ret_b (by rw [HQ.out]; symm; exact eqB_no fun e => G.out (congrArg Tb.id e)), H1.out.2.2⟩
  subst g2
  have z2 : (a2.toList == a2.toList) = true := by simp
  have z3 : (a2.toList != a2.toList) = false := by simp
  have TT := Lib.hid (T.out W1 H1.out.2.2)
  clear T
  cases qt
  case false =>
    go_wp2_with fail
    rw [← HW.out]
    refine TT.out.mono ?_
    rintro e w2 ⟨rfl, hb⟩
    have H2 := Lib.hid (H1.out.2.2.trans (hb.mono H1.out.2.2.size))
    clear TT hb d3 e3
    go_wp2_with fail
    go_ret
    exact ⟨ret_b (by rw [HQ.out]; symm; exact eqB_no fun e => by have := HT.out; rw [eqB_yes (congrArg Tb.cov e)] at this; cases this), H2.out⟩
  case true =>
  go_wp2_with fail
  rw [← HW.out]
  refine TT.out.mono ?_
  rintro e w2 ⟨rfl, hb⟩
  have HB2 := Lib.hid hb
  have kA := H1.out.1.below hb H1.out.1.lt
  have kB := H1.out.2.1.below hb H1.out.2.1.lt
  clear TT d3 e3 hb
  have d4 : w2.cell? ⟨w.heap.size, 4, none⟩ = some (.slice o2 m2 f2) := kA.cell 4
  have e4 : w2.cell? ⟨w.heap.size + 1, 4, none⟩ = some (.slice o4 m4 f4) := kB.cell 4
  clear kA kB
  by_cases g4 : m2 = m4
  case neg =>
    have z4 : ((m2 : Int) != m4) = true := by simp; omega
    have z5 : (m2 == m4) = false := by simp; omega
    have G := Lib.hid g4
    clear g4
    go_wp2_with fail
    go_ret
    exact ⟨ret_b (by rw [HQ.out]; symm; exact eqB_no fun e => G.out (by rw [HL.out.1, HL.out.2]; exact congrArg (fun t => t.acks.length) e)), H1.out.2.2.trans (HB2.out.mono H1.out.2.2.size)⟩
  subst g4
  have z4 : ((m2 : Int) != m2) = false := by simp
  go_wp2_with fail
  go_loopw [5] (fun i wr => ∃ k : Nat, i = .int .i64 (k : Int) ∧ k ≤ m2 ∧ Hid (l2.take k = l4.take k) ∧ Hid (Below W1.heap.size W1 wr)) (fun i _ => m2 - (intOf i).toNat)
  case atStart => exact ⟨0, rfl, Nat.zero_le _, Lib.hid (by simp), HB2⟩
  case round =>
    obtain ⟨k, rfl, hkl, HM, HB⟩ := hrel
    clear HB2 d4 e4
    rcases Nat.lt_or_ge k m2 with hlt | hge
    · have ki : (k : Int) < m2 := by omega
      have hk1 : k < l2.length := by rw [← HL.out.1]; exact hlt
      have hk2 : k < l4.length := by rw [← HL.out.2]; exact hlt
      obtain ⟨b, off, rfl, hb1, hc1⟩ := HC1.out.1.at_ (by omega)
      obtain ⟨b', off', rfl, hb2, hc2⟩ := HC1.out.2.at_ (by omega)
      obtain ⟨u, hu⟩ : ∃ u, u = l2[k] := ⟨_, rfl⟩
      obtain ⟨v, hv⟩ : ∃ v, v = l4[k] := ⟨_, rfl⟩
      have HXY := Lib.hid (And.intro hu hv)
      have x0 : ∀ X : LaterOf wr, X.w.cell? ⟨b, off + k, none⟩ = some (.int .i64 u) := fun X => by
        have := hc1 k hk1 0 (.int .i64 u) (by rw [← hu]; rfl)
        rw [X.h.cell (Nat.lt_of_lt_of_le hb1 HB.out.size), HB.out.cell hb1]; simpa using this
      have y0 : ∀ X : LaterOf wr, X.w.cell? ⟨b', off' + k, none⟩ = some (.int .i64 v) := fun X => by
        have := hc2 k hk2 0 (.int .i64 v) (by rw [← hv]; rfl)
        rw [X.h.cell (Nat.lt_of_lt_of_le hb2 HB.out.size), HB.out.cell hb2]; simpa using this
      have kA := H1.out.1.below HB.out H1.out.1.lt
      have kB := H1.out.2.1.below HB.out H1.out.2.1.lt
      have d4 : wr.cell? ⟨w.heap.size, 4, none⟩ = some (.slice (some ⟨b, off, none⟩) m2 f2) := kA.cell 4
      have x4 : ∀ X : LaterOf wr, X.w.cell? ⟨w.heap.size, 4, none⟩ = some (.slice (some ⟨b, off, none⟩) m2 f2) := fun X => (X.blk kA).cell 4
      have y4 : ∀ X : LaterOf wr, X.w.cell? ⟨w.heap.size + 1, 4, none⟩ = some (.slice (some ⟨b', off', none⟩) m2 f4) := fun X => (X.blk kB).cell 4
      clear hc1 hc2 hu hv kA kB
      by_cases huv : u = v
      · subst huv
        have z6 : (u != u) = false := by simp
        go_wp2_with fail
        refine wp_region_all (fun w' => ∃ x : LaterOf wr, w' = x.w) (by kernel_rfl) (by kernel_rfl) ⟨LaterOf.start wr, rfl⟩ ?_
        repeat (go_big_quiet_step (fail))
        refine wpQuiet_nil ?_
        intro w3 hw3
        obtain ⟨X, rfl⟩ := hw3
        have H3 := Lib.hid (HB.out.trans (X.h.mono HB.out.size))
        obtain ⟨w3, hx3⟩ := X
        clear x0 y0 x4 y4 d4
        go_wp2_with fail
        exact ⟨⟨k + 1, by simp, by omega, Lib.hid (by rw [take_snoc' hk1, take_snoc' hk2, HM.out, ← HXY.out.1, ← HXY.out.2]), H3⟩, by simp [intOf]; omega⟩
      · have z6 : (u != v) = true := by simp [huv]
        have HXn := Lib.hid huv
        clear huv
        go_wp2_with fail
        refine wp_region_all (fun w' => ∃ x : LaterOf wr, w' = x.w) (by kernel_rfl) (by kernel_rfl) ⟨LaterOf.start wr, rfl⟩ ?_
        repeat (go_big_quiet_step (fail))
        refine wpQuiet_nil ?_
        intro w3 hw3
        obtain ⟨X, rfl⟩ := hw3
        have H3 := Lib.hid (HB.out.trans (X.h.mono HB.out.size))
        obtain ⟨w3, hx3⟩ := X
        clear x0 y0 x4 y4 d4
        go_wp2_with fail
        go_ret
        exact ⟨ret_b (by rw [HQ.out]; symm; exact eqB_no fun e => HXn.out (HXY.out.1.trans (((by have := congrArg Tb.acks e; subst this; rfl) : l2[k] = l4[k]).trans HXY.out.2.symm))), H1.out.2.2.trans (H3.out.mono H1.out.2.2.size)⟩
    · have ki : decide (k < m2) = false := decide_eq_false (by omega)
      obtain rfl : m2 = k := by omega
      have d4 : wr.cell? ⟨w.heap.size, 4, none⟩ = some (.slice o2 m2 f2) := (H1.out.1.below HB.out H1.out.1.lt).cell 4
      go_wp2_with fail
      go_ret
      have hm := HM.out
      rw [HL.out.1, List.take_length, ← HL.out.1, HL.out.2, List.take_length] at hm
      have hc := eqB_iff.1 HT.out.symm
      exact ⟨ret_b (by rw [HQ.out, hm, hc, eqB_yes rfl]), H1.out.2.2.trans (HB.out.mono H1.out.2.2.size)⟩
end Go.Proofs.YtljenganlknhbaaGreat.Mk

/- reliquaryref12.Same, walked: whether two marks are the same. (Layer 12.) -/
namespace Go.Proofs.YtljenganlknhbaaGreat.Mk
set_option linter.unusedVariables false
open Go.RowKit
/-- No list is great. -/
def MkR.Small (m : MkR) : Prop := m.refs.length ≤ 1000000 ∧ m.toks.length ≤ 1000000 ∧ m.tombs.length ≤ 1000000 ∧ Fit m.tombs
set_option maxRecDepth 100000 in
set_option maxHeartbeats 8000000 in
theorem same_any' (a b : MkR) (w : World) (ha : a.Reads w) (hb : b.Reads w) (hna : a.Small) (hnb : b.Small) : Calls Tryz.prog 66 #[aMk a, aMk b] w fun e w' => e = .returned (.bool (eqB a.mk_ b.mk_)) ∧ Below w.heap.size w w' := by
  obtain ⟨refa, toka, za, v1, va, v2⟩ := a
  obtain ⟨refb, tokb, zb, v3, vb, v4⟩ := b
  obtain ⟨ha1, ha2, ha3, ha4⟩ := ha
  obtain ⟨hb1, hb2, hb3, hb4⟩ := hb
  obtain ⟨sa1, sa2, sa3, sa4⟩ := hna
  obtain ⟨sb1, sb2, sb3, sb4⟩ := hnb
  dsimp only at *
  have T := Lib.hid (fun W (hW : Below w.heap.size w W) => tokens_same va vb toka tokb W (ha2.later hW) (hb2.later hW) sa2 sb2)
  have HF := Lib.hid (And.intro sa4 sb4)
  obtain ⟨o1, f1, rfl, -, -⟩ := ha1.form
  obtain ⟨o2, f2, rfl, -, -⟩ := ha3.form
  obtain ⟨o3, f3, rfl, -, -⟩ := hb1.form
  obtain ⟨o4, f4, rfl, -, -⟩ := hb3.form
  obtain ⟨q, hq⟩ : ∃ q, q = eqB (Mks.mk refa toka (za.map (·.t))) (Mks.mk refb tokb (zb.map (·.t))) := ⟨_, rfl⟩
  have HQ := Lib.hid hq
  obtain ⟨qt, hqt⟩ : ∃ q, q = eqB toka tokb := ⟨_, rfl⟩
  rw [← hqt] at T
  have HT := Lib.hid hqt
  show Calls Tryz.prog 66 #[.agg #[.slice o1 refa.length f1, va, .slice o2 za.length f2], .agg #[.slice o3 refb.length f3, vb, .slice o4 zb.length f4]] w fun e w' => e = .returned (.bool (eqB (Mks.mk refa toka (za.map (·.t))) (Mks.mk refb tokb (zb.map (·.t))))) ∧ Below w.heap.size w w'
  rw [← hq]
  obtain ⟨n1, hn1⟩ : ∃ m, m = refa.length := ⟨_, rfl⟩
  obtain ⟨n2, hn2⟩ : ∃ m, m = za.length := ⟨_, rfl⟩
  obtain ⟨n3, hn3⟩ : ∃ m, m = refb.length := ⟨_, rfl⟩
  obtain ⟨n4, hn4⟩ : ∃ m, m = zb.length := ⟨_, rfl⟩
  rw [← hn1] at sa1
  rw [← hn2] at sa3
  rw [← hn3] at sb1
  rw [← hn4] at sb3
  rw [← hn1, ← hn2, ← hn3, ← hn4]
  have HL := Lib.hid (And.intro hn1 (And.intro hn2 (And.intro hn3 hn4)))
  obtain ⟨W1, hW1⟩ : ∃ W1, W1 = (w.alloc (.cells #[.slice o1 n1 f1, va, .slice o2 n2 f2] 28)).alloc (.cells #[.slice o3 n3 f3, vb, .slice o4 n4 f4] 28) := ⟨_, rfl⟩
  have hbl : Below w.heap.size w W1 := by rw [hW1]; exact ((Below.refl _ _).alloc (Nat.le_refl _) _).alloc (by simp) _
  have k1 : BlkIs W1 w.heap.size 28 #[.slice o1 n1 f1, va, .slice o2 n2 f2] := by rw [hW1]; exact (BlkIs.new _ _ _).alloc _
  have k2 : BlkIs W1 (w.heap.size + 1) 28 #[.slice o3 n3 f3, vb, .slice o4 n4 f4] := by rw [hW1]; exact BlkIs.new2 _ _ _ _
  have HW := Lib.hid hW1
  have H1 := Lib.hid (And.intro k1 (And.intro k2 hbl))
  have HC := Lib.hid (show (RowAt 3 vRf W1 (.slice o1 n1 f1) refa ∧ RowAt 5 vTb W1 (.slice o2 n2 f2) za ∧ ∀ z ∈ za, z.Reads W1) ∧ RowAt 3 vRf W1 (.slice o3 n3 f3) refb ∧ RowAt 5 vTb W1 (.slice o4 n4 f4) zb ∧ ∀ z ∈ zb, z.Reads W1 from by
    rw [hn1, hn2, hn3, hn4]; exact ⟨⟨ha1.later hbl, ha3.later hbl, fun z hz => (ha4 z hz).later hbl⟩, hb1.later hbl, hb3.later hbl, fun z hz => (hb4 z hz).later hbl⟩)
  have d0 : W1.cell? ⟨w.heap.size, 0, none⟩ = some (.slice o1 n1 f1) := (H1.out.1.below (Below.refl _ _) H1.out.1.lt).cell 0
  have e0 : W1.cell? ⟨w.heap.size + 1, 0, none⟩ = some (.slice o3 n3 f3) := (H1.out.2.1.below (Below.refl _ _) H1.out.2.1.lt).cell 0
  have d1 : W1.cell? ⟨w.heap.size, 1, none⟩ = some (va) := (H1.out.1.below (Below.refl _ _) H1.out.1.lt).cell 1
  have e1 : W1.cell? ⟨w.heap.size + 1, 1, none⟩ = some (vb) := (H1.out.2.1.below (Below.refl _ _) H1.out.2.1.lt).cell 1
  clear ha1 ha2 ha3 ha4 hb1 hb2 hb3 hb4 sa2 sb2 sa4 sb4 hq hqt hn1 hn2 hn3 hn4 hW1 hbl k1 k2
  go_enter Tryz.func66, Tryz.ntmps66
  by_cases g0 : n1 = n3
  case neg =>
    have z0 : ((n1 : Int) != n3) = true := by simp; omega
    have z1 : (n1 == n3) = false := by simp; omega
    have G := Lib.hid g0
    clear g0 T
    go_wp2_with fail
    rw [← HW.out]
    go_ret
    exact ⟨ret_b (by rw [HQ.out]; symm; exact eqB_no fun e => G.out (by rw [HL.out.1, HL.out.2.2.1]; exact congrArg (fun m => m.refs.length) e)), H1.out.2.2⟩
  subst g0
  have z0 : ((n1 : Int) != n1) = false := by simp
  have TT := Lib.hid (T.out W1 H1.out.2.2)
  clear T
  cases qt
  case false =>
    go_wp2_with fail
    rw [← HW.out]
    refine TT.out.mono ?_
    rintro e w2 ⟨rfl, hb⟩
    have H2 := Lib.hid (H1.out.2.2.trans (hb.mono H1.out.2.2.size))
    clear TT hb d0 d1 e0 e1
    go_wp2_with fail
    go_ret
    exact ⟨ret_b (by rw [HQ.out]; symm; exact eqB_no fun e => by have := HT.out; rw [eqB_yes (congrArg Mks.toks e)] at this; cases this), H2.out⟩
  case true =>
  go_wp2_with fail
  rw [← HW.out]
  refine TT.out.mono ?_
  rintro e w2 ⟨rfl, hb⟩
  have HB2 := Lib.hid hb
  clear TT d0 d1 e0 e1 hb
  have d0 : w2.cell? ⟨w.heap.size, 0, none⟩ = some (.slice o1 n1 f1) := (H1.out.1.below HB2.out H1.out.1.lt).cell 0
  have e0 : w2.cell? ⟨w.heap.size + 1, 0, none⟩ = some (.slice o3 n1 f3) := (H1.out.2.1.below HB2.out H1.out.2.1.lt).cell 0
  have d2 : w2.cell? ⟨w.heap.size, 2, none⟩ = some (.slice o2 n2 f2) := (H1.out.1.below HB2.out H1.out.1.lt).cell 2
  have e2 : w2.cell? ⟨w.heap.size + 1, 2, none⟩ = some (.slice o4 n4 f4) := (H1.out.2.1.below HB2.out H1.out.2.1.lt).cell 2
  by_cases g4 : n2 = n4
  case neg =>
    have z4 : ((n2 : Int) != n4) = true := by simp; omega
    have z5 : (n2 == n4) = false := by simp; omega
    have G := Lib.hid g4
    clear g4
    go_wp2_with fail
    go_ret
    exact ⟨ret_b (by rw [HQ.out]; symm; exact eqB_no fun e => G.out (by rw [HL.out.2.1, HL.out.2.2.2]; simpa using congrArg (fun m => m.tombs.length) e)), H1.out.2.2.trans (HB2.out.mono H1.out.2.2.size)⟩
  subst g4
  have z4 : ((n2 : Int) != n2) = false := by simp
  go_wp2_with fail
  go_loopw [5] (fun i wr => ∃ k : Nat, i = .int .i64 (k : Int) ∧ k ≤ n1 ∧ Hid (refa.take k = refb.take k) ∧ Hid (Below W1.heap.size W1 wr)) (fun i _ => n1 - (intOf i).toNat)
  case atStart => exact ⟨0, rfl, Nat.zero_le _, Lib.hid (by simp), HB2⟩
  case round =>
    obtain ⟨k, rfl, hkl, HM, HB⟩ := hrel
    clear HB2 d0 e0 d2 e2
    rcases Nat.lt_or_ge k n1 with hlt | hge
    · have ki : (k : Int) < n1 := by omega
      have hk1 : k < refa.length := by rw [← HL.out.1]; exact hlt
      have hk2 : k < refb.length := by rw [← HL.out.2.2.1]; exact hlt
      obtain ⟨b, off, rfl, hb1, hc1⟩ := HC.out.1.1.at_ (by omega)
      obtain ⟨b', off', rfl, hb2, hc2⟩ := HC.out.2.1.at_ (by omega)
      obtain ⟨x, hx⟩ : ∃ x, x = refa[k] := ⟨_, rfl⟩
      obtain ⟨y, hy⟩ : ∃ y, y = refb[k] := ⟨_, rfl⟩
      have HXY := Lib.hid (And.intro hx hy)
      have kA := H1.out.1.below HB.out H1.out.1.lt
      have kB := H1.out.2.1.below HB.out H1.out.2.1.lt
      have u0 : ∀ X : LaterOf wr, X.w.cell? ⟨w.heap.size, 0, none⟩ = some (.slice (some ⟨b, off, none⟩) n1 f1) := fun X => (X.blk kA).cell 0
      have v0 : ∀ X : LaterOf wr, X.w.cell? ⟨w.heap.size + 1, 0, none⟩ = some (.slice (some ⟨b', off', none⟩) n1 f3) := fun X => (X.blk kB).cell 0
      have d0 : wr.cell? ⟨w.heap.size, 0, none⟩ = some (.slice (some ⟨b, off, none⟩) n1 f1) := kA.cell 0
      clear kA kB
      by_cases hxy : x = y
      · subst hxy
        obtain ⟨a0, a1, a2⟩ := x
        have x0 : ∀ X : LaterOf wr, X.w.cell? ⟨b, off + k * 3, none⟩ = some (.string a0) := fun X => by
          have := hc1 k hk1 0 (.string a0) (by rw [← hx]; rfl)
          rw [X.h.cell (Nat.lt_of_lt_of_le hb1 HB.out.size), HB.out.cell hb1]; simpa using this
        have x1 : ∀ X : LaterOf wr, X.w.cell? ⟨b, off + k * 3 + 1, none⟩ = some (.string a1) := fun X => by
          have := hc1 k hk1 1 (.string a1) (by rw [← hx]; rfl)
          rw [X.h.cell (Nat.lt_of_lt_of_le hb1 HB.out.size), HB.out.cell hb1]; simpa using this
        have x2 : ∀ X : LaterOf wr, X.w.cell? ⟨b, off + k * 3 + 2, none⟩ = some (.int .i64 a2) := fun X => by
          have := hc1 k hk1 2 (.int .i64 a2) (by rw [← hx]; rfl)
          rw [X.h.cell (Nat.lt_of_lt_of_le hb1 HB.out.size), HB.out.cell hb1]; simpa using this
        have y0 : ∀ X : LaterOf wr, X.w.cell? ⟨b', off' + k * 3, none⟩ = some (.string a0) := fun X => by
          have := hc2 k hk2 0 (.string a0) (by rw [← hy]; rfl)
          rw [X.h.cell (Nat.lt_of_lt_of_le hb2 HB.out.size), HB.out.cell hb2]; simpa using this
        have y1 : ∀ X : LaterOf wr, X.w.cell? ⟨b', off' + k * 3 + 1, none⟩ = some (.string a1) := fun X => by
          have := hc2 k hk2 1 (.string a1) (by rw [← hy]; rfl)
          rw [X.h.cell (Nat.lt_of_lt_of_le hb2 HB.out.size), HB.out.cell hb2]; simpa using this
        have y2 : ∀ X : LaterOf wr, X.w.cell? ⟨b', off' + k * 3 + 2, none⟩ = some (.int .i64 a2) := fun X => by
          have := hc2 k hk2 2 (.int .i64 a2) (by rw [← hy]; rfl)
          rw [X.h.cell (Nat.lt_of_lt_of_le hb2 HB.out.size), HB.out.cell hb2]; simpa using this
        have hne := fun w => neq_of_eql (eql_rf ⟨a0, a1, a2⟩ ⟨a0, a1, a2⟩ w)
        rw [eqB_yes rfl] at hne
        have hg : Tryz.prog.eqGuardType Tryz.prog.depth 51 = false := by kernel_rfl
        dsimp only [Bool.not_true] at hne
        clear hc1 hc2 hx hy
        go_wp2_with fail
        refine wp_region_all (fun w' => ∃ x : LaterOf wr, w' = x.w) (by kernel_rfl) (by kernel_rfl) ⟨LaterOf.start wr, rfl⟩ ?_
        repeat (go_big_quiet_step (fail))
        refine wpQuiet_nil ?_
        intro w3 hw3
        obtain ⟨X, rfl⟩ := hw3
        have H3 := Lib.hid (HB.out.trans (X.h.mono HB.out.size))
        obtain ⟨w3, hx3⟩ := X
        clear x0 x1 x2 y0 y1 y2 u0 v0 d0
        go_wp2_with fail
        exact ⟨⟨k + 1, by simp, by omega, Lib.hid (by rw [take_snoc' hk1, take_snoc' hk2, HM.out, ← HXY.out.1, ← HXY.out.2]), H3⟩, by simp [intOf]; omega⟩
      · obtain ⟨a0, a1, a2⟩ := x
        obtain ⟨b0, b1, b2⟩ := y
        have x0 : ∀ X : LaterOf wr, X.w.cell? ⟨b, off + k * 3, none⟩ = some (.string a0) := fun X => by
          have := hc1 k hk1 0 (.string a0) (by rw [← hx]; rfl)
          rw [X.h.cell (Nat.lt_of_lt_of_le hb1 HB.out.size), HB.out.cell hb1]; simpa using this
        have x1 : ∀ X : LaterOf wr, X.w.cell? ⟨b, off + k * 3 + 1, none⟩ = some (.string a1) := fun X => by
          have := hc1 k hk1 1 (.string a1) (by rw [← hx]; rfl)
          rw [X.h.cell (Nat.lt_of_lt_of_le hb1 HB.out.size), HB.out.cell hb1]; simpa using this
        have x2 : ∀ X : LaterOf wr, X.w.cell? ⟨b, off + k * 3 + 2, none⟩ = some (.int .i64 a2) := fun X => by
          have := hc1 k hk1 2 (.int .i64 a2) (by rw [← hx]; rfl)
          rw [X.h.cell (Nat.lt_of_lt_of_le hb1 HB.out.size), HB.out.cell hb1]; simpa using this
        have y0 : ∀ X : LaterOf wr, X.w.cell? ⟨b', off' + k * 3, none⟩ = some (.string b0) := fun X => by
          have := hc2 k hk2 0 (.string b0) (by rw [← hy]; rfl)
          rw [X.h.cell (Nat.lt_of_lt_of_le hb2 HB.out.size), HB.out.cell hb2]; simpa using this
        have y1 : ∀ X : LaterOf wr, X.w.cell? ⟨b', off' + k * 3 + 1, none⟩ = some (.string b1) := fun X => by
          have := hc2 k hk2 1 (.string b1) (by rw [← hy]; rfl)
          rw [X.h.cell (Nat.lt_of_lt_of_le hb2 HB.out.size), HB.out.cell hb2]; simpa using this
        have y2 : ∀ X : LaterOf wr, X.w.cell? ⟨b', off' + k * 3 + 2, none⟩ = some (.int .i64 b2) := fun X => by
          have := hc2 k hk2 2 (.int .i64 b2) (by rw [← hy]; rfl)
          rw [X.h.cell (Nat.lt_of_lt_of_le hb2 HB.out.size), HB.out.cell hb2]; simpa using this
        have hne := fun w => neq_of_eql (eql_rf ⟨a0, a1, a2⟩ ⟨b0, b1, b2⟩ w)
        rw [eqB_no hxy] at hne
        have hg : Tryz.prog.eqGuardType Tryz.prog.depth 51 = false := by kernel_rfl
        dsimp only [Bool.not_false] at hne
        have HXn := Lib.hid hxy
        clear hc1 hc2 hx hy hxy
        go_wp2_with fail
        refine wp_region_all (fun w' => ∃ x : LaterOf wr, w' = x.w) (by kernel_rfl) (by kernel_rfl) ⟨LaterOf.start wr, rfl⟩ ?_
        repeat (go_big_quiet_step (fail))
        refine wpQuiet_nil ?_
        intro w3 hw3
        obtain ⟨X, rfl⟩ := hw3
        have H3 := Lib.hid (HB.out.trans (X.h.mono HB.out.size))
        obtain ⟨w3, hx3⟩ := X
        clear x0 x1 x2 y0 y1 y2 u0 v0 d0
        go_wp2_with fail
        go_ret
        exact ⟨ret_b (by rw [HQ.out]; symm; exact eqB_no fun e => HXn.out (HXY.out.1.trans ((by have := congrArg Mks.refs e; dsimp only at this; subst this; rfl : refa[k] = refb[k]).trans HXY.out.2.symm))), H1.out.2.2.trans (H3.out.mono H1.out.2.2.size)⟩
    · have ki : decide (k < n1) = false := decide_eq_false (by omega)
      obtain rfl : n1 = k := by omega
      have HRf := Lib.hid (show refa = refb by have hm := HM.out; rw [HL.out.1, List.take_length, ← HL.out.1, HL.out.2.2.1, List.take_length] at hm; exact hm)
      have d0 : wr.cell? ⟨w.heap.size, 0, none⟩ = some (.slice o1 n1 f1) := (H1.out.1.below HB.out H1.out.1.lt).cell 0
      have e0 : wr.cell? ⟨w.heap.size + 1, 0, none⟩ = some (.slice o3 n1 f3) := (H1.out.2.1.below HB.out H1.out.2.1.lt).cell 0
      have d2 : wr.cell? ⟨w.heap.size, 2, none⟩ = some (.slice o2 n2 f2) := (H1.out.1.below HB.out H1.out.1.lt).cell 2
      have e2 : wr.cell? ⟨w.heap.size + 1, 2, none⟩ = some (.slice o4 n2 f4) := (H1.out.2.1.below HB.out H1.out.2.1.lt).cell 2
      go_wp2_with fail
      obtain ⟨Wa, hWa⟩ : ∃ Wa, Wa = wr := ⟨_, rfl⟩
      subst hWa
      have HBa := HB
      clear d0 e0 d2 e2 HM HB
      go_loopw [6] (fun i wr => ∃ k : Nat, i = .int .i64 (k : Int) ∧ k ≤ n2 ∧ Hid ((za.map (·.t)).take k = (zb.map (·.t)).take k) ∧ Hid (Below W1.heap.size W1 wr)) (fun i _ => n2 - (intOf i).toNat)
      case atStart => exact ⟨0, rfl, Nat.zero_le _, Lib.hid (by simp), HBa⟩
      case round =>
        obtain ⟨k, rfl, hkl, HM, HB⟩ := hrel
        clear HBa
        rcases Nat.lt_or_ge k n2 with hlt | hge
        · have ki : (k : Int) < n2 := by omega
          have hk1 : k < za.length := by rw [← HL.out.2.1]; exact hlt
          have hk2 : k < zb.length := by rw [← HL.out.2.2.2]; exact hlt
          obtain ⟨b, off, rfl, hb1, hc1⟩ := HC.out.1.2.1.at_ (by omega)
          obtain ⟨b', off', rfl, hb2, hc2⟩ := HC.out.2.2.1.at_ (by omega)
          obtain ⟨x, hx⟩ : ∃ x, x = za[k] := ⟨_, rfl⟩
          obtain ⟨y, hy⟩ : ∃ y, y = zb[k] := ⟨_, rfl⟩
          have hxm : x ∈ za := by rw [hx]; exact List.getElem_mem hk1
          have hym : y ∈ zb := by rw [hy]; exact List.getElem_mem hk2
          have HXY := Lib.hid (show (za.map (·.t))[k]'(by simpa using hk1) = x.t ∧ (zb.map (·.t))[k]'(by simpa using hk2) = y.t by rw [hx, hy]; simp)
          have TT := fun (X : LaterOf wr) => tombs_same x y X.w ((HC.out.1.2.2 x hxm).later (HB.out.trans (X.h.mono HB.out.size))) ((HC.out.2.2.2 y hym).later (HB.out.trans (X.h.mono HB.out.size))) ⟨(HF.out.1 x hxm).2, (HF.out.1 x hxm).1⟩ ⟨(HF.out.2 y hym).2, (HF.out.2 y hym).1⟩
          obtain ⟨qq, hqq⟩ : ∃ q, q = eqB x.t y.t := ⟨_, rfl⟩
          rw [← hqq] at TT
          have HQQ := Lib.hid hqq
          obtain ⟨p1, g1, hv1, -, -⟩ := (HC.out.1.2.2 x hxm).1.form
          obtain ⟨p2, g2, hv2, -, -⟩ := (HC.out.1.2.2 x hxm).2.form
          obtain ⟨p3, g3, hv3, -, -⟩ := (HC.out.2.2.2 y hym).1.form
          obtain ⟨p4, g4, hv4, -, -⟩ := (HC.out.2.2.2 y hym).2.form
          obtain ⟨m1, hm1⟩ : ∃ m, m = x.t.cov.length := ⟨_, rfl⟩
          obtain ⟨m2, hm2⟩ : ∃ m, m = x.t.acks.length := ⟨_, rfl⟩
          obtain ⟨m3, hm3⟩ : ∃ m, m = y.t.cov.length := ⟨_, rfl⟩
          obtain ⟨m4, hm4⟩ : ∃ m, m = y.t.acks.length := ⟨_, rfl⟩
          rw [← hm1] at hv1
          rw [← hm2] at hv2
          rw [← hm3] at hv3
          rw [← hm4] at hv4
          clear hm1 hm2 hm3 hm4 hqq
          obtain ⟨⟨a0, a1, a2, a5, a6⟩, a3, a4⟩ := x
          obtain ⟨⟨b0, b1, b2, b5, b6⟩, b3, b4⟩ := y
          dsimp only at hv1 hv2 hv3 hv4
          subst hv1 hv2 hv3 hv4
          have T := Lib.hid (show ∀ X : LaterOf wr, Calls Tryz.prog 113 #[.agg #[.int .i64 a0, .int .i64 a1, .string a2, .slice p1 m1 g1, .slice p2 m2 g2], .agg #[.int .i64 b0, .int .i64 b1, .string b2, .slice p3 m3 g3, .slice p4 m4 g4]] X.w fun e w' => e = .returned (.bool qq) ∧ Below X.w.heap.size X.w w' from TT)
          have x0 : ∀ X : LaterOf wr, X.w.cell? ⟨b, off + k * 5, none⟩ = some (.int .i64 a0) := fun X => by
            have := hc1 k hk1 0 (.int .i64 a0) (by rw [← hx]; rfl)
            rw [X.h.cell (Nat.lt_of_lt_of_le hb1 HB.out.size), HB.out.cell hb1]; simpa using this
          have x1 : ∀ X : LaterOf wr, X.w.cell? ⟨b, off + k * 5 + 1, none⟩ = some (.int .i64 a1) := fun X => by
            have := hc1 k hk1 1 (.int .i64 a1) (by rw [← hx]; rfl)
            rw [X.h.cell (Nat.lt_of_lt_of_le hb1 HB.out.size), HB.out.cell hb1]; simpa using this
          have x2 : ∀ X : LaterOf wr, X.w.cell? ⟨b, off + k * 5 + 2, none⟩ = some (.string a2) := fun X => by
            have := hc1 k hk1 2 (.string a2) (by rw [← hx]; rfl)
            rw [X.h.cell (Nat.lt_of_lt_of_le hb1 HB.out.size), HB.out.cell hb1]; simpa using this
          have x3 : ∀ X : LaterOf wr, X.w.cell? ⟨b, off + k * 5 + 3, none⟩ = some (.slice p1 m1 g1) := fun X => by
            have := hc1 k hk1 3 (.slice p1 m1 g1) (by rw [← hx]; rfl)
            rw [X.h.cell (Nat.lt_of_lt_of_le hb1 HB.out.size), HB.out.cell hb1]; simpa using this
          have x4 : ∀ X : LaterOf wr, X.w.cell? ⟨b, off + k * 5 + 4, none⟩ = some (.slice p2 m2 g2) := fun X => by
            have := hc1 k hk1 4 (.slice p2 m2 g2) (by rw [← hx]; rfl)
            rw [X.h.cell (Nat.lt_of_lt_of_le hb1 HB.out.size), HB.out.cell hb1]; simpa using this
          have y0 : ∀ X : LaterOf wr, X.w.cell? ⟨b', off' + k * 5, none⟩ = some (.int .i64 b0) := fun X => by
            have := hc2 k hk2 0 (.int .i64 b0) (by rw [← hy]; rfl)
            rw [X.h.cell (Nat.lt_of_lt_of_le hb2 HB.out.size), HB.out.cell hb2]; simpa using this
          have y1 : ∀ X : LaterOf wr, X.w.cell? ⟨b', off' + k * 5 + 1, none⟩ = some (.int .i64 b1) := fun X => by
            have := hc2 k hk2 1 (.int .i64 b1) (by rw [← hy]; rfl)
            rw [X.h.cell (Nat.lt_of_lt_of_le hb2 HB.out.size), HB.out.cell hb2]; simpa using this
          have y2 : ∀ X : LaterOf wr, X.w.cell? ⟨b', off' + k * 5 + 2, none⟩ = some (.string b2) := fun X => by
            have := hc2 k hk2 2 (.string b2) (by rw [← hy]; rfl)
            rw [X.h.cell (Nat.lt_of_lt_of_le hb2 HB.out.size), HB.out.cell hb2]; simpa using this
          have y3 : ∀ X : LaterOf wr, X.w.cell? ⟨b', off' + k * 5 + 3, none⟩ = some (.slice p3 m3 g3) := fun X => by
            have := hc2 k hk2 3 (.slice p3 m3 g3) (by rw [← hy]; rfl)
            rw [X.h.cell (Nat.lt_of_lt_of_le hb2 HB.out.size), HB.out.cell hb2]; simpa using this
          have y4 : ∀ X : LaterOf wr, X.w.cell? ⟨b', off' + k * 5 + 4, none⟩ = some (.slice p4 m4 g4) := fun X => by
            have := hc2 k hk2 4 (.slice p4 m4 g4) (by rw [← hy]; rfl)
            rw [X.h.cell (Nat.lt_of_lt_of_le hb2 HB.out.size), HB.out.cell hb2]; simpa using this
          have kA := H1.out.1.below HB.out H1.out.1.lt
          have kB := H1.out.2.1.below HB.out H1.out.2.1.lt
          have u2 : ∀ X : LaterOf wr, X.w.cell? ⟨w.heap.size, 2, none⟩ = some (.slice (some ⟨b, off, none⟩) n2 f2) := fun X => (X.blk kA).cell 2
          have v2 : ∀ X : LaterOf wr, X.w.cell? ⟨w.heap.size + 1, 2, none⟩ = some (.slice (some ⟨b', off', none⟩) n2 f4) := fun X => (X.blk kB).cell 2
          have d2 : wr.cell? ⟨w.heap.size, 2, none⟩ = some (.slice (some ⟨b, off, none⟩) n2 f2) := kA.cell 2
          clear kA kB
          clear hc1 hc2 hx hy hxm hym TT
          cases qq
          · skip
            go_wp2_with fail
            refine wp_region_all (fun w' => ∃ x : LaterOf wr, w' = x.w) (by kernel_rfl) (by kernel_rfl) ⟨LaterOf.start wr, rfl⟩ ?_
            repeat (go_big_quiet_step (with_reducible exact LaterOf.call _ (T.out _)))
            refine wpQuiet_nil ?_
            intro w3 hw3
            obtain ⟨X, rfl⟩ := hw3
            have H3 := Lib.hid (HB.out.trans (X.h.mono HB.out.size))
            obtain ⟨w3, hx3⟩ := X
            clear x0 x1 x2 x3 x4 y0 y1 y2 y3 y4 u2 v2 d2
            go_wp2_with fail
            go_ret
            refine ⟨ret_b ?_, H1.out.2.2.trans (H3.out.mono H1.out.2.2.size)⟩
            rw [HQ.out]
            symm
            refine eqB_no fun e => ?_
            have h1 := congrArg Mks.tombs e
            dsimp only at h1
            have h2 : (za.map (·.t))[k]'(by simpa using hk1) = (zb.map (·.t))[k]'(by simpa using hk2) := by simp only [h1]
            rw [HXY.out.1, HXY.out.2] at h2
            have := HQQ.out
            rw [eqB_yes h2] at this
            cases this
          · skip
            go_wp2_with fail
            refine wp_region_all (fun w' => ∃ x : LaterOf wr, w' = x.w) (by kernel_rfl) (by kernel_rfl) ⟨LaterOf.start wr, rfl⟩ ?_
            repeat (go_big_quiet_step (with_reducible exact LaterOf.call _ (T.out _)))
            refine wpQuiet_nil ?_
            intro w3 hw3
            obtain ⟨X, rfl⟩ := hw3
            have H3 := Lib.hid (HB.out.trans (X.h.mono HB.out.size))
            obtain ⟨w3, hx3⟩ := X
            clear x0 x1 x2 x3 x4 y0 y1 y2 y3 y4 u2 v2 d2
            go_wp2_with fail
            exact ⟨⟨k + 1, by simp, by omega, Lib.hid (by rw [take_snoc' (by simpa using hk1), take_snoc' (by simpa using hk2), HM.out, HXY.out.1, HXY.out.2, eqB_iff.1 HQQ.out.symm]), H3⟩, by simp [intOf]; omega⟩
        · have ki : decide (k < n2) = false := decide_eq_false (by omega)
          obtain rfl : n2 = k := by omega
          have d2 : wr.cell? ⟨w.heap.size, 2, none⟩ = some (.slice o2 n2 f2) := (H1.out.1.below HB.out H1.out.1.lt).cell 2
          have e2 : wr.cell? ⟨w.heap.size + 1, 2, none⟩ = some (.slice o4 n2 f4) := (H1.out.2.1.below HB.out H1.out.2.1.lt).cell 2
          go_wp2_with fail
          go_ret
          have hm := HM.out
          rw [List.take_of_length_le (by simp; have := HL.out.2.1; omega), List.take_of_length_le (by simp; have := HL.out.2.2.2; omega)] at hm
          have hc := eqB_iff.1 HT.out.symm
          exact ⟨ret_b (by rw [HQ.out, hm, hc, HRf.out, eqB_yes rfl]), H1.out.2.2.trans (HB.out.mono H1.out.2.2.size)⟩
end Go.Proofs.YtljenganlknhbaaGreat.Mk

