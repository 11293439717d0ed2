/- reliquaryref12.Good, walked: the same as the program's own. (Layer 12.) -/
import Derived.Test.YtljenganlknhbaaGreatPkG
import Derived.Test.YtljenganlknhbaaGreatPkF
import Derived.WalkLawsBesides
namespace Go.Proofs.YtljenganlknhbaaGreat.Mk
set_option linter.unusedVariables false
open Go.RowKit
/-- So far each is right, and they rise. -/
def So {α : Type} (p : α → Bool) (r : α → α → Bool) (l : List α) (k : Nat) : Prop := (∀ x ∈ l.take k, p x = true) ∧ ∀ i, i + 1 < k → ∀ (h : i + 1 < l.length), r l[i] l[i + 1] = true
theorem So.start {α : Type} (p : α → Bool) (r : α → α → Bool) (l : List α) : So p r l 0 := ⟨fun x hx => by simp at hx, fun i hi => absurd hi (Nat.not_lt_zero _)⟩
theorem So.step {α : Type} {p : α → Bool} {r : α → α → Bool} {l : List α} {k : Nat} (h : So p r l k) (hk : k < l.length) (h1 : p l[k] = true) (h2 : ∀ i, i + 1 = k → ∀ (h : i + 1 < l.length), r l[i] l[i + 1] = true) : So p r l (k + 1) := by
  refine ⟨fun x hx => ?_, fun i hi hl => ?_⟩
  · rw [take_snoc' hk] at hx
    rcases List.mem_append.1 hx with hx | hx
    · exact h.1 x hx
    · rcases List.mem_singleton.1 hx with rfl; exact h1
  · rcases Nat.lt_or_ge (i + 1) k with hlt | hge
    · exact h.2 i hlt hl
    · exact h2 i (by omega) hl
theorem So.all {α : Type} {p : α → Bool} {r : α → α → Bool} {l : List α} (h : So p r l l.length) : l.all p = true ∧ riseB r l = true := by
  rw [List.all_eq_true, riseB_iff]
  exact ⟨fun x hx => h.1 x (by rw [List.take_length]; exact hx), fun i hi => h.2 i hi hi⟩
theorem all_no {α : Type} {p : α → Bool} {l : List α} {k : Nat} (hk : k < l.length) (h : p l[k] = false) : l.all p = false := by
  rw [List.all_eq_false]; exact ⟨l[k], List.getElem_mem hk, by simp [h]⟩
theorem rise_no {α : Type} {r : α → α → Bool} {l : List α} {k : Nat} (hk : k + 1 < l.length) (h : r l[k] l[k + 1] = false) : riseB r l = false := by
  cases hr : riseB r l
  · rfl
  · have := (riseB_iff _ _).1 hr k hk
    rw [h] at this; cases this
set_option maxRecDepth 100000 in
set_option maxHeartbeats 8000000 in
theorem rgood_any (m : MkR) (w : World) (h : m.Reads w) (hf : Fit m.tombs) (hl : m.toks.length ≤ 1000000) : Calls Tryz.prog 39 #[aMk m] w fun e w' => e = .returned (.bool (goodB m.mk_)) ∧ Below w.heap.size w w' := by
  obtain ⟨refs, toks, zs, rv, kv, bv⟩ := m
  obtain ⟨h1, h2, h3, h4⟩ := h
  dsimp only at h1 h2 h3 h4 hf hl
  have hQ0 : goodB ⟨refs, toks, zs.map (·.t)⟩ = ((decide (refs.length ≤ 64) && refs.all refB && riseB nameLt refs) && (decide ((zs.map (·.t)).length ≤ 64) && (zs.map (·.t)).all tombB && riseB tombLt (zs.map (·.t))) && tokensB toks) := rfl
  rw [List.length_map, List.all_map, ← riseB_map] at hQ0
  obtain ⟨Q, hQ⟩ : ∃ Q, Q = goodB ⟨refs, toks, zs.map (·.t)⟩ := ⟨_, rfl⟩
  have HQ := Lib.hid (hQ.trans hQ0)
  have H := Lib.hid (And.intro h1 (And.intro h2 (And.intro h3 h4)))
  have HF := Lib.hid hf
  have A5 := Lib.hid (fun W (hW : Below w.heap.size w W) => rtokens_any kv toks W (H.out.2.1.later hW) hl)
  obtain ⟨ao1, c1, rfl, hc1, -⟩ := h1.form
  obtain ⟨ao3, c3, rfl, hc3, -⟩ := h3.form
  obtain ⟨q5, hq5⟩ : ∃ q, q = tokensB toks := ⟨_, rfl⟩
  rw [← hq5] at A5
  have HQ5 := Lib.hid hq5
  show Calls Tryz.prog 39 #[.agg #[.slice ao1 refs.length c1, kv, .slice ao3 zs.length c3]] w fun e w' => e = .returned (.bool (goodB ⟨refs, toks, zs.map (·.t)⟩)) ∧ Below w.heap.size w w'
  rw [← hQ]
  obtain ⟨n1, hn1⟩ : ∃ n, n = refs.length := ⟨_, rfl⟩
  obtain ⟨n3, hn3⟩ : ∃ n, n = zs.length := ⟨_, rfl⟩
  rw [← hn1, ← hn3]
  have HN := Lib.hid (And.intro hn1 hn3)
  obtain ⟨W1, hW1⟩ : ∃ W1, W1 = w.alloc (.cells #[.slice ao1 n1 c1, kv, .slice ao3 n3 c3] 28) := ⟨_, rfl⟩
  have hb1 : Below w.heap.size w W1 := by rw [hW1]; exact (Below.refl _ _).alloc (Nat.le_refl _) _
  have k1 : BlkIs W1 w.heap.size 28 #[.slice ao1 n1 c1, kv, .slice ao3 n3 c3] := by rw [hW1]; exact BlkIs.new _ _ _
  have HW := Lib.hid hW1
  have H1 := Lib.hid (And.intro k1 hb1)
  have HC := Lib.hid (show RowAt 3 vRf W1 (.slice ao1 n1 c1) refs ∧ RowAt 5 vTb W1 (.slice ao3 n3 c3) zs ∧ ∀ z ∈ zs, z.Reads W1 from by rw [hn1, hn3]; exact ⟨H.out.1.later hb1, H.out.2.2.1.later hb1, fun z hz => (H.out.2.2.2 z hz).later hb1⟩)
  have d0 : W1.cell? ⟨w.heap.size, 0, none⟩ = some (.slice ao1 n1 c1) := k1.cell 0
  have d1 : W1.cell? ⟨w.heap.size, 1, none⟩ = some kv := k1.cell 1
  have d2 : W1.cell? ⟨w.heap.size, 2, none⟩ = some (.slice ao3 n3 c3) := k1.cell 2
  clear h1 h2 h3 h4 hf hl hQ hQ0 hq5 hn1 hn3 hc1 hc3 H hW1 hb1 k1
  go_enter Tryz.func39, Tryz.ntmps39
  by_cases e1 : n1 ≤ 64
  case neg =>
    have r1 : (64 : Int) < n1 := by omega
    go_wp2_with fail
    rw [← HW.out]
    go_ret
    exact ⟨ret_b (by rw [HQ.out, ← HN.out.1, decide_eq_false e1]; simp), H1.out.2⟩
  by_cases e3 : n3 ≤ 64
  case neg =>
    have r1 : decide ((64 : Int) < n1) = false := decide_eq_false (by omega)
    have r2 : (64 : Int) < n3 := by omega
    go_wp2_with fail
    rw [← HW.out]
    go_ret
    exact ⟨ret_b (by rw [HQ.out, ← HN.out.2, decide_eq_false e3]; simp), H1.out.2⟩
  have r1 : decide ((64 : Int) < n1) = false := decide_eq_false (by omega)
  have r2 : decide ((64 : Int) < n3) = false := decide_eq_false (by omega)
  have T := Lib.hid (A5.out W1 H1.out.2)
  clear A5
  cases q5
  case false =>
    go_wp2_with fail
    rw [← HW.out]
    refine T.out.mono ?_
    rintro e w2 ⟨rfl, hb⟩
    have H2 := Lib.hid (H1.out.2.trans (hb.mono H1.out.2.size))
    clear T hb
    go_wp2_with fail
    go_ret
    exact ⟨ret_b (by rw [HQ.out, ← HQ5.out]; simp), H2.out⟩
  case true =>
  go_wp2_with fail
  rw [← HW.out]
  refine T.out.mono ?_
  rintro e w2 ⟨rfl, hb⟩
  have HB2 := Lib.hid hb
  clear T hb d0 d1 d2 r1 r2
  go_wp2_with fail
  go_loopw [3] (fun i wr => ∃ k : Nat, i = .int .i64 (k : Int) ∧ k ≤ n1 ∧ Hid (So refB nameLt refs k) ∧ Hid (Below W1.heap.size W1 wr)) (fun i _ => n1 - (intOf i).toNat)
  case atStart => exact ⟨0, rfl, Nat.zero_le _, Lib.hid (So.start _ _ _), HB2⟩
  case round =>
    obtain ⟨k, rfl, hkl, HM, HB⟩ := hrel
    clear HB2
    rcases Nat.lt_or_ge k n1 with hlt | hge
    · have ki : (k : Int) < n1 := by omega
      have hkL : k < refs.length := by rw [← HN.out.1]; exact hlt
      obtain ⟨b, off, rfl, hblt, hc⟩ := HC.out.1.at_ (by omega)
      obtain ⟨x, hx⟩ : ∃ x, x = refs[k] := ⟨_, rfl⟩
      have HR := Lib.hid (show refB refs[k] = (Path.nameOk x.name && decide (x.id.size = 32 ∧ 0 ≤ x.h ∧ x.h ≤ 1073741824)) by rw [← hx]; rfl)
      have HXn := Lib.hid (show refs[k].name = x.name by rw [hx])
      obtain ⟨a0, a1, a2⟩ := x
      dsimp only at HR HXn
      have x0 : wr.cell? ⟨b, off + k * 3, none⟩ = some (.string a0) := by
        have := hc k hkL 0 (.string a0) (by rw [← hx]; rfl)
        rw [HB.out.cell hblt]; simpa using this
      have x1 : wr.cell? ⟨b, off + k * 3 + 1, none⟩ = some (.string a1) := by
        have := hc k hkL 1 (.string a1) (by rw [← hx]; rfl)
        rw [HB.out.cell hblt]; simpa using this
      have x2 : wr.cell? ⟨b, off + k * 3 + 2, none⟩ = some (.int .i64 a2) := by
        have := hc k hkL 2 (.int .i64 a2) (by rw [← hx]; rfl)
        rw [HB.out.cell hblt]; simpa using this
      obtain ⟨W3, hW3⟩ : ∃ W3, W3 = wr.alloc (.cells #[.string a0, .string a1, .int .i64 a2] 51) := ⟨_, rfl⟩
      have hb3 : Below wr.heap.size wr W3 := by rw [hW3]; exact (Below.refl _ _).alloc (Nat.le_refl _) _
      have k3 : BlkIs W3 wr.heap.size 51 #[.string a0, .string a1, .int .i64 a2] := by rw [hW3]; exact BlkIs.new _ _ _
      have HX3 := Lib.hid (show BlkIs W3 w.heap.size 28 #[.slice (some ⟨b, off, none⟩) n1 c1, kv, .slice ao3 n3 c3] ∧ Below W1.heap.size W1 W3 from ⟨(H1.out.1.below HB.out H1.out.1.lt).below hb3 (H1.out.1.below HB.out H1.out.1.lt).lt, HB.out.trans (hb3.mono HB.out.size)⟩)
      have HB3 := Lib.hid HX3.out.2
      have u0 : ∀ X : LaterOf W3, X.w.cell? ⟨wr.heap.size, 0, none⟩ = some (.string a0) := fun X => (X.blk k3).cell 0
      have u1 : ∀ X : LaterOf W3, X.w.cell? ⟨wr.heap.size, 1, none⟩ = some (.string a1) := fun X => (X.blk k3).cell 1
      have u2 : ∀ X : LaterOf W3, X.w.cell? ⟨wr.heap.size, 2, none⟩ = some (.int .i64 a2) := fun X => (X.blk k3).cell 2
      have y0 : ∀ X : LaterOf W3, X.w.cell? ⟨w.heap.size, 0, none⟩ = some (.slice (some ⟨b, off, none⟩) n1 c1) := fun X => (X.blk HX3.out.1).cell 0
      have d0 : wr.cell? ⟨w.heap.size, 0, none⟩ = some (.slice (some ⟨b, off, none⟩) n1 c1) := (H1.out.1.below HB.out H1.out.1.lt).cell 0
      have P := Path.ref_good a0
      obtain ⟨p, hp⟩ : ∃ p, p = Path.nameOk a0 := ⟨_, rfl⟩
      rw [← hp] at P HR
      have P := Lib.hid P
      have HW3 := Lib.hid hW3
      have hwk : IntKind.i64.wrap (k : Int) = (k : Int) := IntWalk.i64_in _ (by omega)
      have HC2 := Lib.hid hc
      clear hb3 k3 hp hc
      cases p
      case false =>
        clear hx
        have hno : refB refs[k] = false := by rw [HR.out]; rfl
        have HNo := Lib.hid (all_no (p := refB) hkL hno)
        clear hno
        go_wp2_with fail
        rw [← HW3.out]
        clear hW3
        refine wp_region_all (fun w' => ∃ x : LaterOf W3, w' = x.w) (by kernel_rfl) (by kernel_rfl) ⟨LaterOf.start W3, rfl⟩ ?_
        repeat (go_big_quiet_step (with_reducible exact LaterOf.call_same _ (P.out _)))
        refine wpQuiet_nil ?_
        intro w3 hw3
        obtain ⟨X, rfl⟩ := hw3
        have H3 := Lib.hid (HB3.out.trans (X.h.mono HB3.out.size))
        obtain ⟨w3, hx3⟩ := X
        clear u0 u1 u2 y0 x0 x1 x2 d0
        go_wp2_with fail
        go_ret
        exact ⟨ret_b (by rw [HQ.out, HNo.out]; simp), H1.out.2.trans (H3.out.mono H1.out.2.size)⟩
      case true =>
      have g0 : (a1.size = 32) ∨ ¬ (a1.size = 32) := by omega
      rcases g0 with g0 | g0
      rotate_left
      · have hno : refB refs[k] = false := by rw [HR.out, Bool.true_and]; exact decide_eq_false (by omega)
        have HNo := Lib.hid (all_no (p := refB) hkL hno)
        have e5 : ((a1.size : Int) != 32) = true := by simp; omega
        have e6 : ((a1.size : Int) == 32) = false := by simp; omega
        clear hno hx g0
        go_wp2_with fail
        rw [← HW3.out]
        clear hW3
        refine wp_region_all (fun w' => ∃ x : LaterOf W3, w' = x.w) (by kernel_rfl) (by kernel_rfl) ⟨LaterOf.start W3, rfl⟩ ?_
        repeat (go_big_quiet_step (with_reducible exact LaterOf.call_same _ (P.out _)))
        refine wpQuiet_nil ?_
        intro w3 hw3
        obtain ⟨X, rfl⟩ := hw3
        have H3 := Lib.hid (HB3.out.trans (X.h.mono HB3.out.size))
        obtain ⟨w3, hx3⟩ := X
        clear u0 u1 u2 y0 x0 x1 x2 d0
        go_wp2_with fail
        go_ret
        exact ⟨ret_b (by rw [HQ.out, HNo.out]; simp), H1.out.2.trans (H3.out.mono H1.out.2.size)⟩
      have e5 : ((a1.size : Int) != 32) = false := by simp; omega
      have e6 : ((a1.size : Int) == 32) = true := by simp; omega
      rcases Int.lt_or_le a2 0 with g1 | g1
      · have hno : refB refs[k] = false := by rw [HR.out, Bool.true_and]; exact decide_eq_false (by omega)
        have HNo := Lib.hid (all_no (p := refB) hkL hno)
        have e7 : decide (a2 < 0) = true := decide_eq_true g1
        clear hno hx g0 g1
        go_wp2_with fail
        rw [← HW3.out]
        clear hW3
        refine wp_region_all (fun w' => ∃ x : LaterOf W3, w' = x.w) (by kernel_rfl) (by kernel_rfl) ⟨LaterOf.start W3, rfl⟩ ?_
        repeat (go_big_quiet_step (with_reducible exact LaterOf.call_same _ (P.out _)))
        refine wpQuiet_nil ?_
        intro w3 hw3
        obtain ⟨X, rfl⟩ := hw3
        have H3 := Lib.hid (HB3.out.trans (X.h.mono HB3.out.size))
        obtain ⟨w3, hx3⟩ := X
        clear u0 u1 u2 y0 x0 x1 x2 d0
        go_wp2_with fail
        go_ret
        exact ⟨ret_b (by rw [HQ.out, HNo.out]; simp), H1.out.2.trans (H3.out.mono H1.out.2.size)⟩
      have e7 : decide (a2 < 0) = false := decide_eq_false (by omega)
      rcases Int.lt_or_le 1073741824 a2 with g2 | g2
      · have hno : refB refs[k] = false := by rw [HR.out, Bool.true_and]; exact decide_eq_false (by omega)
        have HNo := Lib.hid (all_no (p := refB) hkL hno)
        have e8 : decide (1073741824 < a2) = true := decide_eq_true g2
        clear hno hx g0 g1 g2
        go_wp2_with fail
        rw [← HW3.out]
        clear hW3
        refine wp_region_all (fun w' => ∃ x : LaterOf W3, w' = x.w) (by kernel_rfl) (by kernel_rfl) ⟨LaterOf.start W3, rfl⟩ ?_
        repeat (go_big_quiet_step (with_reducible exact LaterOf.call_same _ (P.out _)))
        refine wpQuiet_nil ?_
        intro w3 hw3
        obtain ⟨X, rfl⟩ := hw3
        have H3 := Lib.hid (HB3.out.trans (X.h.mono HB3.out.size))
        obtain ⟨w3, hx3⟩ := X
        clear u0 u1 u2 y0 x0 x1 x2 d0
        go_wp2_with fail
        go_ret
        exact ⟨ret_b (by rw [HQ.out, HNo.out]; simp), H1.out.2.trans (H3.out.mono H1.out.2.size)⟩
      have e8 : decide (1073741824 < a2) = false := decide_eq_false (by omega)
      have HYe := Lib.hid (show refB refs[k] = true by rw [HR.out, Bool.true_and]; exact decide_eq_true ⟨g0, g1, g2⟩)
      clear g0 g1 g2
      rcases Nat.eq_zero_or_pos k with h0 | h0
      · have HK := Lib.hid h0
        have z0 : decide (0 < k) = false := by rw [h0]; rfl
        clear hx h0
        go_wp2_with fail
        rw [← HW3.out]
        clear hW3
        refine wp_region_all (fun w' => ∃ x : LaterOf W3, w' = x.w) (by kernel_rfl) (by kernel_rfl) ⟨LaterOf.start W3, rfl⟩ ?_
        repeat (go_big_quiet_step (with_reducible exact LaterOf.call_same _ (P.out _)))
        refine wpQuiet_nil ?_
        intro w3 hw3
        obtain ⟨X, rfl⟩ := hw3
        have H3 := Lib.hid (HB3.out.trans (X.h.mono HB3.out.size))
        obtain ⟨w3, hx3⟩ := X
        clear u0 u1 u2 y0 x0 x1 x2 d0
        go_wp2_with fail
        exact ⟨⟨k + 1, by simp, by omega, Lib.hid (HM.out.step hkL HYe.out fun i hi => absurd hi (by have := HK.out; omega)), H3⟩, by simp [intOf]; omega⟩
      · obtain ⟨j, rfl⟩ : ∃ j, k = j + 1 := ⟨k - 1, by omega⟩
        have hjL : j < refs.length := by omega
        obtain ⟨y, hy⟩ : ∃ y, y = refs[j].name := ⟨_, rfl⟩
        have HA := Lib.hid (show nameLt refs[j] refs[j + 1] = Op.bytesLess y.toList a0.toList by rw [less_name, hy, ← HXn.out]; rfl)
        have v0 : ∀ X : LaterOf W3, X.w.cell? ⟨b, off + j * 3, none⟩ = some (.string y) := fun X => by
          have := HC2.out j hjL 0 (.string y) (by rw [hy]; rfl)
          rw [X.h.cell (Nat.lt_of_lt_of_le hblt HB3.out.size), HB3.out.cell hblt]; simpa using this
        have hwj : IntKind.i64.wrap (j : Int) = (j : Int) := IntWalk.i64_in _ (by omega)
        have jn : (j : Int) < n1 := by omega
        have z0 : decide (0 < j + 1) = true := by simp
        obtain ⟨r, hr⟩ : ∃ r, r = Op.bytesLess y.toList a0.toList := ⟨_, rfl⟩
        rw [← hr] at HA
        have g4 := hr.symm
        clear hx hy hr h0
        cases r
        · have HNo := Lib.hid (rise_no (r := nameLt) hkL HA.out)
          go_wp2_with fail
          rw [← HW3.out]
          clear hW3
          refine wp_region_all (fun w' => ∃ x : LaterOf W3, w' = x.w) (by kernel_rfl) (by kernel_rfl) ⟨LaterOf.start W3, rfl⟩ ?_
          repeat (go_big_quiet_step (with_reducible exact LaterOf.call_same _ (P.out _)))
          refine wpQuiet_nil ?_
          intro w3 hw3
          obtain ⟨X, rfl⟩ := hw3
          have H3 := Lib.hid (HB3.out.trans (X.h.mono HB3.out.size))
          obtain ⟨w3, hx3⟩ := X
          clear u0 u1 u2 y0 v0 x0 x1 x2 d0
          go_wp2_with fail
          go_ret
          exact ⟨ret_b (by rw [HQ.out, HNo.out]; simp), H1.out.2.trans (H3.out.mono H1.out.2.size)⟩
        · skip
          go_wp2_with fail
          rw [← HW3.out]
          clear hW3
          refine wp_region_all (fun w' => ∃ x : LaterOf W3, w' = x.w) (by kernel_rfl) (by kernel_rfl) ⟨LaterOf.start W3, rfl⟩ ?_
          repeat (go_big_quiet_step (with_reducible exact LaterOf.call_same _ (P.out _)))
          refine wpQuiet_nil ?_
          intro w3 hw3
          obtain ⟨X, rfl⟩ := hw3
          have H3 := Lib.hid (HB3.out.trans (X.h.mono HB3.out.size))
          obtain ⟨w3, hx3⟩ := X
          clear u0 u1 u2 y0 x0 x1 x2 d0 v0
          go_wp2_with fail
          exact ⟨⟨j + 1 + 1, by simp, by omega, Lib.hid (HM.out.step hkL HYe.out fun i hi hl => (by
            obtain rfl : i = j := by omega
            exact HA.out)), H3⟩, by simp [intOf]; omega⟩
    · have ki : decide (k < n1) = false := decide_eq_false (by omega)
      obtain rfl : n1 = k := by omega
      have HRs := Lib.hid (show refs.all refB = true ∧ riseB nameLt refs = true from So.all (by have := HM.out; rwa [HN.out.1] at this))
      have d0 : wr.cell? ⟨w.heap.size, 0, none⟩ = some (.slice ao1 n1 c1) := (H1.out.1.below HB.out H1.out.1.lt).cell 0
      have d2 : wr.cell? ⟨w.heap.size, 2, none⟩ = some (.slice ao3 n3 c3) := (H1.out.1.below HB.out H1.out.1.lt).cell 2
      go_wp2_with fail
      obtain ⟨Wa, hWa⟩ : ∃ Wa, Wa = wr := ⟨_, rfl⟩
      subst hWa
      have HBa := HB
      clear d0 d2 HM HB
      go_loopw [5] (fun i wr => ∃ k : Nat, i = .int .i64 (k : Int) ∧ k ≤ n3 ∧ Hid (So (fun z => tombB z.t) (fun x y => tombLt x.t y.t) zs k) ∧ Hid (Below W1.heap.size W1 wr)) (fun i _ => n3 - (intOf i).toNat)
      case atStart => exact ⟨0, rfl, Nat.zero_le _, Lib.hid (So.start _ _ _), HBa⟩
      case round =>
        obtain ⟨k, rfl, hkl, HM, HB⟩ := hrel
        clear HBa
        rcases Nat.lt_or_ge k n3 with hlt | hge
        · have ki : (k : Int) < n3 := by omega
          have hkL : k < zs.length := by rw [← HN.out.2]; exact hlt
          obtain ⟨b, off, rfl, hblt, hc⟩ := HC.out.2.1.at_ (by omega)
          obtain ⟨x, hx⟩ : ∃ x, x = zs[k] := ⟨_, rfl⟩
          have hxm : x ∈ zs := by rw [hx]; exact List.getElem_mem hkL
          have HR := Lib.hid (show tombB zs[k].t = tombB x.t by rw [hx])
          have TT := fun W (hW : Below W1.heap.size W1 W) => rtomb_any x W ((HC.out.2.2 x hxm).later hW) (HF.out x hxm).2 (HF.out x hxm).1
          obtain ⟨q, hq⟩ : ∃ q, q = tombB x.t := ⟨_, rfl⟩
          rw [← hq] at TT HR
          have HXt := Lib.hid (show zs[k].t.node = x.t.node ∧ zs[k].t.n = x.t.n by rw [hx]; exact ⟨rfl, rfl⟩)
          obtain ⟨o1, f1, hv1, -, -⟩ := (HC.out.2.2 x hxm).1.form
          obtain ⟨o2, f2, hv2, -, -⟩ := (HC.out.2.2 x hxm).2.form
          obtain ⟨m1, hm1⟩ : ∃ m, m = x.t.cov.length := ⟨_, rfl⟩
          obtain ⟨m2, hm2⟩ : ∃ m, m = x.t.acks.length := ⟨_, rfl⟩
          rw [← hm1] at hv1
          rw [← hm2] at hv2
          clear hm1 hm2
          obtain ⟨⟨a0, a1, a2, a5, a6⟩, a3, a4⟩ := x
          dsimp only at hv1 hv2
          subst hv1 hv2
          have T := Lib.hid (show ∀ W, Below W1.heap.size W1 W → Calls Tryz.prog 103 #[.agg #[.int .i64 a0, .int .i64 a1, .string a2, .slice o1 m1 f1, .slice o2 m2 f2]] W fun e w' => e = .returned (.bool q) ∧ Below W.heap.size W w' from TT)
          dsimp only at HXt
          have x0 : wr.cell? ⟨b, off + k * 5, none⟩ = some (.int .i64 a0) := by
            have := hc k hkL 0 (.int .i64 a0) (by rw [← hx]; rfl)
            rw [HB.out.cell hblt]; simpa using this
          have x1 : wr.cell? ⟨b, off + k * 5 + 1, none⟩ = some (.int .i64 a1) := by
            have := hc k hkL 1 (.int .i64 a1) (by rw [← hx]; rfl)
            rw [HB.out.cell hblt]; simpa using this
          have x2 : wr.cell? ⟨b, off + k * 5 + 2, none⟩ = some (.string a2) := by
            have := hc k hkL 2 (.string a2) (by rw [← hx]; rfl)
            rw [HB.out.cell hblt]; simpa using this
          have x3 : wr.cell? ⟨b, off + k * 5 + 3, none⟩ = some (.slice o1 m1 f1) := by
            have := hc k hkL 3 (.slice o1 m1 f1) (by rw [← hx]; rfl)
            rw [HB.out.cell hblt]; simpa using this
          have x4 : wr.cell? ⟨b, off + k * 5 + 4, none⟩ = some (.slice o2 m2 f2) := by
            have := hc k hkL 4 (.slice o2 m2 f2) (by rw [← hx]; rfl)
            rw [HB.out.cell hblt]; simpa using this
          obtain ⟨W3, hW3⟩ : ∃ W3, W3 = wr.alloc (.cells #[.int .i64 a0, .int .i64 a1, .string a2, .slice o1 m1 f1, .slice o2 m2 f2] 54) := ⟨_, rfl⟩
          have hb3 : Below wr.heap.size wr W3 := by rw [hW3]; exact (Below.refl _ _).alloc (Nat.le_refl _) _
          have k3 : BlkIs W3 wr.heap.size 54 #[.int .i64 a0, .int .i64 a1, .string a2, .slice o1 m1 f1, .slice o2 m2 f2] := by rw [hW3]; exact BlkIs.new _ _ _
          have HX3 := Lib.hid (show BlkIs W3 w.heap.size 28 #[.slice ao1 n1 c1, kv, .slice (some ⟨b, off, none⟩) n3 c3] ∧ Below W1.heap.size W1 W3 from ⟨(H1.out.1.below HB.out H1.out.1.lt).below hb3 (H1.out.1.below HB.out H1.out.1.lt).lt, HB.out.trans (hb3.mono HB.out.size)⟩)
          have HB3 := Lib.hid HX3.out.2
          have TX := Lib.hid (fun X : LaterOf W3 => T.out X.w (HB3.out.trans (X.h.mono HB3.out.size)))
          have u0 : ∀ X : LaterOf W3, X.w.cell? ⟨wr.heap.size, 0, none⟩ = some (.int .i64 a0) := fun X => (X.blk k3).cell 0
          have u1 : ∀ X : LaterOf W3, X.w.cell? ⟨wr.heap.size, 1, none⟩ = some (.int .i64 a1) := fun X => (X.blk k3).cell 1
          have u2 : ∀ X : LaterOf W3, X.w.cell? ⟨wr.heap.size, 2, none⟩ = some (.string a2) := fun X => (X.blk k3).cell 2
          have u3 : ∀ X : LaterOf W3, X.w.cell? ⟨wr.heap.size, 3, none⟩ = some (.slice o1 m1 f1) := fun X => (X.blk k3).cell 3
          have u4 : ∀ X : LaterOf W3, X.w.cell? ⟨wr.heap.size, 4, none⟩ = some (.slice o2 m2 f2) := fun X => (X.blk k3).cell 4
          have y2 : ∀ X : LaterOf W3, X.w.cell? ⟨w.heap.size, 2, none⟩ = some (.slice (some ⟨b, off, none⟩) n3 c3) := fun X => (X.blk HX3.out.1).cell 2
          have d2 : wr.cell? ⟨w.heap.size, 2, none⟩ = some (.slice (some ⟨b, off, none⟩) n3 c3) := (H1.out.1.below HB.out H1.out.1.lt).cell 2
          have HW3 := Lib.hid hW3
          have hwk : IntKind.i64.wrap (k : Int) = (k : Int) := IntWalk.i64_in _ (by omega)
          have HC2 := Lib.hid hc
          clear hb3 k3 hq hc hx hxm T TT
          cases q
          case false =>
            have HNo := Lib.hid (all_no (p := fun z : TbR => tombB z.t) hkL HR.out)
            go_wp2_with fail
            rw [← HW3.out]
            clear hW3
            refine wp_region_all (fun w' => ∃ x : LaterOf W3, w' = x.w) (by kernel_rfl) (by kernel_rfl) ⟨LaterOf.start W3, rfl⟩ ?_
            repeat (go_big_quiet_step (with_reducible exact LaterOf.call _ (TX.out _)))
            refine wpQuiet_nil ?_
            intro w3 hw3
            obtain ⟨X, rfl⟩ := hw3
            have H3 := Lib.hid (HB3.out.trans (X.h.mono HB3.out.size))
            obtain ⟨w3, hx3⟩ := X
            clear u0 u1 u2 u3 u4 y2 x0 x1 x2 x3 x4 d2
            go_wp2_with fail
            go_ret
            exact ⟨ret_b (by rw [HQ.out, show (zs.all (tombB ∘ fun x => x.t)) = zs.all (fun z => tombB z.t) from rfl, HNo.out]; simp), H1.out.2.trans (H3.out.mono H1.out.2.size)⟩
          case true =>
          rcases Nat.eq_zero_or_pos k with h0 | h0
          · have HK := Lib.hid h0
            have z0 : decide (0 < k) = false := by rw [h0]; rfl
            clear h0
            go_wp2_with fail
            rw [← HW3.out]
            clear hW3
            refine wp_region_all (fun w' => ∃ x : LaterOf W3, w' = x.w) (by kernel_rfl) (by kernel_rfl) ⟨LaterOf.start W3, rfl⟩ ?_
            repeat (go_big_quiet_step (with_reducible exact LaterOf.call _ (TX.out _)))
            refine wpQuiet_nil ?_
            intro w3 hw3
            obtain ⟨X, rfl⟩ := hw3
            have H3 := Lib.hid (HB3.out.trans (X.h.mono HB3.out.size))
            obtain ⟨w3, hx3⟩ := X
            clear u0 u1 u2 u3 u4 y2 x0 x1 x2 x3 x4 d2
            go_wp2_with fail
            exact ⟨⟨k + 1, by simp, by omega, Lib.hid (HM.out.step hkL HR.out fun i hi => absurd hi (by have := HK.out; omega)), H3⟩, by simp [intOf]; omega⟩
          · obtain ⟨j, rfl⟩ : ∃ j, k = j + 1 := ⟨k - 1, by omega⟩
            have hjL : j < zs.length := by omega
            obtain ⟨b0, hy0⟩ : ∃ y, y = zs[j].t.node := ⟨_, rfl⟩
            obtain ⟨b1, hy1⟩ : ∃ y, y = zs[j].t.n := ⟨_, rfl⟩
            have HA := Lib.hid (show tombLt zs[j].t zs[j + 1].t = decide (b0 < a0 ∨ b0 = a0 ∧ b1 < a1) by rw [hy0, hy1, ← HXt.out.1, ← HXt.out.2]; rfl)
            have v0 : ∀ X : LaterOf W3, X.w.cell? ⟨b, off + j * 5, none⟩ = some (.int .i64 b0) := fun X => by
              have := HC2.out j hjL 0 (.int .i64 b0) (by rw [hy0]; rfl)
              rw [X.h.cell (Nat.lt_of_lt_of_le hblt HB3.out.size), HB3.out.cell hblt]; simpa using this
            have v1 : ∀ X : LaterOf W3, X.w.cell? ⟨b, off + j * 5 + 1, none⟩ = some (.int .i64 b1) := fun X => by
              have := HC2.out j hjL 1 (.int .i64 b1) (by rw [hy1]; rfl)
              rw [X.h.cell (Nat.lt_of_lt_of_le hblt HB3.out.size), HB3.out.cell hblt]; simpa using this
            have hwj : IntKind.i64.wrap (j : Int) = (j : Int) := IntWalk.i64_in _ (by omega)
            have jn : (j : Int) < n3 := by omega
            have z0 : decide (0 < j + 1) = true := by simp
            have S := rahead_any b0 b1 a0 a1
            obtain ⟨r, hr⟩ : ∃ r, r = decide (b0 < a0 ∨ b0 = a0 ∧ b1 < a1) := ⟨_, rfl⟩
            rw [← hr] at S HA
            have S := Lib.hid S
            clear hy0 hy1 hr h0
            cases r
            · have HNo := Lib.hid (rise_no (r := fun x y : TbR => tombLt x.t y.t) hkL HA.out)
              go_wp2_with fail
              rw [← HW3.out]
              clear hW3
              refine wp_region_all (fun w' => ∃ x : LaterOf W3, w' = x.w) (by kernel_rfl) (by kernel_rfl) ⟨LaterOf.start W3, rfl⟩ ?_
              repeat (go_big_quiet_step (first | with_reducible exact LaterOf.call _ (TX.out _) | with_reducible exact LaterOf.call_same _ (S.out _)))
              refine wpQuiet_nil ?_
              intro w3 hw3
              obtain ⟨X, rfl⟩ := hw3
              have H3 := Lib.hid (HB3.out.trans (X.h.mono HB3.out.size))
              obtain ⟨w3, hx3⟩ := X
              clear u0 u1 u2 u3 u4 y2 x0 x1 x2 x3 x4 d2 v0 v1
              go_wp2_with fail
              go_ret
              exact ⟨ret_b (by rw [HQ.out, HNo.out]; simp), H1.out.2.trans (H3.out.mono H1.out.2.size)⟩
            · skip
              go_wp2_with fail
              rw [← HW3.out]
              clear hW3
              refine wp_region_all (fun w' => ∃ x : LaterOf W3, w' = x.w) (by kernel_rfl) (by kernel_rfl) ⟨LaterOf.start W3, rfl⟩ ?_
              repeat (go_big_quiet_step (first | with_reducible exact LaterOf.call _ (TX.out _) | with_reducible exact LaterOf.call_same _ (S.out _)))
              refine wpQuiet_nil ?_
              intro w3 hw3
              obtain ⟨X, rfl⟩ := hw3
              have H3 := Lib.hid (HB3.out.trans (X.h.mono HB3.out.size))
              obtain ⟨w3, hx3⟩ := X
              clear u0 u1 u2 u3 u4 y2 x0 x1 x2 x3 x4 d2 v0 v1
              go_wp2_with fail
              exact ⟨⟨j + 1 + 1, by simp, by omega, Lib.hid (HM.out.step hkL HR.out fun i hi hl => (by
                obtain rfl : i = j := by omega
                exact HA.out)), H3⟩, by simp [intOf]; omega⟩
        · have ki : decide (k < n3) = false := decide_eq_false (by omega)
          obtain rfl : n3 = k := by omega
          have HTs := Lib.hid (show zs.all (fun z => tombB z.t) = true ∧ riseB (fun x y : TbR => tombLt x.t y.t) zs = true from So.all (by have := HM.out; rwa [HN.out.2] at this))
          have d2 : wr.cell? ⟨w.heap.size, 2, none⟩ = some (.slice ao3 n3 c3) := (H1.out.1.below HB.out H1.out.1.lt).cell 2
          go_wp2_with fail
          go_ret
          exact ⟨ret_b (by rw [HQ.out, ← HN.out.1, ← HN.out.2, HRs.out.1, HRs.out.2, show (zs.all (tombB ∘ fun x => x.t)) = zs.all (fun z => tombB z.t) from rfl, HTs.out.1, HTs.out.2, ← HQ5.out, decide_eq_true e1, decide_eq_true e3]; rfl), H1.out.2.trans (HB.out.mono H1.out.2.size)⟩
end Go.Proofs.YtljenganlknhbaaGreat.Mk
