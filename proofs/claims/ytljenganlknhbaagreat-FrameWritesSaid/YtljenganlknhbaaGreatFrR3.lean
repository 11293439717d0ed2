/- The reference's Good, walked. Printed by gen_frr3.py. (Layer 19.) -/
import Derived.Test.YtljenganlknhbaaGreatFrR0
import Derived.Test.YtljenganlknhbaaGreatFrS
import Derived.Test.YtljenganlknhbaaGreatPkX
import Derived.Test.YtljenganlknhbaaGreatPkV
import Derived.Test.YtljenganlknhbaaGreatPkU
namespace Go.Proofs.YtljenganlknhbaaGreat.Fr
set_option linter.unusedVariables false
set_option linter.unusedSimpArgs false
open Go.RowKit Go.Lib
open Set (StrAt scells)
open Tr (Cp pfxB chk holds IsSet strAt_at)
open Mk (MkR aMk goodB)
/-- The numbers of a message that can be. -/
def Rng (m : MsgR) : Prop := (1 ≤ m.kind ∧ m.kind ≤ 6) ∧ (1 ≤ m.src ∧ m.src ≤ 7) ∧ (1 ≤ m.dst ∧ m.dst ≤ 7) ∧ ¬ m.src = m.dst ∧ (0 ≤ m.ses ∧ m.ses ≤ 1073741824) ∧ (0 ≤ m.step ∧ m.step ≤ 1073741824)
theorem goodM_rng {m : MsgR} (h : goodM m.msg = true) : Rng m := by
  have hg := goodM_at h
  have hc := h
  rw [goodM_chain] at hc
  simp only [Bool.and_eq_true, Bool.not_eq_true', beq_eq_false_iff_ne] at hc
  have hal := hg.2.2.2.1
  have hk : 1 ≤ m.kind ∧ m.kind ≤ 6 := by
    have : 1 ≤ m.msg.kind ∧ m.msg.kind ≤ 6 := by
      rcases hal.2 with h | h | h | h | h | h <;> omega
    exact this
  exact ⟨hk, hg.1, hg.2.1, hc.1.1.1.1.1.1.1.1.2, hg.2.2.1.1, hg.2.2.1.2⟩
theorem goodM_no {m : MsgR} (h : ¬ Rng m) : goodM m.msg = false := by
  cases hb : goodM m.msg
  · rfl
  · exact absurd (goodM_rng hb) h
theorem goodM_of {m : MsgR} (h : Rng m) : goodM m.msg = (((((aloneB m.msg && m.pre.all pfxB) && (m.cel.map (·.c)).all goodCell) && m.obj.all shortB) && holds (IsSet m.ids)) && goodB m.mar.mk_) := by
  rw [goodM_chain]
  obtain ⟨-, h2, h3, h4, h5, h6⟩ := h
  have e1 : inR m.src 1 7 = true := by simp only [inR]; exact decide_eq_true h2
  have e2 : inR m.dst 1 7 = true := by simp only [inR]; exact decide_eq_true h3
  have e3 : (m.src == m.dst) = false := by simpa using h4
  have e4 : inR m.ses 0 1073741824 = true := by simp only [inR]; exact decide_eq_true h5
  have e5 : inR m.step 0 1073741824 = true := by simp only [inR]; exact decide_eq_true h6
  rw [e1, e2, e3, e4, e5]
  rfl
theorem all_no {α : Type} {l : List α} {p : α → Bool} {x : α} (hx : x ∈ l) (h : p x = false) : l.all p = false := by
  rw [List.all_eq_false]
  exact ⟨x, hx, by simp [h]⟩
theorem all_of {α : Type} [Inhabited α] {l : List α} {p : α → Bool} (h : ∀ j, j < l.length → p l[j]! = true) : l.all p = true := by
  rw [List.all_eq_true]
  intro x hx
  obtain ⟨j, hj, rfl⟩ := List.getElem_of_mem hx
  have := h j hj
  rwa [getElem!_pos l j hj] at this
set_option maxRecDepth 100000 in
set_option maxHeartbeats 8000000 in
theorem rgood_any (m : MsgR) (w : World) (h : m.Reads w) (hs : m.Small) : Calls Tryz.prog 13 #[aMsg m] w fun e w' => e = .returned (.bool (goodM m.msg)) ∧ Below w.heap.size w w' := by
  obtain ⟨W1, hW1⟩ : ∃ W1, W1 = w.alloc (.cells #[.int .i64 m.kind, .int .i64 m.src, .int .i64 m.dst, .int .i64 m.ses, .int .i64 m.step, m.pv, m.cv, m.iv, m.ov, m.mar.rv, m.mar.kv, m.mar.bv] 30) := ⟨_, rfl⟩
  have hb1 : Below w.heap.size w W1 := by rw [hW1]; exact (Below.refl _ _).alloc (Nat.le_refl _) _
  have hr := h.later hb1
  obtain ⟨o1, f1, o2, f2, o3, f3, o4, f4, o5, f5, o6, f6, o7, f7, e1, e2, e3, e4, e5, e6, e7⟩ := MsgR.form h
  have k1 : BlkIs W1 w.heap.size 30 #[.int .i64 m.kind, .int .i64 m.src, .int .i64 m.dst, .int .i64 m.ses, .int .i64 m.step, m.pv, m.cv, m.iv, m.ov, m.mar.rv, m.mar.kv, m.mar.bv] := by rw [hW1]; exact BlkIs.new _ _ _
  have A1 := fun (X : LaterOf W1) (hk : 1 ≤ m.kind ∧ m.kind ≤ 6) => sizes_any m X.w (hr.later X.h) hs hk
  have P1 := fun X : LaterOf W1 => (hr.later X.h).1
  have C1 := fun X : LaterOf W1 => (hr.later X.h).2.1
  have O1 := fun X : LaterOf W1 => (hr.later X.h).2.2.2.1
  have S1 := fun X : LaterOf W1 => Tr.rset_any m.iv m.ids X.w (hr.later X.h).2.2.1 hs.1.2.2.1
  have M1 := fun X : LaterOf W1 => Mk.rgood_any m.mar X.w (hr.later X.h).2.2.2.2 hs.2.1.2.2.2 hs.2.1.2.1
  have HN := fun h : ¬ Rng m => goodM_no h
  have HY := fun h : Rng m => goodM_of h
  obtain ⟨bg, hbg⟩ : ∃ b, b = goodM m.msg := ⟨_, rfl⟩
  obtain ⟨b6, hb6⟩ : ∃ b, b = aloneB m.msg := ⟨_, rfl⟩
  obtain ⟨b7, hb7⟩ : ∃ b, b = m.pre.all pfxB := ⟨_, rfl⟩
  obtain ⟨b8, hb8⟩ : ∃ b, b = (m.cel.map (·.c)).all goodCell := ⟨_, rfl⟩
  obtain ⟨b9, hb9⟩ : ∃ b, b = m.obj.all shortB := ⟨_, rfl⟩
  obtain ⟨b10, hb10⟩ : ∃ b, b = holds (IsSet m.ids) := ⟨_, rfl⟩
  obtain ⟨b11, hb11⟩ : ∃ b, b = goodB m.mar.mk_ := ⟨_, rfl⟩
  rw [← hbg] at HN ⊢
  rw [← hbg, ← hb6, ← hb7, ← hb8, ← hb9, ← hb10, ← hb11] at HY
  rw [← hb6] at A1
  rw [← hb10] at S1
  rw [← hb11] at M1
  have hs3 := hs.2.2.1
  have hs4 := hs.2.2.2
  have hln := hs.1
  clear hbg hb6 hb10 hb11
  unfold aMsg at A1 ⊢
  unfold aMk at M1
  rw [e1, e2, e3, e4, e5, e6, e7] at A1 k1 hW1 ⊢
  rw [e1] at P1
  rw [e2] at C1
  rw [e4] at O1
  rw [e3] at S1
  rw [e5, e6, e7] at M1
  unfold Rng at HN HY
  obtain ⟨n1, hn1⟩ : ∃ n, n = m.pre.length := ⟨_, rfl⟩
  obtain ⟨n2, hn2⟩ : ∃ n, n = m.cel.length := ⟨_, rfl⟩
  obtain ⟨n3, hn3⟩ : ∃ n, n = m.ids.length := ⟨_, rfl⟩
  obtain ⟨n4, hn4⟩ : ∃ n, n = m.obj.length := ⟨_, rfl⟩
  obtain ⟨n5, hn5⟩ : ∃ n, n = m.mar.refs.length := ⟨_, rfl⟩
  obtain ⟨n6, hn6⟩ : ∃ n, n = m.mar.toks.length := ⟨_, rfl⟩
  obtain ⟨n7, hn7⟩ : ∃ n, n = m.mar.tombs.length := ⟨_, rfl⟩
  rw [← hn1, ← hn2, ← hn3, ← hn4, ← hn5, ← hn6, ← hn7] at A1 k1 hW1 ⊢
  rw [← hn1] at P1
  rw [← hn2] at C1
  rw [← hn4] at O1
  rw [← hn3] at S1
  rw [← hn5, ← hn6, ← hn7] at M1
  rw [← hn1, ← hn2, ← hn3, ← hn4] at hln
  obtain ⟨hl1, hl2, hl3, hl4⟩ := hln
  clear hn3 hn5 hn6 hn7 e1 e2 e3 e4 e5 e6 e7 h hs hr
  obtain ⟨kind, src, dst, ses, step, pre, cel, ids, obj, mar, pv, cv, iv, ov⟩ := m
  dsimp only at *
  have u0 : ∀ X : LaterOf W1, X.w.cell? ⟨w.heap.size, 0, none⟩ = some (.int .i64 kind) := fun X => (X.blk k1).cell 0
  have u1 : ∀ X : LaterOf W1, X.w.cell? ⟨w.heap.size, 1, none⟩ = some (.int .i64 src) := fun X => (X.blk k1).cell 1
  have u2 : ∀ X : LaterOf W1, X.w.cell? ⟨w.heap.size, 2, none⟩ = some (.int .i64 dst) := fun X => (X.blk k1).cell 2
  have u3 : ∀ X : LaterOf W1, X.w.cell? ⟨w.heap.size, 3, none⟩ = some (.int .i64 ses) := fun X => (X.blk k1).cell 3
  have u4 : ∀ X : LaterOf W1, X.w.cell? ⟨w.heap.size, 4, none⟩ = some (.int .i64 step) := fun X => (X.blk k1).cell 4
  have u5 : ∀ X : LaterOf W1, X.w.cell? ⟨w.heap.size, 5, none⟩ = some (.slice o1 n1 f1) := fun X => (X.blk k1).cell 5
  have u6 : ∀ X : LaterOf W1, X.w.cell? ⟨w.heap.size, 6, none⟩ = some (.slice o2 n2 f2) := fun X => (X.blk k1).cell 6
  have u7 : ∀ X : LaterOf W1, X.w.cell? ⟨w.heap.size, 7, none⟩ = some (.slice o3 n3 f3) := fun X => (X.blk k1).cell 7
  have u8 : ∀ X : LaterOf W1, X.w.cell? ⟨w.heap.size, 8, none⟩ = some (.slice o4 n4 f4) := fun X => (X.blk k1).cell 8
  have u9 : ∀ X : LaterOf W1, X.w.cell? ⟨w.heap.size, 9, none⟩ = some (.slice o5 n5 f5) := fun X => (X.blk k1).cell 9
  have u10 : ∀ X : LaterOf W1, X.w.cell? ⟨w.heap.size, 10, none⟩ = some (.slice o6 n6 f6) := fun X => (X.blk k1).cell 10
  have u11 : ∀ X : LaterOf W1, X.w.cell? ⟨w.heap.size, 11, none⟩ = some (.slice o7 n7 f7) := fun X => (X.blk k1).cell 11
  have HB := Lib.hid (fun X : LaterOf W1 => hb1.trans (X.h.mono hb1.size))
  have HW := Lib.hid hW1
  have A1 := Lib.hid A1
  have P1 := Lib.hid P1
  have C1 := Lib.hid C1
  have O1 := Lib.hid O1
  have S1 := Lib.hid S1
  have M1 := Lib.hid M1
  have HN := Lib.hid HN
  have HY := Lib.hid HY
  have HL := Lib.hid (And.intro hn1 (And.intro hn2 (And.intro hn4 (And.intro hl1 (And.intro hl2 hl4)))))
  have HBS := Lib.hid (And.intro hb7 (And.intro hb8 hb9))
  have HSM := Lib.hid (And.intro hs3 hs4)
  clear hb1 hW1 k1 hn1 hn2 hn4 hl1 hl2 hl3 hl4 hb7 hb8 hb9 hs3 hs4
  go_enter Tryz.func13, Tryz.ntmps13
  go_upto_region 1 with (fail)
  rw [← HW.out]
  clear HW
  obtain ⟨X, hX⟩ := later_at W1
  rw [hX]
  clear hX
  by_cases c0 : kind < 1
  · have HF := Lib.hid (HN.out (fun h => by omega))
    have d0 : decide (kind < 1) = true := decide_eq_true c0
    go_wp2_with fail
    go_ret
    exact ⟨by first | rfl | (rw [HF.out]; rfl), HB.out X⟩
  by_cases c1 : 6 < kind
  · have HF := Lib.hid (HN.out (fun h => by omega))
    have d0 : decide (kind < 1) = false := decide_eq_false c0
    have d1 : decide (6 < kind) = true := decide_eq_true c1
    go_wp2_with fail
    go_ret
    exact ⟨by first | rfl | (rw [HF.out]; rfl), HB.out X⟩
  by_cases c2 : src < 1
  · have HF := Lib.hid (HN.out (fun h => by omega))
    have d0 : decide (kind < 1) = false := decide_eq_false c0
    have d1 : decide (6 < kind) = false := decide_eq_false c1
    have d2 : decide (src < 1) = true := decide_eq_true c2
    go_wp2_with fail
    go_ret
    exact ⟨by first | rfl | (rw [HF.out]; rfl), HB.out X⟩
  by_cases c3 : 7 < src
  · have HF := Lib.hid (HN.out (fun h => by omega))
    have d0 : decide (kind < 1) = false := decide_eq_false c0
    have d1 : decide (6 < kind) = false := decide_eq_false c1
    have d2 : decide (src < 1) = false := decide_eq_false c2
    have d3 : decide (7 < src) = true := decide_eq_true c3
    go_wp2_with fail
    go_ret
    exact ⟨by first | rfl | (rw [HF.out]; rfl), HB.out X⟩
  by_cases c4 : dst < 1
  · have HF := Lib.hid (HN.out (fun h => by omega))
    have d0 : decide (kind < 1) = false := decide_eq_false c0
    have d1 : decide (6 < kind) = false := decide_eq_false c1
    have d2 : decide (src < 1) = false := decide_eq_false c2
    have d3 : decide (7 < src) = false := decide_eq_false c3
    have d4 : decide (dst < 1) = true := decide_eq_true c4
    go_wp2_with fail
    go_ret
    exact ⟨by first | rfl | (rw [HF.out]; rfl), HB.out X⟩
  by_cases c5 : 7 < dst
  · have HF := Lib.hid (HN.out (fun h => by omega))
    have d0 : decide (kind < 1) = false := decide_eq_false c0
    have d1 : decide (6 < kind) = false := decide_eq_false c1
    have d2 : decide (src < 1) = false := decide_eq_false c2
    have d3 : decide (7 < src) = false := decide_eq_false c3
    have d4 : decide (dst < 1) = false := decide_eq_false c4
    have d5 : decide (7 < dst) = true := decide_eq_true c5
    go_wp2_with fail
    go_ret
    exact ⟨by first | rfl | (rw [HF.out]; rfl), HB.out X⟩
  by_cases c6 : src = dst
  · have HF := Lib.hid (HN.out (fun h => by omega))
    have d0 : decide (kind < 1) = false := decide_eq_false c0
    have d1 : decide (6 < kind) = false := decide_eq_false c1
    have d2 : decide (src < 1) = false := decide_eq_false c2
    have d3 : decide (7 < src) = false := decide_eq_false c3
    have d4 : decide (dst < 1) = false := decide_eq_false c4
    have d5 : decide (7 < dst) = false := decide_eq_false c5
    have d6 : (src == dst) = true := by simpa using c6
    go_wp2_with fail
    go_ret
    exact ⟨by first | rfl | (rw [HF.out]; rfl), HB.out X⟩
  by_cases c7 : ses < 0
  · have HF := Lib.hid (HN.out (fun h => by omega))
    have d0 : decide (kind < 1) = false := decide_eq_false c0
    have d1 : decide (6 < kind) = false := decide_eq_false c1
    have d2 : decide (src < 1) = false := decide_eq_false c2
    have d3 : decide (7 < src) = false := decide_eq_false c3
    have d4 : decide (dst < 1) = false := decide_eq_false c4
    have d5 : decide (7 < dst) = false := decide_eq_false c5
    have d6 : (src == dst) = false := by simpa using c6
    have d7 : decide (ses < 0) = true := decide_eq_true c7
    go_wp2_with fail
    go_ret
    exact ⟨by first | rfl | (rw [HF.out]; rfl), HB.out X⟩
  by_cases c8 : 1073741824 < ses
  · have HF := Lib.hid (HN.out (fun h => by omega))
    have d0 : decide (kind < 1) = false := decide_eq_false c0
    have d1 : decide (6 < kind) = false := decide_eq_false c1
    have d2 : decide (src < 1) = false := decide_eq_false c2
    have d3 : decide (7 < src) = false := decide_eq_false c3
    have d4 : decide (dst < 1) = false := decide_eq_false c4
    have d5 : decide (7 < dst) = false := decide_eq_false c5
    have d6 : (src == dst) = false := by simpa using c6
    have d7 : decide (ses < 0) = false := decide_eq_false c7
    have d8 : decide (1073741824 < ses) = true := decide_eq_true c8
    go_wp2_with fail
    go_ret
    exact ⟨by first | rfl | (rw [HF.out]; rfl), HB.out X⟩
  by_cases c9 : step < 0
  · have HF := Lib.hid (HN.out (fun h => by omega))
    have d0 : decide (kind < 1) = false := decide_eq_false c0
    have d1 : decide (6 < kind) = false := decide_eq_false c1
    have d2 : decide (src < 1) = false := decide_eq_false c2
    have d3 : decide (7 < src) = false := decide_eq_false c3
    have d4 : decide (dst < 1) = false := decide_eq_false c4
    have d5 : decide (7 < dst) = false := decide_eq_false c5
    have d6 : (src == dst) = false := by simpa using c6
    have d7 : decide (ses < 0) = false := decide_eq_false c7
    have d8 : decide (1073741824 < ses) = false := decide_eq_false c8
    have d9 : decide (step < 0) = true := decide_eq_true c9
    go_wp2_with fail
    go_ret
    exact ⟨by first | rfl | (rw [HF.out]; rfl), HB.out X⟩
  by_cases c10 : 1073741824 < step
  · have HF := Lib.hid (HN.out (fun h => by omega))
    have d0 : decide (kind < 1) = false := decide_eq_false c0
    have d1 : decide (6 < kind) = false := decide_eq_false c1
    have d2 : decide (src < 1) = false := decide_eq_false c2
    have d3 : decide (7 < src) = false := decide_eq_false c3
    have d4 : decide (dst < 1) = false := decide_eq_false c4
    have d5 : decide (7 < dst) = false := decide_eq_false c5
    have d6 : (src == dst) = false := by simpa using c6
    have d7 : decide (ses < 0) = false := decide_eq_false c7
    have d8 : decide (1073741824 < ses) = false := decide_eq_false c8
    have d9 : decide (step < 0) = false := decide_eq_false c9
    have d10 : decide (1073741824 < step) = true := decide_eq_true c10
    go_wp2_with fail
    go_ret
    exact ⟨by first | rfl | (rw [HF.out]; rfl), HB.out X⟩
  have HY2 := Lib.hid (HY.out (by omega))
  have A2 := Lib.hid (fun X : LaterOf W1 => A1.out X (by omega))
  have d0 : decide (kind < 1) = false := decide_eq_false c0
  have d1 : decide (6 < kind) = false := decide_eq_false c1
  have d2 : decide (src < 1) = false := decide_eq_false c2
  have d3 : decide (7 < src) = false := decide_eq_false c3
  have d4 : decide (dst < 1) = false := decide_eq_false c4
  have d5 : decide (7 < dst) = false := decide_eq_false c5
  have d6 : (src == dst) = false := by simpa using c6
  have d7 : decide (ses < 0) = false := decide_eq_false c7
  have d8 : decide (1073741824 < ses) = false := decide_eq_false c8
  have d9 : decide (step < 0) = false := decide_eq_false c9
  have d10 : decide (1073741824 < step) = false := decide_eq_false c10
  clear HN HY A1
  go_wp2_with fail
  refine (LaterOf.call X (A2.out X)).mono ?_
  rintro e _ ⟨rfl, X, rfl⟩
  cases b6
  · go_wp2_with fail
    go_ret
    exact ⟨by rw [HY2.out]; rfl, HB.out X⟩
  clear c0 c1 c2 c3 c4 c5 c6 c7 c8 c9 c10 d0 d1 d2 d3 d4 d5 d6 d7 d8 d9 d10
  go_wp2_with fail
  go_loopw [3] (fun i wr => ∃ (j : Nat) (Y : LaterOf W1), i = .int .i64 (j : Int) ∧ j ≤ n1 ∧ wr = Y.w ∧ Hid (∀ k, k < j → pfxB pre[k]! = true)) (fun i _ => n1 - (RowKit.intOf i).toNat)
  case atStart => exact ⟨0, X, rfl, Nat.zero_le _, rfl, Lib.hid (fun k hk => by omega)⟩
  case round =>
    obtain ⟨j, Y, rfl, hj, rfl, HJ⟩ := hrel
    have hn1 := HL.out.2.2.2.1
    rcases Nat.lt_or_ge j n1 with hlt | hge
    · have ki : (j : Int) < n1 := by omega
      obtain ⟨b, off, hao, hbl, hc⟩ := strAt_at (P1.out Y) (by omega)
      subst hao
      have c0 := hc j hlt
      have hmem : pre[j]! ∈ pre := by rw [getElem!_pos pre j (by rw [← HL.out.1]; exact hlt)]; exact List.getElem_mem _
      have hsz := HSM.out.1 _ hmem
      obtain ⟨x, hx⟩ : ∃ x, x = pre[j]! := ⟨_, rfl⟩
      rw [← hx] at c0 hmem hsz
      have DG := fun W => Tr.rdigits_any x (by omega) W
      obtain ⟨q, hq⟩ : ∃ q, q = pfxB x := ⟨_, rfl⟩
      rw [← hq] at DG
      have DG := Lib.hid DG
      have HQ := Lib.hid (And.intro hq (And.intro hx hmem))
      clear hc hx hmem hsz hq
      go_wp2_with fail
      refine (DG.out _).mono ?_
      rintro e _ ⟨rfl, rfl⟩
      cases q
      · have HF := Lib.hid (show bg = false from by rw [HY2.out, HBS.out.1, all_no HQ.out.2.2 HQ.out.1.symm]; rfl)
        go_wp2_with fail
        go_ret
        exact ⟨by first | rfl | (rw [HF.out]; rfl), HB.out Y⟩
      · go_wp2_with fail
        refine ⟨⟨j + 1, Y, by simp, by omega, rfl, Lib.hid fun k hk => ?_⟩, by simp [RowKit.intOf]; omega⟩
        rcases Nat.lt_or_ge k j with h | h
        · exact HJ.out k h
        · obtain rfl : k = j := by omega
          rw [← HQ.out.2.1]; exact HQ.out.1.symm
    have H7 := Lib.hid (show b7 = true from by rw [HBS.out.1]; exact all_of (fun k hk => HJ.out k (by rw [← HL.out.1] at hk; omega)))
    have ki : decide (j < n1) = false := decide_eq_false (by omega)
    obtain rfl : n1 = j := by omega
    clear HJ hn1 hge hj
    go_wp2_with fail
    go_loopw [4] (fun i wr => ∃ (j : Nat) (Y : LaterOf W1), i = .int .i64 (j : Int) ∧ j ≤ n2 ∧ wr = Y.w ∧ Hid (∀ k (hk : k < cel.length), k < j → goodCell cel[k].c = true)) (fun i _ => n2 - (RowKit.intOf i).toNat)
    case atStart => exact ⟨0, Y, rfl, Nat.zero_le _, rfl, Lib.hid (fun k _ hk => by omega)⟩
    case round =>
      obtain ⟨j, Y, rfl, hj, rfl, HJ⟩ := hrel
      have hn2 := HL.out.2.2.2.2.1
      rcases Nat.lt_or_ge j n2 with hlt | hge
      · have ki : (j : Int) < n2 := by omega
        have hja : j < cel.length := by rw [← HL.out.2.1]; exact hlt
        obtain ⟨ba, oa1, hoa, hbla, hca⟩ := CellsAt.at2 (C1.out Y) (by omega)
        subst hoa
        have hmem := List.getElem_mem hja
        have hcx := hca j hja
        have hrx := (C1.out Y).2 _ hmem
        have hsx := HSM.out.2 _ hmem
        obtain ⟨x, hx⟩ : ∃ x, x = cel[j] := ⟨_, rfl⟩
        rw [← hx] at hcx hrx hsx hmem
        have CK := Tr.rcheck_any x.c x.iv x.kv Y.w hrx.1 hrx.2 hsx.2.1 hsx.2.2 (by omega)
        obtain ⟨q, hq⟩ : ∃ q, q = chk x.c := ⟨_, rfl⟩
        rw [← hq] at CK
        have HQ := Lib.hid (And.intro hq (And.intro hx hmem))
        have CK := Lib.hid CK
        obtain ⟨t1, t2, t3, t4, t5⟩ := hcx
        clear hca hrx hsx hx hmem hq
        obtain ⟨⟨p0, p1, p2, p3, p4⟩, piv, pkv⟩ := x
        dsimp only at t1 t2 t3 t4 t5 CK
        go_wp2_with fail
        refine (LaterOf.call Y CK.out).mono ?_
        rintro e _ ⟨rfl, Y, rfl⟩
        by_cases hz : q = 0
        · have g1 : (q == 0) = true := by simpa using hz
          have g2 : (q != 0) = false := by simpa using hz
          have HZ := Lib.hid hz
          clear hz
          go_wp2_with fail
          refine ⟨⟨j + 1, Y, by simp, by omega, rfl, Lib.hid fun k hkl hk => ?_⟩, by simp [RowKit.intOf]; omega⟩
          rcases Nat.lt_or_ge k j with h | h
          · exact HJ.out k hkl h
          · obtain rfl : k = j := by omega
            rw [← HQ.out.2.1]
            exact decide_eq_true (HQ.out.1.symm.trans HZ.out)
        · have g1 : (q == 0) = false := by simpa using hz
          have g2 : (q != 0) = true := by simpa using hz
          have HF := Lib.hid (show bg = false from by
            rw [HY2.out, H7.out, HBS.out.2.1, all_no (l := cel.map (fun z : CpR => z.c)) (p := goodCell) (x := (⟨p0, p1, p2, p3, p4⟩ : Cp)) (List.mem_map.2 ⟨_, HQ.out.2.2, rfl⟩) (decide_eq_false (fun h => hz (HQ.out.1.trans h)))]
            rfl)
          clear hz
          go_wp2_with fail
          go_ret
          exact ⟨by first | rfl | (rw [HF.out]; rfl), HB.out Y⟩
      have H8 := Lib.hid (show b8 = true from by
        rw [HBS.out.2.1, List.all_eq_true]
        intro c hc
        obtain ⟨z, hz, rfl⟩ := List.mem_map.1 hc
        obtain ⟨k, hk, rfl⟩ := List.getElem_of_mem hz
        exact HJ.out k hk (by rw [← HL.out.2.1] at hk; omega))
      have ki : decide (j < n2) = false := decide_eq_false (by omega)
      obtain rfl : n2 = j := by omega
      clear HJ hn2 hge hj
      go_wp2_with fail
      go_loopw [5] (fun i wr => ∃ (j : Nat) (Y : LaterOf W1), i = .int .i64 (j : Int) ∧ j ≤ n4 ∧ wr = Y.w ∧ Hid (∀ k, k < j → shortB obj[k]! = true)) (fun i _ => n4 - (RowKit.intOf i).toNat)
      case atStart => exact ⟨0, Y, rfl, Nat.zero_le _, rfl, Lib.hid (fun k hk => by omega)⟩
      case round =>
        obtain ⟨j, Y, rfl, hj, rfl, HJ⟩ := hrel
        have hn4 := HL.out.2.2.2.2.2
        rcases Nat.lt_or_ge j n4 with hlt | hge
        · have ki : (j : Int) < n4 := by omega
          obtain ⟨b, off, hao, hbl, hc⟩ := strAt_at (O1.out Y) (by omega)
          subst hao
          have c0 := hc j hlt
          have hmem : obj[j]! ∈ obj := by rw [getElem!_pos obj j (by rw [← HL.out.2.2.1]; exact hlt)]; exact List.getElem_mem _
          obtain ⟨x, hx⟩ : ∃ x, x = obj[j]! := ⟨_, rfl⟩
          rw [← hx] at c0 hmem
          have HQ := Lib.hid (And.intro hx hmem)
          clear hc hx hmem
          by_cases hz : 131072 < x.size
          · have HF := Lib.hid (show bg = false from by
              rw [HY2.out, H7.out, H8.out, HBS.out.2.2, all_no HQ.out.2 (decide_eq_false (Nat.not_le.2 hz))]
              rfl)
            have g1 : decide ((131072 : Int) < (x.size : Int)) = true := decide_eq_true (by omega)
            have g2 : (131072 : Int) < (x.size : Int) := by omega
            have g3 : decide (131072 < x.size) = true := decide_eq_true hz
            go_wp2_with fail
            go_ret
            exact ⟨by first | rfl | (rw [HF.out]; rfl), HB.out Y⟩
          · have g1 : decide ((131072 : Int) < (x.size : Int)) = false := decide_eq_false (by omega)
            have g3 : decide (131072 < x.size) = false := decide_eq_false hz
            have HZ := Lib.hid hz
            clear hz
            go_wp2_with fail
            refine ⟨⟨j + 1, Y, by simp, by omega, rfl, Lib.hid fun k hk => ?_⟩, by simp [RowKit.intOf]; omega⟩
            rcases Nat.lt_or_ge k j with h | h
            · exact HJ.out k h
            · obtain rfl : k = j := by omega
              rw [← HQ.out.1]
              exact decide_eq_true (Nat.not_lt.1 HZ.out)
        have H9 := Lib.hid (show b9 = true from by rw [HBS.out.2.2]; exact all_of (fun k hk => HJ.out k (by rw [← HL.out.2.2.1] at hk; omega)))
        have ki : decide (j < n4) = false := decide_eq_false (by omega)
        obtain rfl : n4 = j := by omega
        clear HJ hn4 hge hj
        go_wp2_with fail
        refine (LaterOf.call Y (S1.out Y)).mono ?_
        rintro e _ ⟨rfl, Y, rfl⟩
        cases b10
        · go_wp2_with fail
          go_ret
          exact ⟨by rw [HY2.out, H7.out, H8.out, H9.out]; rfl, HB.out Y⟩
        go_wp2_with fail
        refine (LaterOf.call Y (M1.out Y)).mono ?_
        rintro e _ ⟨rfl, Y, rfl⟩
        go_wp2_with fail
        go_ret
        exact ⟨by rw [HY2.out, H7.out, H8.out, H9.out]; rfl, HB.out Y⟩
end Go.Proofs.YtljenganlknhbaaGreat.Fr
