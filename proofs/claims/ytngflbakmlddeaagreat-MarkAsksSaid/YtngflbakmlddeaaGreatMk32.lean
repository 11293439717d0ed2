/- The reference's Next, walked: the same number as the program's own. (Layer 12.) -/
import Derived.Test.YtngflbakmlddeaaGreatMk25
namespace Go.Proofs.YtngflbakmlddeaaGreat.Mk
set_option linter.unusedVariables false
open Go.RowKit
/-- The greatest so far, and whether there is one. -/
def pm (l : List Int) : Int × Bool := if l = [] then (0, false) else (Lib.maxOf l, true)
theorem maxOf_snoc {l : List Int} (h : l ≠ []) (x : Int) : Lib.maxOf (l ++ [x]) = max (Lib.maxOf l) x := by
  unfold Lib.maxOf
  rw [List.foldl_append]
  cases l with
  | nil => exact absurd rfl h
  | cons a l => rfl
theorem pm_new {l : List Int} {z : Int} (h : pm l = (z, false)) (x : Int) : pm (l ++ [x]) = (x, true) := by
  unfold pm at h ⊢
  by_cases e : l = []
  · subst e
    rw [if_neg (by simp)]
    simp [Lib.maxOf]
  · rw [if_neg e] at h
    cases h
theorem pm_old {l : List Int} {z : Int} (h : pm l = (z, true)) (x : Int) : pm (l ++ [x]) = (max z x, true) := by
  unfold pm at h ⊢
  by_cases e : l = []
  · rw [if_pos e] at h
    cases h
  · rw [if_neg e] at h
    rw [if_neg (by simp), maxOf_snoc e]
    injection h with h1 h2
    rw [h1]
theorem pm_next {m : Mks} {node z : Int} {b : Bool} (h : pm (usedM m node) = (z, b)) : nextL m node = if b = true then wrap64 (z + 1) else 1 := by
  unfold nextL
  unfold pm at h
  by_cases e : usedM m node = []
  · rw [if_pos e] at h ⊢
    injection h with h1 h2
    rw [← h2]
    rfl
  · rw [if_neg e] at h ⊢
    injection h with h1 h2
    rw [← h1, ← h2]
    rfl
set_option maxRecDepth 100000 in
set_option maxHeartbeats 4000000 in
theorem rnext_any (m : MkR) (node : Int) (w : World) (h : m.Reads w) (hs : m.Small) : Calls Tryz.prog 30 #[aMk m, .int .i64 node] w fun e w' => e = .returned (.int .i64 (nextL m.mk_ node)) ∧ Below w.heap.size w w' := by
  obtain ⟨refs, toks, zs, rv, kv, bv⟩ := m
  obtain ⟨h1, h2, h3, h4⟩ := h
  obtain ⟨s1, s2, s3, s4⟩ := hs
  dsimp only at h1 h2 h3 h4 s1 s2 s3 s4
  obtain ⟨R, hR⟩ : ∃ R, R = nextL (MkR.mk_ ⟨refs, toks, zs, rv, kv, bv⟩) node := ⟨_, rfl⟩
  have HR := Lib.hid (show ∀ z b, pm (usedT toks node ++ usedB (zs.map (·.t)) node) = (z, b) → R = if b = true then wrap64 (z + 1) else 1 from fun z b hp => by rw [hR]; exact pm_next hp)
  rw [← hR]
  show Calls Tryz.prog 30 #[.agg #[rv, kv, bv], .int .i64 node] w fun e w' => e = .returned (.int .i64 R) ∧ Below w.heap.size w w'
  obtain ⟨o1, f1, hr1, -, -⟩ := h1.form
  obtain ⟨o2, f2, hr2, -, -⟩ := h2.form
  obtain ⟨o3, f3, hr3, -, -⟩ := h3.form
  obtain ⟨n1, hn1⟩ : ∃ k, k = refs.length := ⟨_, rfl⟩
  obtain ⟨n2, hn2⟩ : ∃ k, k = toks.length := ⟨_, rfl⟩
  obtain ⟨n3, hn3⟩ : ∃ k, k = zs.length := ⟨_, rfl⟩
  rw [← hn1] at hr1
  rw [← hn2] at hr2 s2
  rw [← hn3] at hr3 s3
  subst hr1 hr2 hr3
  obtain ⟨W1, hW1⟩ : ∃ W1, W1 = w.alloc (.cells #[.slice o1 n1 f1, .slice o2 n2 f2, .slice o3 n3 f3] 26) := ⟨_, rfl⟩
  have hb1 : Below w.heap.size w W1 := by rw [hW1]; exact (Below.refl _ _).alloc (Nat.le_refl _) _
  have k1 : BlkIs W1 w.heap.size 26 #[.slice o1 n1 f1, .slice o2 n2 f2, .slice o3 n3 f3] := by rw [hW1]; exact BlkIs.new _ _ _
  have H := Lib.hid (And.intro (h2.later hb1) (h3.later hb1))
  have HN := Lib.hid (And.intro hn2 hn3)
  have HB := Lib.hid hb1
  have HW := Lib.hid hW1
  have d1 : W1.cell? ⟨w.heap.size, 1, none⟩ = some (.slice o2 n2 f2) := k1.cell 1
  have d2 : W1.cell? ⟨w.heap.size, 2, none⟩ = some (.slice o3 n3 f3) := k1.cell 2
  clear h1 h2 h3 h4 hn1 hn2 hn3 hW1 s4 hR s1 hb1 k1
  go_enter Tryz.func30, Tryz.ntmps30
  go_wp2_with fail
  rw [← HW.out]
  clear HW
  go_loopw [5, 6, 7] (fun m b i wr => ∃ (z : Int) (p : Bool) (k : Nat), m = .int .i64 z ∧ b = .bool p ∧ i = .int .i64 (k : Int) ∧ k ≤ n2 ∧ Hid (pm (usedT (toks.take k) node) = (z, p)) ∧ W1 = wr) (fun _ _ i _ => n2 - (intOf i).toNat)
  case atStart => exact ⟨_, _, 0, rfl, rfl, rfl, Nat.zero_le _, Lib.hid rfl, rfl⟩
  case round =>
    obtain ⟨z, p, k, rfl, rfl, rfl, hkn, HL, rfl⟩ := hrel
    rcases Nat.lt_or_ge k n2 with hlt | hge
    · have ki : (k : Int) < n2 := by omega
      have kw : IntKind.i64.wrap ((k : Int) + 1) = ((k + 1 : Nat) : Int) := IntWalk.i64_in _ (by omega)
      have hkl : k < toks.length := by have := HN.out; omega
      obtain ⟨b, off, ha, hblt, hc⟩ := H.out.1.at_ (by omega)
      obtain ⟨x, hx⟩ : ∃ x, x = toks[k] := ⟨_, rfl⟩
      have e0 := hc k hkl 0 _ (by rw [← hx]; rfl)
      have e1 := hc k hkl 1 _ (by rw [← hx]; rfl)
      have hst : usedT (toks.take (k + 1)) node = usedT (toks.take k) node ++ if x.node = node then [x.n] else [] := by
        rw [take_snoc' hkl, ← hx]
        exact usedT_snoc _ _ _
      obtain ⟨a0, a1, a2⟩ := x
      dsimp only at e0 e1 hst
      rw [show off + k * 3 + 0 = off + k * 3 from rfl] at e0
      subst ha
      have HSt := Lib.hid hst
      clear hblt hc hx hkl hst
      by_cases hq : a0 = node
      · subst hq
        have q0 : (a0 == a0) = true := by simp
        rw [if_pos rfl] at HSt
        cases p
        · have hp := pm_new HL.out a1
          rw [← HSt.out] at hp
          have HP := Lib.hid hp
          clear hp
          go_wp2_with fail
          exact ⟨⟨_, _, k + 1, rfl, rfl, by simp, by omega, HP, trivial⟩, by simp [intOf]; omega⟩
        · have hp := pm_old HL.out a1
          rw [← HSt.out] at hp
          by_cases hz : z < a1
          · rw [show max z a1 = a1 by omega] at hp
            have HP := Lib.hid hp
            clear hp
            go_wp2_with fail
            exact ⟨⟨_, _, k + 1, rfl, rfl, by simp, by omega, HP, trivial⟩, by simp [intOf]; omega⟩
          · rw [show max z a1 = z by omega] at hp
            have HP := Lib.hid hp
            have hz' : decide (z < a1) = false := decide_eq_false hz
            clear hp hz
            go_wp2_with fail
            exact ⟨⟨_, _, k + 1, rfl, rfl, by simp, by omega, HP, trivial⟩, by simp [intOf]; omega⟩
      · have q0 : (a0 == node) = false := by simpa using hq
        have hp := HL.out
        rw [if_neg hq, List.append_nil] at HSt
        rw [← HSt.out] at hp
        have HP := Lib.hid hp
        clear hq hp
        go_wp2_with fail
        exact ⟨⟨_, _, k + 1, rfl, rfl, by simp, by omega, HP, trivial⟩, by simp [intOf]; omega⟩
    · have ki : decide (k < n2) = false := decide_eq_false (by omega)
      obtain rfl : n2 = k := by omega
      clear hge
      have hp := HL.out
      rw [HN.out.1, List.take_length] at hp
      rw [show usedT toks node = usedT toks node ++ usedB ((zs.map (·.t)).take 0) node by rw [List.take_zero, show usedB [] node = [] from rfl, List.append_nil]] at hp
      have HP := Lib.hid hp
      clear hp HL
      go_wp2_with fail
      go_loopw [5, 6, 8] (fun m b i wr => ∃ (z : Int) (p : Bool) (k : Nat), m = .int .i64 z ∧ b = .bool p ∧ i = .int .i64 (k : Int) ∧ k ≤ n3 ∧ Hid (pm (usedT toks node ++ usedB ((zs.map (·.t)).take k) node) = (z, p)) ∧ W1 = wr) (fun _ _ i _ => n3 - (intOf i).toNat)
      case atStart => exact ⟨_, _, 0, rfl, rfl, rfl, Nat.zero_le _, HP, rfl⟩
      case round =>
        obtain ⟨z, p, k, rfl, rfl, rfl, hkn, HL, rfl⟩ := hrel
        rcases Nat.lt_or_ge k n3 with hlt | hge
        · have ki : (k : Int) < n3 := by omega
          have kw : IntKind.i64.wrap ((k : Int) + 1) = ((k + 1 : Nat) : Int) := IntWalk.i64_in _ (by omega)
          have hkl : k < zs.length := by have := HN.out; omega
          obtain ⟨b, off, ha, hblt, hc⟩ := H.out.2.at_ (by omega)
          obtain ⟨x, hx⟩ : ∃ x, x = zs[k] := ⟨_, rfl⟩
          have e0 := hc k hkl 0 _ (by rw [← hx]; rfl)
          have e1 := hc k hkl 1 _ (by rw [← hx]; rfl)
          have hst : usedT toks node ++ usedB ((zs.map (·.t)).take (k + 1)) node = (usedT toks node ++ usedB ((zs.map (·.t)).take k) node) ++ if x.t.node = node then [x.t.n] else [] := by
            rw [take_snoc' (by rw [List.length_map]; exact hkl), List.getElem_map, ← hx, List.append_assoc]
            exact congrArg _ (usedB_snoc _ _ _)
          obtain ⟨⟨a0, a1, a2, a3, a4⟩, a5, a6⟩ := x
          dsimp only at e0 e1 hst
          rw [show off + k * 5 + 0 = off + k * 5 from rfl] at e0
          subst ha
          have HSt := Lib.hid hst
          clear hblt hc hx hkl hst
          by_cases hq : a0 = node
          · subst hq
            have q0 : (a0 == a0) = true := by simp
            rw [if_pos rfl] at HSt
            cases p
            · have hp := pm_new HL.out a1
              rw [← HSt.out] at hp
              have HP := Lib.hid hp
              clear hp
              go_wp2_with fail
              exact ⟨⟨_, _, k + 1, rfl, rfl, by simp, by omega, HP, trivial⟩, by simp [intOf]; omega⟩
            · have hp := pm_old HL.out a1
              rw [← HSt.out] at hp
              by_cases hz : z < a1
              · rw [show max z a1 = a1 by omega] at hp
                have HP := Lib.hid hp
                clear hp
                go_wp2_with fail
                exact ⟨⟨_, _, k + 1, rfl, rfl, by simp, by omega, HP, trivial⟩, by simp [intOf]; omega⟩
              · rw [show max z a1 = z by omega] at hp
                have HP := Lib.hid hp
                have hz' : decide (z < a1) = false := decide_eq_false hz
                clear hp hz
                go_wp2_with fail
                exact ⟨⟨_, _, k + 1, rfl, rfl, by simp, by omega, HP, trivial⟩, by simp [intOf]; omega⟩
          · have q0 : (a0 == node) = false := by simpa using hq
            have hp := HL.out
            rw [if_neg hq, List.append_nil] at HSt
            rw [← HSt.out] at hp
            have HP := Lib.hid hp
            clear hq hp
            go_wp2_with fail
            exact ⟨⟨_, _, k + 1, rfl, rfl, by simp, by omega, HP, trivial⟩, by simp [intOf]; omega⟩
        · have ki : decide (k < n3) = false := decide_eq_false (by omega)
          obtain rfl : n3 = k := by omega
          clear hge
          have hp := HL.out
          rw [List.take_of_length_le (by rw [List.length_map, ← HN.out.2]; exact Nat.le_refl _)] at hp
          have hRR := HR.out z p hp
          have HRR := Lib.hid hRR
          clear hp hRR
          cases p
          · go_wp2_with fail
            go_ret
            exact ⟨by rw [HRR.out]; rfl, HB.out⟩
          · go_wp2_with fail
            go_ret
            exact ⟨by rw [HRR.out]; rfl, HB.out⟩
end Go.Proofs.YtngflbakmlddeaaGreat.Mk
