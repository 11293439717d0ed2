/- trie.Check, walked. Conditions: at most 1,000,000 ids. Printed by gen_trh.py. (Layer 10.) -/
import Derived.Test.YtljenganlknhbaaGreatTrG
namespace Go.Proofs.YtljenganlknhbaaGreat.Tr
set_option linter.unusedVariables false
set_option linter.unusedSimpArgs false
open Go.RowKit Go.Lib
open Set (StrAt scells El Rise)
def all32 (l : List ByteArray) : Bool := l.all fun x => decide (x.size = 32)
theorem all32_iff {l : List ByteArray} : all32 l = true ↔ ∀ x, x ∈ l → x.size = 32 := by
  unfold all32
  simp [List.all_eq_true]
theorem odd_any (s : ByteArray) (w : World) : Calls Tryz.prog 78 #[.string s] w fun e w' => e = .returned (.bool (!decide (s.size = 32))) ∧ w = w' := by
  have G := Lib.hid (Path.ident_good s w)
  have e : ((s.size : Int) == 32) = decide (s.size = 32) := by
    by_cases h : s.size = 32
    · rw [decide_eq_true h]; simp; omega
    · rw [decide_eq_false h]; simp; omega
  rw [e] at G
  obtain ⟨q, hq⟩ : ∃ q, q = decide (s.size = 32) := ⟨_, rfl⟩
  rw [← hq] at G ⊢
  clear e hq
  go_enter Tryz.func78, Tryz.ntmps78
  go_wp2_with fail
  refine G.out.mono ?_
  rintro e w1 ⟨rfl, rfl⟩
  clear G
  go_wp2_with fail
  go_ret
  exact ⟨rfl, rfl⟩
set_option maxRecDepth 100000 in
set_option maxHeartbeats 1000000 in
theorem ixFunc_any (v : Value) (l : List ByteArray) (w : World) (h : StrAt w v l) (hn : l.length ≤ 1000000) :
    Calls Tryz.prog 83 #[v, .func (.func 78) #[] #[]] w fun e w' => w = w' ∧ ∃ n : Int, e = .returned (.int .i64 n) ∧ decide (0 ≤ n) = !all32 l := by
  have HS := Lib.hid h
  obtain ⟨ao, cap, rfl, h1, h2, -⟩ := h
  obtain ⟨n, hln⟩ : ∃ n, n = l.length := ⟨_, rfl⟩
  rw [← hln] at HS hn h1 ⊢
  have HL := Lib.hid hln
  clear hln
  go_enter Tryz.func83, Tryz.ntmps83
  go_wp2_with fail
  go_loopw [8] (fun c wr => ∃ k : Nat, c = .int .i64 (k : Int) ∧ k ≤ n ∧ wr = w ∧ Hid (∀ j, j < k → l[j]!.size = 32)) (fun c _ => ((n : Int) - RowKit.intOf c).toNat)
  case atStart => exact ⟨0, rfl, by omega, rfl, Lib.hid fun j hj => by omega⟩
  case round =>
    obtain ⟨k, rfl, hk, rfl, HK⟩ := hrel
    rcases Nat.lt_or_ge k n with h3 | h3
    · have k1 : (k : Int) < n := by omega
      have kw : IntKind.i64.wrap ((k : Int) + 1) = ((k + 1 : Nat) : Int) := IntWalk.i64_in _ (by omega)
      obtain ⟨b, off, hao, hlt, hc⟩ := strAt_at HS.out (by omega)
      subst hao
      have c0 := hc k h3
      obtain ⟨x, hx⟩ : ∃ x, x = l[k]! := ⟨_, rfl⟩
      rw [← hx] at c0
      have O := Lib.hid (odd_any x wr)
      have HX := Lib.hid hx
      clear hc hx
      by_cases hz : x.size = 32
      · rw [decide_eq_true hz] at O
        have HZ := Lib.hid hz
        clear hz
        go_wp2_with fail
        refine O.out.mono ?_
        rintro e _ ⟨rfl, rfl⟩
        clear O
        go_wp2_with fail
        refine ⟨⟨k + 1, by simp, by omega, by simp, Lib.hid fun j hj => ?_⟩, ?_⟩
        · rcases Nat.lt_or_ge j k with h5 | h5
          · exact HK.out j h5
          · obtain rfl : j = k := by omega
            rw [← HX.out]; exact HZ.out
        · simp [RowKit.intOf]
          omega
      · rw [decide_eq_false hz] at O
        have HZ := Lib.hid hz
        clear hz
        go_wp2_with fail
        refine O.out.mono ?_
        rintro e _ ⟨rfl, rfl⟩
        clear O
        go_wp2_with fail
        go_ret
        refine ⟨rfl, _, rfl, ?_⟩
        have : all32 l = false := by
          cases hq : all32 l with
          | false => rfl
          | true =>
            have h4 : k < l.length := by rw [← HL.out]; exact h3
            have := all32_iff.1 hq l[k]! (by rw [getElem!_pos l k h4]; exact List.getElem_mem h4)
            rw [← HX.out] at this
            exact absurd this HZ.out
        rw [this]
        exact decide_eq_true (by omega)
    · have k1 : decide ((k : Int) < n) = false := decide_eq_false (by omega)
      have k2 : ¬ ((k : Int) < n) := by omega
      obtain rfl : k = n := by omega
      go_wp2_with fail
      go_ret
      refine ⟨rfl, _, rfl, ?_⟩
      have : all32 l = true := all32_iff.2 fun x hx => by
        obtain ⟨i, hi, rfl⟩ := List.getElem_of_mem hx
        have := HK.out i (by rw [HL.out]; exact hi)
        rwa [getElem!_pos l i hi] at this
      rw [this]
      rfl
theorem cfFunc_any (v : Value) (l : List ByteArray) (w : World) (h : StrAt w v l) (hn : l.length ≤ 1000000) :
    Calls Tryz.prog 31 #[v, .func (.func 78) #[] #[]] w fun e w' => e = .returned (.bool (!all32 l)) ∧ w = w' := by
  have I := Lib.hid (ixFunc_any v l w h hn)
  obtain ⟨ao, cap, rfl, -, -, -⟩ := h
  obtain ⟨n, hln⟩ : ∃ n, n = l.length := ⟨_, rfl⟩
  obtain ⟨q, hq⟩ : ∃ q, q = all32 l := ⟨_, rfl⟩
  rw [← hln, ← hq] at I
  rw [← hln, ← hq]
  clear hln hn hq
  go_enter Tryz.func31, Tryz.ntmps31
  go_wp2_with fail
  refine I.out.mono ?_
  rintro e w1 ⟨rfl, n, rfl, hn⟩
  have hn2 : decide (0 ≤ n) = !q := hn
  clear I hn
  go_wp2_with fail
  go_ret
  exact ⟨by simp [hn2], rfl⟩
open Classical in
noncomputable def chk (c : Cp) : Int :=
  if pfxB c.pre = false ∨ c.cnt < 0 ∨ 1073741824 < c.cnt then 4
  else if c.cnt ≤ 8 then leafChk c
  else if 0 < c.ids.length ∨ c.kids.length ≠ 16 ∨ all32 c.kids = false ∨ 64 ≤ c.pre.size then 4
  else if c.sum ≠ innerS c.kids then 20 else 0
theorem chk_form {c : Cp} {n : Int} (h1 : pfxB c.pre = false ∨ c.cnt < 0 ∨ 1073741824 < c.cnt) (hn : n = 4) : chk c = n := by
  unfold chk; rw [if_pos h1, hn]
theorem chk_leaf {c : Cp} (h1 : ¬ (pfxB c.pre = false ∨ c.cnt < 0 ∨ 1073741824 < c.cnt)) (h2 : c.cnt ≤ 8) : chk c = leafChk c := by
  unfold chk; rw [if_neg h1, if_pos h2]
theorem chk_kids {c : Cp} {n : Int} (h1 : ¬ (pfxB c.pre = false ∨ c.cnt < 0 ∨ 1073741824 < c.cnt)) (h2 : ¬ c.cnt ≤ 8) (h3 : 0 < c.ids.length ∨ c.kids.length ≠ 16 ∨ all32 c.kids = false ∨ 64 ≤ c.pre.size) (hn : n = 4) : chk c = n := by
  unfold chk; rw [if_neg h1, if_neg h2, if_pos h3, hn]
theorem chk_sum {c : Cp} (h1 : ¬ (pfxB c.pre = false ∨ c.cnt < 0 ∨ 1073741824 < c.cnt)) (h2 : ¬ c.cnt ≤ 8) (h3 : ¬ (0 < c.ids.length ∨ c.kids.length ≠ 16 ∨ all32 c.kids = false ∨ 64 ≤ c.pre.size)) : chk c = if c.sum = innerS c.kids then 0 else 20 := by
  unfold chk
  rw [if_neg h1, if_neg h2, if_neg h3]
  by_cases h : c.sum = innerS c.kids <;> simp [h]
set_option maxRecDepth 100000 in
set_option maxHeartbeats 4000000 in
theorem check_any (c : Cp) (vi vk : Value) (w : World) (hi : StrAt w vi c.ids) (hk : StrAt w vk c.kids) (hn : c.ids.length ≤ 1000000) (hnk : c.kids.length ≤ 1000000) (hp : (c.pre.size : Int) ≤ 9223372036854775807) :
    Calls Tryz.prog 29 #[.agg #[.string c.pre, .int .i64 c.cnt, .string c.sum, vi, vk]] w fun e w' => e = .returned (.int .i64 (chk c)) ∧ Below w.heap.size w w' := by
  obtain ⟨oi, ci, rfl, hc1, hc2, -⟩ := id hi
  obtain ⟨ok, ck, rfl, hc3, hc4, -⟩ := id hk
  obtain ⟨pre, cnt, sum, ids, kids⟩ := c
  dsimp only at hi hk hn hnk hp hc1 hc2 hc3 hc4 ⊢
  obtain ⟨W0, hW0⟩ : ∃ W0, W0 = w.alloc (.cells #[.string pre, .int .i64 cnt, .string sum, .slice oi ids.length ci, .slice ok kids.length ck] 49) := ⟨_, rfl⟩
  obtain ⟨B, hB⟩ : ∃ B, B = w.heap.size := ⟨_, rfl⟩
  have K0 := Lib.hid (show BlkIs W0 B 49 #[.string pre, .int .i64 cnt, .string sum, .slice oi ids.length ci, .slice ok kids.length ck] by rw [hW0, hB]; exact BlkIs.new _ _ _)
  have HW := Lib.hid (show Below w.heap.size w W0 by rw [hW0]; exact (Below.refl _ _).alloc (Nat.le_refl _) _)
  have PX := Lib.hid (isPrefix_any pre hp W0)
  have CL := Lib.hid (fun W (hb : Below W0.heap.size W0 W) => checkLeaf_any ⟨pre, cnt, sum, ids, kids⟩ _ _ W ((hi.later HW.out).later hb) ((hk.later HW.out).later hb) hn hnk hp)
  have CF := Lib.hid (fun W (hb : Below W0.heap.size W0 W) => cfFunc_any _ kids W ((hk.later HW.out).later hb) hnk)
  have IN := Lib.hid (fun (hz : ∀ x, x ∈ kids → x.size = 32) W (hb : Below W0.heap.size W0 W) => inner_any _ kids W ((hk.later HW.out).later hb) hnk hz)
  have H0 := Lib.hid (And.intro hW0 hB)
  obtain ⟨ni, hni⟩ : ∃ n, n = ids.length := ⟨_, rfl⟩
  obtain ⟨nk, hnk2⟩ : ∃ n, n = kids.length := ⟨_, rfl⟩
  obtain ⟨Q4, hQ4⟩ : ∃ Q4, Q4 = leafChk ⟨pre, cnt, sum, ids, kids⟩ := ⟨_, rfl⟩
  dsimp only at CL
  rw [← hQ4] at CL
  rw [← hni] at K0 CL H0 hn hc1 ⊢
  rw [← hnk2] at K0 CL CF IN H0 hnk hc3 ⊢
  have HN := Lib.hid (And.intro hni (And.intro hnk2 hQ4))
  obtain ⟨q, hq⟩ : ∃ q, q = pfxB pre := ⟨_, rfl⟩
  rw [← hq] at PX
  have HQ := Lib.hid hq
  clear hW0 hB hi hk hni hnk2 hp hQ4 hq
  have HC := Lib.hid (show ∀ W, Below W0.heap.size W0 W → W.cell? ⟨B, 0, none⟩ = some (.string pre) ∧ W.cell? ⟨B, 1, none⟩ = some (.int .i64 cnt) ∧ W.cell? ⟨B, 2, none⟩ = some (.string sum) ∧ W.cell? ⟨B, 3, none⟩ = some (.slice oi ni ci) ∧ W.cell? ⟨B, 4, none⟩ = some (.slice ok nk ck) from fun W hb => by
    have K := K0.out.below hb K0.out.lt
    exact ⟨K.cell 0, K.cell 1, K.cell 2, K.cell 3, K.cell 4⟩)
  obtain ⟨d0, d1, d2, d3, d4⟩ := HC.out W0 (Below.refl _ _)
  obtain ⟨Z, hZ⟩ : ∃ Z, Z = chk ⟨pre, cnt, sum, ids, kids⟩ := ⟨_, rfl⟩
  rw [← hZ]
  have HZ := Lib.hid hZ
  clear hZ
  go_enter Tryz.func29, Tryz.ntmps29
  go_upto_region 1 with (fail)
  rw [← H0.out.1, ← H0.out.2]
  clear H0
  go_wp2_with fail
  refine PX.out.mono ?_
  rintro e w1 ⟨rfl, hb1⟩
  have B1 := Lib.hid hb1
  clear d0 d1 d2 d3 d4 PX hb1
  obtain ⟨d0, d1, d2, d3, d4⟩ := HC.out w1 B1.out
  have HF := Lib.hid (HW.out.trans (B1.out.mono HW.out.size))
  cases q with
  | false =>
    go_wp2_with fail
    go_ret
    exact ⟨by rw [HZ.out, chk_form (Or.inl HQ.out.symm) rfl]; rfl, HF.out⟩
  | true =>
    by_cases g1 : cnt < 0
    · go_wp2_with fail
      go_ret
      exact ⟨by rw [HZ.out, chk_form (Or.inr (Or.inl g1)) rfl]; rfl, HF.out⟩
    have g1' : decide (cnt < 0) = false := decide_eq_false g1
    by_cases g2 : 1073741824 < cnt
    · have G := Lib.hid (And.intro g1 g2)
      clear g1
      go_wp2_with fail
      go_ret
      exact ⟨by rw [HZ.out, chk_form (Or.inr (Or.inr G.out.2)) rfl]; rfl, HF.out⟩
    have g2' : decide (1073741824 < cnt) = false := decide_eq_false g2
    have HT := Lib.hid (show ¬ (pfxB (⟨pre, cnt, sum, ids, kids⟩ : Cp).pre = false ∨ (⟨pre, cnt, sum, ids, kids⟩ : Cp).cnt < 0 ∨ 1073741824 < (⟨pre, cnt, sum, ids, kids⟩ : Cp).cnt) from by
      dsimp only
      rw [← HQ.out]
      rintro (h | h | h)
      · cases h
      · exact g1 h
      · exact g2 h)
    clear g1 g2
    by_cases g3 : cnt ≤ 8
    · have G3 := Lib.hid g3
      go_wp2_with fail
      refine (CL.out w1 B1.out).mono ?_
      rintro e w2 ⟨rfl, hb2⟩
      have HF2 := Lib.hid (HF.out.trans (hb2.mono HF.out.size))
      clear CL hb2 d0 d1 d2 d3 d4
      go_wp2_with fail
      go_ret
      exact ⟨by rw [HZ.out, chk_leaf HT.out G3.out, ← HN.out.2.2]; rfl, HF2.out⟩
    have g3' : decide (cnt ≤ 8) = false := decide_eq_false g3
    have G3 := Lib.hid (show (8 : Int) < cnt by omega)
    clear g3
    rcases Nat.eq_zero_or_pos ni with g4 | g4
    · have g4a : decide ((ni : Int) > 0) = false := decide_eq_false (by omega)
      have g4b : decide ((0 : Int) < (ni : Int)) = false := decide_eq_false (by omega)
      have g4c : decide (0 < ni) = false := decide_eq_false (by omega)
      have G4 := Lib.hid g4
      clear g4
      by_cases g5 : (nk : Int) = 16
      · have g5a : ((nk : Int) != 16) = false := by simp [g5]
        have G5 := Lib.hid g5
        have CF1 := Lib.hid (CF.out w1 B1.out)
        obtain ⟨r, hr⟩ : ∃ r, r = all32 kids := ⟨_, rfl⟩
        rw [← hr] at CF1
        have HR := Lib.hid hr
        have g5n : nk = 16 := by omega
        clear hr g5
        cases r with
        | false =>
          clear g5n
          go_wp2_with fail
          refine CF1.out.mono ?_
          rintro e _ ⟨rfl, rfl⟩
          clear CF1
          go_wp2_with fail
          go_ret
          exact ⟨by rw [HZ.out, chk_kids HT.out (by have := G3.out; dsimp only; omega) (Or.inr (Or.inr (Or.inl HR.out.symm))) rfl]; rfl, HF.out⟩
        | true =>
          clear g5n
          go_wp2_with fail
          refine CF1.out.mono ?_
          rintro e _ ⟨rfl, rfl⟩
          clear CF1
          by_cases g6 : (64 : Int) ≤ (pre.size : Int)
          · have G6 := Lib.hid g6
            go_wp2_with fail
            go_ret
            exact ⟨by rw [HZ.out, chk_kids HT.out (by have := G3.out; dsimp only; omega) (Or.inr (Or.inr (Or.inr (by have := G6.out; dsimp only; omega)))) rfl]; rfl, HF.out⟩
          · have g6a : decide ((64 : Int) ≤ (pre.size : Int)) = false := decide_eq_false g6
            have G6 := Lib.hid g6
            have IN1 := Lib.hid (IN.out (all32_iff.1 HR.out.symm))
            obtain ⟨S, hS⟩ : ∃ S, S = innerS kids := ⟨_, rfl⟩
            rw [← hS] at IN1
            have HO := Lib.hid (show Z = if sum = S then 0 else 20 by
              rw [HZ.out, hS]
              refine chk_sum HT.out (by have := G3.out; dsimp only; omega) ?_
              dsimp only
              rw [← HN.out.1, ← HN.out.2.1, ← HR.out]
              rintro (h | h | h | h)
              · have := G4.out; omega
              · have := G5.out; omega
              · cases h
              · have := G6.out; omega)
            have c1 : ∀ X : LaterOf w1, X.w.cell? ⟨B, 2, none⟩ = some (.string sum) := fun X => (HC.out X.w (B1.out.trans (X.h.mono B1.out.size))).2.2.1
            have c2 : ∀ X : LaterOf w1, X.w.cell? ⟨B, 4, none⟩ = some (.slice ok nk ck) := fun X => (HC.out X.w (B1.out.trans (X.h.mono B1.out.size))).2.2.2.2
            have LX := Lib.hid (fun X : LaterOf w1 => IN1.out X.w (B1.out.trans (X.h.mono B1.out.size)))
            clear g6 hS IN IN1
            go_upto_region 8 with (fail)
            refine wp_region_all (fun w' => ∃ z : LaterOf w1, w' = z.w) (by kernel_rfl) (by kernel_rfl) ⟨LaterOf.start w1, rfl⟩ ?_
            clear d0 d1 d2 d3 d4
            by_cases he : sum = S
            · have z : (sum.toList != S.toList) = false := by rw [he]; simp
              repeat (go_big_quiet_step (first | exact LaterOf.call _ (LX.out _)))
              refine wpQuiet_nil ?_
              intro w12 hw12
              obtain ⟨X, rfl⟩ := hw12
              clear c1 c2 LX
              go_wp2_with fail
              go_ret
              refine ⟨?_, HF.out.trans (X.h.mono HF.out.size)⟩
              rw [HO.out, if_pos he]
              rfl
            · have z0 := ne_list he
              have z : (sum.toList != S.toList) = true := by rw [bne, z0]; rfl
              repeat (go_big_quiet_step (first | exact LaterOf.call _ (LX.out _)))
              refine wpQuiet_nil ?_
              intro w12 hw12
              obtain ⟨X, rfl⟩ := hw12
              clear c1 c2 LX
              go_wp2_with fail
              go_ret
              refine ⟨?_, HF.out.trans (X.h.mono HF.out.size)⟩
              rw [HO.out, if_neg he]
              rfl
      · have g5a : ((nk : Int) != 16) = true := by simpa using g5
        have g5b : (nk != 16) = true := by simp; omega
        have G5 := Lib.hid g5
        clear g5
        go_wp2_with fail
        go_ret
        exact ⟨by rw [HZ.out, chk_kids HT.out (by have := G3.out; dsimp only; omega) (Or.inr (Or.inl (by dsimp only; rw [← HN.out.2.1]; have := G5.out; omega))) rfl]; rfl, HF.out⟩
    · have g4a : (0 : Int) < (ni : Int) := by omega
      have G4 := Lib.hid g4
      clear g4
      go_wp2_with fail
      go_ret
      exact ⟨by rw [HZ.out, chk_kids HT.out (by have := G3.out; dsimp only; omega) (Or.inl (by dsimp only; rw [← HN.out.1]; exact G4.out)) rfl]; rfl, HF.out⟩
end Go.Proofs.YtljenganlknhbaaGreat.Tr
