/- trie.Draw, walked. Conditions: at most 1,000,000 ids. (Layer 10.) -/
import Derived.Test.YtjkhmjklmclpoaaGreatTrH
namespace Go.Proofs.YtjkhmjklmclpoaaGreat.Tr
set_option linter.unusedVariables false
set_option linter.unusedSimpArgs false
open Go.RowKit Go.Lib
open Set (StrAt scells El Rise)
/-- A prefix and one digit more. -/
def ext (p : ByteArray) (d : Nat) : ByteArray := p ++ ⟨#[sgn d]⟩
theorem ext_size (p : ByteArray) (d : Nat) : (ext p d).size = p.size + 1 := by
  unfold ext
  rw [ByteArray.size_append]
  rfl
def mineS (ids : List ByteArray) (p : ByteArray) : ByteArray := (cellS 65 p.size (belowL ids p)).1
noncomputable def lacksL (ids : List ByteArray) (c : Cp) : List ByteArray := c.ids.filter fun x => !(Set.has ids x)
def asksU (ids : List ByteArray) (c : Cp) : Nat → List ByteArray
  | 0 => []
  | k + 1 => if c.kids[k]! ≠ mineS ids (ext c.pre k) ∧ c.kids[k]! ≠ leafS [] then asksU ids c k ++ [ext c.pre k] else asksU ids c k
theorem asksU_succ (ids : List ByteArray) (c : Cp) (k : Nat) : asksU ids c (k + 1) = if c.kids[k]! ≠ mineS ids (ext c.pre k) ∧ c.kids[k]! ≠ leafS [] then asksU ids c k ++ [ext c.pre k] else asksU ids c k := rfl
theorem asksU_le (ids : List ByteArray) (c : Cp) : ∀ k, (asksU ids c k).length ≤ k
  | 0 => Nat.le_refl _
  | k + 1 => by
    have := asksU_le ids c k
    unfold asksU
    split
    · simp; omega
    · omega
/-- What a right cell is. -/
theorem chk_ok {c : Cp} (h : chk c = 0) : pfxB c.pre = true ∧ ((c.kids = [] ∧ IsSet c.ids ∧ c.ids.length ≤ 8 ∧ (c.ids.length : Int) = c.cnt ∧ (belowL c.ids c.pre).length = c.ids.length ∧ c.sum = leafS c.ids) ∨ (c.ids = [] ∧ c.kids.length = 16 ∧ (∀ x, x ∈ c.kids → x.size = 32) ∧ c.pre.size < 64 ∧ c.sum = innerS c.kids ∧ 8 < c.cnt)) := by
  unfold chk at h
  by_cases h1 : pfxB c.pre = false ∨ c.cnt < 0 ∨ 1073741824 < c.cnt
  · rw [if_pos h1] at h; omega
  rw [if_neg h1] at h
  have hp : pfxB c.pre = true := by
    cases hq : pfxB c.pre with
    | true => rfl
    | false => exact absurd (Or.inl hq) h1
  refine ⟨hp, ?_⟩
  by_cases h2 : c.cnt ≤ 8
  · rw [if_pos h2] at h
    unfold leafChk at h
    by_cases h3 : (c.ids.length : Int) ≠ c.cnt ∨ 0 < c.kids.length ∨ ¬ IsSet c.ids ∨ ((belowL c.ids c.pre).length : Int) ≠ c.cnt
    · rw [if_pos h3] at h; omega
    rw [if_neg h3] at h
    by_cases h4 : c.sum ≠ leafS c.ids
    · rw [if_pos h4] at h; omega
    have a1 : (c.ids.length : Int) = c.cnt := Classical.byContradiction fun hh => h3 (Or.inl hh)
    have a2 : ¬ 0 < c.kids.length := fun hh => h3 (Or.inr (Or.inl hh))
    have a3 : IsSet c.ids := Classical.byContradiction fun hh => h3 (Or.inr (Or.inr (Or.inl hh)))
    have a4 : ((belowL c.ids c.pre).length : Int) = c.cnt := Classical.byContradiction fun hh => h3 (Or.inr (Or.inr (Or.inr hh)))
    exact Or.inl ⟨List.eq_nil_of_length_eq_zero (by omega), a3, by omega, a1, by omega, Classical.byContradiction fun hh => h4 hh⟩
  · rw [if_neg h2] at h
    by_cases h3 : 0 < c.ids.length ∨ c.kids.length ≠ 16 ∨ all32 c.kids = false ∨ 64 ≤ c.pre.size
    · rw [if_pos h3] at h; omega
    rw [if_neg h3] at h
    by_cases h4 : c.sum ≠ innerS c.kids
    · rw [if_pos h4] at h; omega
    have a1 : ¬ 0 < c.ids.length := fun hh => h3 (Or.inl hh)
    have a2 : c.kids.length = 16 := Classical.byContradiction fun hh => h3 (Or.inr (Or.inl hh))
    have a3 : all32 c.kids = true := by
      cases hq : all32 c.kids with
      | true => rfl
      | false => exact absurd (Or.inr (Or.inr (Or.inl hq))) h3
    have a4 : ¬ 64 ≤ c.pre.size := fun hh => h3 (Or.inr (Or.inr (Or.inr hh)))
    exact Or.inr ⟨List.eq_nil_of_length_eq_zero (by omega), a2, all32_iff.1 a3, by omega, Classical.byContradiction fun hh => h4 hh, by omega⟩
noncomputable def drawE (ids : List ByteArray) (c : Cp) : Int := if holds (IsSet ids) then chk c else 1
noncomputable def drawL (ids : List ByteArray) (c : Cp) : List ByteArray := if drawE ids c = 0 then lacksL ids c else []
noncomputable def drawA (ids : List ByteArray) (c : Cp) : List ByteArray := if drawE ids c = 0 then asksU ids c c.kids.length else []
def DrawOut (ids : List ByteArray) (c : Cp) (w w' : World) (e : Ending) : Prop :=
  ∃ u v, e = .returned (.tuple #[u, v, .int .i64 (drawE ids c)]) ∧ StrAt w' u (drawL ids c) ∧ StrAt w' v (drawA ids c) ∧ Below w.heap.size w w'
theorem draw_refused {ids : List ByteArray} {c : Cp} {w w' : World} {n : Int} (h : drawE ids c = n) (hn : n ≠ 0) (hb : Below w.heap.size w w') : DrawOut ids c w w' (.returned (.tuple #[.slice none 0 0, .slice none 0 0, .int .i64 n])) :=
  ⟨_, _, by rw [h], by unfold drawL; rw [if_neg (by omega)]; exact strAt_nil _, by unfold drawA; rw [if_neg (by omega)]; exact strAt_nil _, hb⟩
theorem digs_ext : ∀ d : Fin 16, digs.extract d.val (d.val + 1) = ⟨#[sgn d.val]⟩ := by decide
set_option maxRecDepth 100000 in
set_option maxHeartbeats 3000000 in
theorem draw_any (vl : Value) (l : List ByteArray) (c : Cp) (vi vk : Value) (w : World) (hl : StrAt w vl l) (hi : StrAt w vi c.ids) (hk : StrAt w vk c.kids) (hnl : l.length ≤ 1000000) (hn : c.ids.length ≤ 1000000) (hnk : c.kids.length ≤ 1000000) (hp : (c.pre.size : Int) ≤ 9223372036854775807) :
    Calls Tryz.prog 15 #[vl, .agg #[.string c.pre, .int .i64 c.cnt, .string c.sum, vi, vk]] w fun e w' => DrawOut l c w w' e := by
  obtain ⟨ol, cl, rfl, hcl1, hcl2, -⟩ := id hl
  obtain ⟨oi, ci, rfl, hc1, hc2, -⟩ := id hi
  obtain ⟨ok, ck, rfl, hc3, hc4, -⟩ := id hk
  obtain ⟨W0, hW0⟩ : ∃ W0, W0 = w.alloc (.cells #[.string c.pre, .int .i64 c.cnt, .string c.sum, .slice oi c.ids.length ci, .slice ok c.kids.length ck] 25) := ⟨_, rfl⟩
  obtain ⟨B, hB⟩ : ∃ B, B = w.heap.size := ⟨_, rfl⟩
  have K0 := Lib.hid (show BlkIs W0 B 25 #[.string c.pre, .int .i64 c.cnt, .string c.sum, .slice oi c.ids.length ci, .slice ok c.kids.length ck] by rw [hW0, hB]; exact BlkIs.new _ _ _)
  have HW := Lib.hid (show Below w.heap.size w W0 by rw [hW0]; exact (Below.refl _ _).alloc (Nat.le_refl _) _)
  have SL := Lib.hid (hl.later HW.out)
  have SI := Lib.hid (hi.later HW.out)
  have SK := Lib.hid (hk.later HW.out)
  have IS := Lib.hid (isSet_any _ l W0 SL.out hnl)
  have CK := Lib.hid (check_any c _ _ W0 SI.out SK.out hn hnk hp)
  have H0 := Lib.hid (And.intro hW0 hB)
  obtain ⟨pre, cnt, sum, ids, kids⟩ := c
  dsimp only at K0 SI SK CK H0 hn hnk hp hc1 hc2 hc3 hc4 ⊢
  obtain ⟨nl, hnl2⟩ : ∃ n, n = l.length := ⟨_, rfl⟩
  obtain ⟨ni, hni⟩ : ∃ n, n = ids.length := ⟨_, rfl⟩
  obtain ⟨nk, hnk2⟩ : ∃ n, n = kids.length := ⟨_, rfl⟩
  obtain ⟨z, hz⟩ : ∃ z, z = chk ⟨pre, cnt, sum, ids, kids⟩ := ⟨_, rfl⟩
  rw [← hz] at CK
  rw [← hni] at K0 SI CK H0 hn hc1 ⊢
  rw [← hnk2] at K0 SK CK H0 hnk hc3 ⊢
  rw [← hnl2] at SL IS hnl hcl1 ⊢
  have HN := Lib.hid (And.intro hni (And.intro hnk2 (And.intro hnl2 hz)))
  obtain ⟨q, hq⟩ : ∃ q, q = holds (IsSet l) := ⟨_, rfl⟩
  rw [← hq] at IS
  have HQ := Lib.hid hq
  obtain ⟨C, hC⟩ : ∃ C : Cp, C = ⟨pre, cnt, sum, ids, kids⟩ := ⟨_, rfl⟩
  rw [← hC] at HN ⊢
  have HCC := Lib.hid hC
  clear hW0 hB hi hk hl hni hnk2 hnl2 hp hz hq hC
  have HC := Lib.hid (show ∀ W, Below W0.heap.size W0 W → W.cell? ⟨B, 0, none⟩ = some (.string pre) ∧ W.cell? ⟨B, 1, none⟩ = some (.int .i64 cnt) ∧ W.cell? ⟨B, 2, none⟩ = some (.string sum) ∧ W.cell? ⟨B, 3, none⟩ = some (.slice oi ni ci) ∧ W.cell? ⟨B, 4, none⟩ = some (.slice ok nk ck) from fun W hb => by
    have K := K0.out.below hb K0.out.lt
    exact ⟨K.cell 0, K.cell 1, K.cell 2, K.cell 3, K.cell 4⟩)
  obtain ⟨d0, d1, d2, d3, d4⟩ := HC.out W0 (Below.refl _ _)
  go_enter Tryz.func15, Tryz.ntmps15
  go_upto_region 1 with (fail)
  rw [← H0.out.1, ← H0.out.2]
  clear H0
  go_wp2_with fail
  refine IS.out.mono ?_
  rintro e _ ⟨rfl, rfl⟩
  clear IS
  cases q with
  | false =>
    go_wp2_with fail
    go_ret3
    exact draw_refused (by unfold drawE; rw [← HQ.out]; rfl) (by decide) HW.out
  | true =>
    go_wp2_with fail
    refine CK.out.mono ?_
    rintro e w1 ⟨rfl, hb1⟩
    have B1 := Lib.hid hb1
    clear d0 d1 d2 d3 d4 CK hb1
    by_cases hz0 : z = 0
    · obtain ⟨d0, d1, d2, d3, d4⟩ := HC.out w1 B1.out
      have z1 : (z != 0) = false := by simp [hz0]
      have HZ := Lib.hid hz0
      clear hz0
      go_wp2_with fail
      have HSET := Lib.hid (show IsSet l from holds_iff.1 HQ.out.symm)
      have SE := Lib.hid (fun x W (hb : Below W0.heap.size W0 W) => Set.search_string _ l x W (SL.out.later hb) HSET.out.rise (by rw [← HN.out.2.2.1]; exact hnl))
      go_loopw [4, 29] (fun u c wr => ∃ k : Nat, c = .int .i64 (k : Int) ∧ k ≤ ni ∧ Hid (SlIs wr W0.heap.size 9 1 u ((ids.take k).filter fun x => !(Set.has l x)).length (scells ((ids.take k).filter fun x => !(Set.has l x))) ∧ Below W0.heap.size W0 wr)) (fun _ c _ => ((ni : Int) - intOf c).toNat)
      case atStart => exact ⟨0, rfl, by omega, Lib.hid ⟨SlIs.nil_ _ _ _ _, B1.out⟩⟩
      case round =>
        obtain ⟨k, rfl, hk, HK⟩ := hrel
        have hbs := HK.out.2.size
        rcases Nat.lt_or_ge k ni with h3 | h3
        · have k1 : (k : Int) < ni := by omega
          have kw : IntKind.i64.wrap ((k : Int) + 1) = ((k + 1 : Nat) : Int) := IntWalk.i64_in _ (by omega)
          have SI2 := SI.out
          obtain ⟨b, off, hao, hlt, hc⟩ := strAt_at SI2 (by omega)
          subst hao
          have c0 := hc k h3
          rw [← HK.out.2.cell hlt] at c0
          obtain ⟨x, hx⟩ : ∃ x, x = ids[k]! := ⟨_, rfl⟩
          rw [← hx] at c0
          have S1 := Lib.hid (SE.out x wr HK.out.2)
          have ht : (ids.take (k + 1)).filter (fun x => !(Set.has l x)) = if (!(Set.has l x)) = true then (ids.take k).filter (fun x => !(Set.has l x)) ++ [x] else (ids.take k).filter (fun x => !(Set.has l x)) := by
            have hkl : k < ids.length := by rw [← HN.out.1]; exact h3
            rw [List.take_add_one, List.getElem?_eq_getElem hkl, List.filter_append, hx, getElem!_pos ids k hkl]
            cases hq : Set.has l ids[k] <;> simp [hq]
          obtain ⟨m, hm⟩ : ∃ m, m = (ids.take k).filter (fun x => !(Set.has l x)) := ⟨_, rfl⟩
          have hml : m.length ≤ 1000000 := by rw [hm]; exact Nat.le_trans (List.length_filter_le _ _) (by rw [List.length_take]; omega)
          rw [← hm] at ht
          have HM := Lib.hid hm
          have HT := Lib.hid ht
          obtain ⟨ps, hps⟩ : ∃ ps, ps = Set.pos l x := ⟨_, rfl⟩
          rw [← hps] at S1
          obtain ⟨r, hr⟩ : ∃ r, r = Set.has l x := ⟨_, rfl⟩
          rw [← hr] at S1
          have HR := Lib.hid hr
          clear hc hx ht hm hps hr SI2
          cases r with
          | true =>
            go_wp2_with fail
            refine S1.out.mono ?_
            rintro e w2 ⟨rfl, hd⟩
            have HN2 := Lib.hid (And.intro (HK.out.1.later (hd.below _)) (HK.out.2.trans (hd.below _)))
            clear S1 hd
            go_wp2_with fail
            refine ⟨⟨k + 1, by simp, by omega, Lib.hid ⟨?_, HN2.out.2⟩⟩, ?_⟩
            · have := HT.out
              rw [← HR.out] at this
              simp only [Bool.not_true, Bool.false_eq_true, if_false] at this
              rw [this, HM.out]
              exact HN2.out.1
            · simp [intOf]
              omega
          | false =>
            go_wp2_with fail
            refine S1.out.mono ?_
            rintro e w2 ⟨rfl, hd⟩
            have HN2 := Lib.hid (show SlIs w2 W0.heap.size 9 1 _ m.length (scells m) ∧ Below W0.heap.size W0 w2 from ⟨by rw [HM.out]; exact HK.out.1.later (hd.below _), HK.out.2.trans (hd.below _)⟩)
            have hb1 := HN2.out.2.size
            obtain ⟨ao2, cap2, rfl, hnc2, hcm2, hao2⟩ := HN2.out.1.form
            clear S1 hd
            go_wp2_with (at_builtin
                         refine wpList_append_sl rfl _ _ _ 22 rfl Set.el_string (.slice ao2 m.length cap2) m.length (scells m) rfl (HN2.out.1.alloc _) _ 1 [.string x] rfl (SrcIs.own Tryz.underlying22 (SlIs.made (base := 0) (BlkIs.new _ _ _) (Nat.zero_le _) rfl (by decide))) (by intro u hu; rcases List.mem_singleton.1 hu with rfl; rfl) (by unfold maxLen; omega) (by omega) (by simp only [World.size_alloc]; omega) ?_
                         intro v1 w5 hs1 hg1 hat1
                         have H5 := Lib.hid (And.intro hs1 hg1)
                         clear hs1 hg1 hat1 hao2)
            refine ⟨⟨k + 1, by simp, by omega, Lib.hid ⟨?_, ?_⟩⟩, ?_⟩
            · have := HT.out
              rw [← HR.out] at this
              simp only [Bool.not_false, if_true] at this
              rw [this]
              have e : scells (m ++ [x]) = scells m ++ [.string x] := by simp [scells]
              rw [e, List.length_append]
              exact H5.out.1
            · exact (HN2.out.2.alloc hb1 _).grown H5.out.2 (by simp only [World.size_alloc]; omega) fun j hj => (HN2.out.1.lt j hj).1
            · simp [intOf]
              omega
        · have k1 : decide ((k : Int) < ni) = false := decide_eq_false (by omega)
          have k2 : ¬ ((k : Int) < ni) := by omega
          obtain rfl : k = ni := by omega
          go_wp2_with fail
          obtain ⟨Y, hY⟩ : ∃ Y, Y = leafS [] := ⟨_, rfl⟩
          have LN := Lib.hid (leaf_any (.slice none 0 0) [] wr (strAt_nil wr) (by simp) (fun x hx => absurd hx (by simp)))
          rw [← hY] at LN
          have HY := Lib.hid hY
          have hlk : SlIs wr W0.heap.size 9 1 u4 (lacksL l C).length (scells (lacksL l C)) := by
            have := HK.out.1
            rw [HN.out.1, List.take_length] at this
            unfold lacksL
            rw [HCC.out]
            simpa using this
          obtain ⟨aoK, capK, rfl, -, -, -⟩ := hlk.form
          have HLK := Lib.hid (StrAt.of_sl hlk)
          clear hY hlk SE SI
          have hok := chk_ok (show chk C = 0 by rw [← HN.out.2.2.2]; exact HZ.out)
          have hpz : pre.size ≤ 64 := by
            have := hok.1
            rw [HCC.out] at this
            unfold pfxB at this
            simp at this
            exact this.1
          have hkz : nk = 0 ∨ (nk = 16 ∧ pre.size < 64) := by
            rcases hok.2 with ⟨h4, _⟩ | ⟨_, h4, _, h5, _⟩
            · left
              rw [HN.out.2.1, ← show C.kids = kids by rw [HCC.out], h4]
              rfl
            · right
              rw [HCC.out] at h4 h5
              exact ⟨by rw [HN.out.2.1]; exact h4, h5⟩
          have HKZ := Lib.hid hkz
          have HKA := Lib.hid (show C.kids = kids ∧ C.pre = pre by rw [HCC.out]; exact ⟨rfl, rfl⟩)
          clear hok hkz
          refine LN.out.mono ?_
          rintro e w2 ⟨rfl, hb2⟩
          have B2 := Lib.hid (HK.out.2.trans (hb2.mono HK.out.2.size))
          have LK2 := Lib.hid (HLK.out.later hb2)
          clear LN hb2 d0 d1 d2 d3 d4
          obtain ⟨d0, d1, d2, d3, d4⟩ := HC.out w2 B2.out
          go_wp2_with fail
          go_loopw [5, 50] (fun u c wr => ∃ d : Nat, c = .int .i64 (d : Int) ∧ d ≤ nk ∧ Hid (SlIs wr w2.heap.size 9 1 u (asksU l C d).length (scells (asksU l C d)) ∧ Below w2.heap.size w2 wr)) (fun _ c _ => ((nk : Int) - intOf c).toNat)
          case atStart => exact ⟨0, rfl, by omega, Lib.hid ⟨SlIs.nil_ _ _ _ _, Below.refl _ _⟩⟩
          case round =>
            obtain ⟨d, rfl, hd, HD⟩ := hrel
            have hbs2 := HD.out.2.size
            rcases Nat.lt_or_ge d nk with h5 | h5
            · have k1 : (d : Int) < nk := by omega
              have kw : IntKind.i64.wrap ((d : Int) + 1) = ((d + 1 : Nat) : Int) := IntWalk.i64_in _ (by omega)
              have hd16 : d < 16 := by rcases HKZ.out with h | h <;> omega
              have hpz2 : pre.size < 64 := by rcases HKZ.out with h | h <;> omega
              obtain ⟨b, off, hao, hlt, hc⟩ := strAt_at SK.out (by omega)
              subst hao
              have hlt2 : b < w2.heap.size := Nat.lt_of_lt_of_le hlt B2.out.size
              have c0 := hc d h5
              rw [← B2.out.cell hlt, ← HD.out.2.cell hlt2] at c0
              obtain ⟨x, hx⟩ : ∃ x, x = kids[d]! := ⟨_, rfl⟩
              rw [← hx] at c0
              obtain ⟨pd, hpd⟩ : ∃ pd, pd = ext pre d := ⟨_, rfl⟩
              have hpdz : pd.size = pre.size + 1 := by rw [hpd, ext_size]
              have y1 : digs.extract d (d + 1) = ⟨#[sgn d]⟩ := digs_ext ⟨d, hd16⟩
              unfold digs at y1
              obtain ⟨Sd, hSd⟩ : ∃ Sd : ByteArray, Sd = ⟨#[sgn d]⟩ := ⟨_, rfl⟩
              have y3 : Sd.size = 1 := by rw [hSd]; rfl
              rw [← hSd] at y1
              have y2 : pre ++ Sd = pd := by rw [hpd, hSd]; rfl
              have y4 : ¬ (9223372036854775807 < pre.size + Sd.size) := by omega
              have y5 : (0 : Int) ≤ (d : Int) := by omega
              have y6 : (d : Int) ≤ (d : Int) + 1 := by omega
              have y7 : (d : Int) + 1 ≤ 16 := by omega
              have HXP := Lib.hid (And.intro hx (And.intro hpd hpdz))
              clear hc hx hpd hSd hd16 hpdz
              go_upto_region 17 with (fail)
              have c1 : ∀ X : LaterOf wr, X.w.cell? ⟨B, 0, none⟩ = some (.string pre) := fun X => (HC.out X.w (B2.out.trans ((HD.out.2.trans (X.h.mono HD.out.2.size)).mono B2.out.size))).1
              refine wp_region_all (fun w' => ∃ z : LaterOf wr, w' = z.w) (by kernel_rfl) (by kernel_rfl) ⟨LaterOf.start wr, rfl⟩ ?_
              repeat (go_big_quiet_step (fail))
              refine wpQuiet_nil ?_
              intro w12 hw12
              obtain ⟨X, rfl⟩ := hw12
              clear c0 c1 d0 d1 d2 d3 d4 y1 y2 y3 y4 y5 y6 y7
              have BX := Lib.hid (HD.out.2.trans (X.h.mono HD.out.2.size))
              have BXW := Lib.hid (B2.out.trans (BX.out.mono B2.out.size))
              have DX := Lib.hid (HD.out.1.later X.h)
              obtain ⟨L, hL⟩ : ∃ L, L = belowL l pd := ⟨_, rfl⟩
              have hLz : ∀ x, x ∈ L → x.size = 32 := by rw [hL]; exact fun x hx => HSET.out.size (List.mem_filter.1 hx).1
              have hLn : L.length ≤ 1000000 := by rw [hL]; exact Nat.le_trans (List.length_filter_le _ _) (by rw [← HN.out.2.2.1]; exact hnl)
              have BL := Lib.hid (below_any _ l pd X.w (SL.out.later BXW.out) (by rw [← HN.out.2.2.1]; exact hnl) (by rw [HXP.out.2.2]; omega))
              rw [← hL] at BL
              have HL := Lib.hid (And.intro hL hLz)
              clear hL hLz
              obtain ⟨w3, hX3⟩ := X
              dsimp only at BX BXW DX BL ⊢
              go_wp2_with fail
              refine BL.out.mono ?_
              rintro e w4 ⟨u4, rfl, hs4, hb4⟩
              have B4 := Lib.hid (BX.out.trans (hb4.mono BX.out.size))
              have D4 := Lib.hid (DX.out.later hb4)
              obtain ⟨ao4, cap4, rfl, -, -, -⟩ := hs4.form
              have CE := Lib.hid (cell_any 65 pd.size _ L w4 (StrAt.of_sl hs4) hLn HL.out.2 (Or.inr ⟨by omega, by omega⟩) (by have := HXP.out.2.2; omega))
              obtain ⟨S, hS⟩ : ∃ S, S = (cellS 65 pd.size L).1 := ⟨_, rfl⟩
              unfold CellOut at CE
              rw [← hS] at CE
              have HS := Lib.hid (show S = mineS l pd by rw [hS, HL.out.1]; rfl)
              clear BL hs4 hb4 hS hLn
              go_wp2_with fail
              refine CE.out.mono ?_
              rintro e w5 ⟨u6, rfl, -, -, hb5⟩
              have B5 := Lib.hid (B4.out.trans (hb5.mono B4.out.size))
              have D5 := Lib.hid (D4.out.later hb5)
              clear CE hb5
              have HA := Lib.hid (show asksU l C (d + 1) = if x ≠ S ∧ x ≠ Y then asksU l C d ++ [pd] else asksU l C d by
                rw [asksU_succ, HKA.out.1, HKA.out.2, ← HXP.out.1, ← HXP.out.2.1, ← HS.out, ← HY.out])
              by_cases e1 : x = S
              · have z2 : (x.toList != S.toList) = false := by rw [e1]; simp
                have z2' : (x.toList == S.toList) = true := by rw [e1]; simp
                have E1 := Lib.hid e1
                clear e1
                go_wp2_with fail
                refine ⟨⟨d + 1, by simp, by omega, Lib.hid ⟨?_, B5.out⟩⟩, ?_⟩
                · rw [HA.out, if_neg (fun h => h.1 E1.out)]
                  exact D5.out
                · simp [intOf]
                  omega
              · have z0 := ne_list e1
                have z2 : (x.toList != S.toList) = true := by rw [bne, z0]; rfl
                have E1 := Lib.hid e1
                clear e1
                by_cases e2 : x = Y
                · have z3 : (x.toList != Y.toList) = false := by rw [e2]; simp
                  have z3' : (x.toList == Y.toList) = true := by rw [e2]; simp
                  have E2 := Lib.hid e2
                  clear e2
                  go_wp2_with fail
                  refine ⟨⟨d + 1, by simp, by omega, Lib.hid ⟨?_, B5.out⟩⟩, ?_⟩
                  · rw [HA.out, if_neg (fun h => h.2 E2.out)]
                    exact D5.out
                  · simp [intOf]
                    omega
                · have z4 := ne_list e2
                  have z3 : (x.toList != Y.toList) = true := by rw [bne, z4]; rfl
                  have E2 := Lib.hid e2
                  clear e2
                  obtain ⟨M, hM⟩ : ∃ M, M = asksU l C d := ⟨_, rfl⟩
                  have hml : M.length ≤ 1000 := by rw [hM]; have := asksU_le l C d; rcases HKZ.out with h | h <;> omega
                  have D6 := Lib.hid (show SlIs w5 w2.heap.size 9 1 u5 M.length (scells M) by rw [hM]; exact D5.out)
                  have HM := Lib.hid hM
                  have hb6 := B5.out.size
                  obtain ⟨ao2, cap2, rfl, hnc2, hcm2, hao2⟩ := D6.out.form
                  clear hM
                  go_wp2_with (at_builtin
                               refine wpList_append_sl rfl _ _ _ 22 rfl Set.el_string (.slice ao2 M.length cap2) M.length (scells M) rfl (D6.out.alloc _) _ 1 [.string pd] rfl (SrcIs.own Tryz.underlying22 (SlIs.made (base := 0) (BlkIs.new _ _ _) (Nat.zero_le _) rfl (by decide))) (by intro u hu; rcases List.mem_singleton.1 hu with rfl; rfl) (by unfold maxLen; omega) (by omega) (by simp only [World.size_alloc]; omega) ?_
                               intro v1 w7 hs1 hg1 hat1
                               have H7 := Lib.hid (And.intro hs1 ((B5.out.alloc hb6 (.cells #[.string pd] 9)).grown hg1 (by simp only [World.size_alloc]; omega) fun j hj => (D6.out.lt j hj).1))
                               clear hs1 hg1 hat1 hao2)
                  refine ⟨⟨d + 1, by simp, by omega, Lib.hid ⟨?_, H7.out.2⟩⟩, ?_⟩
                  · rw [HA.out, if_pos ⟨E1.out, E2.out⟩, ← HM.out]
                    have e : scells (M ++ [pd]) = scells M ++ [.string pd] := by simp [scells]
                    rw [e, List.length_append]
                    exact H7.out.1
                  · simp [intOf]
                    omega
            · have k1 : decide ((d : Int) < nk) = false := decide_eq_false (by omega)
              have k2 : ¬ ((d : Int) < nk) := by omega
              obtain rfl : d = nk := by omega
              have he : drawE l C = 0 := by unfold drawE; rw [← HQ.out, ← HN.out.2.2.2]; exact HZ.out
              have HE := Lib.hid he
              have D9 := Lib.hid (StrAt.of_sl HD.out.1)
              clear he
              go_wp2_with fail
              go_ret3
              refine ⟨_, _, by rw [HE.out]; rfl, ?_, ?_, HW.out.trans ((B2.out.trans (HD.out.2.mono B2.out.size)).mono HW.out.size)⟩
              · unfold drawL
                rw [if_pos HE.out]
                exact LK2.out.later HD.out.2
              · unfold drawA
                rw [if_pos HE.out, HKA.out.1, ← HN.out.2.1]
                exact D9.out
    · have z1 : (z != 0) = true := by simpa using hz0
      have HZ := Lib.hid hz0
      clear hz0
      go_wp2_with fail
      go_ret3
      exact draw_refused (by unfold drawE; rw [← HQ.out, ← HN.out.2.2.2]; rfl) HZ.out (HW.out.trans (B1.out.mono HW.out.size))
end Go.Proofs.YtjkhmjklmclpoaaGreat.Tr
