/- The reference's Draw, walked. Conditions: at most 1,000,000 ids. (Layer 10.) -/
import Derived.Test.YtjkhmjklmclpoaaGreatTrT2
import Derived.Test.YtjkhmjklmclpoaaGreatTrI
namespace Go.Proofs.YtjkhmjklmclpoaaGreat.Tr
set_option linter.unusedVariables false
set_option linter.unusedSimpArgs false
open Go.RowKit Go.Lib
open Set (StrAt scells El Rise)
/-- Two rows that share no block. -/
def Apart (a b : Value) : Prop := a.ownBlock = none ∨ a.ownBlock ≠ b.ownBlock
theorem Apart.symm {a b : Value} (h : Apart a b) : Apart b a := by
  unfold Apart at *
  rcases h with h | h
  · cases hb : b.ownBlock with
    | none => left; rfl
    | some k => right; rw [h]; simp
  · right; exact fun e => h e.symm
theorem Apart.next {a b b' : Value} {N : Nat} (h : Apart a b) (hat : b'.ownBlock = b.ownBlock ∨ b'.ownBlock = some N) (hlt : ∀ k, a.ownBlock = some k → k < N) : Apart a b' := by
  unfold Apart at *
  rcases h with h | h
  · left; exact h
  · rcases hat with e | e
    · right; rw [e]; exact h
    · cases ha : a.ownBlock with
      | none => left; rfl
      | some k =>
        right
        rw [e]
        intro hk
        have := hlt k ha
        simp at hk
        omega
theorem ref_none (w : World) : Calls Tryz.prog 42 #[.string ⟨#[108]⟩] w fun e w' => e = .returned (.string (leafS [])) ∧ Below w.heap.size w w' := by
  have S := Sha.refsum_any (⟨#[108]⟩ : ByteArray) w (by decide)
  exact S
set_option maxRecDepth 100000 in
set_option maxHeartbeats 8000000 in
theorem rdraw_any (vl : Value) (l : List ByteArray) (c : Cp) (vi vk : Value) (w : World) (hl : StrAt w vl l) (hi : StrAt w vi c.ids) (hk : StrAt w vk c.kids) (hnl : l.length ≤ 1000000) (hn : c.ids.length ≤ 1000000) (hnk : c.kids.length ≤ 1000000) (hp : (c.pre.size : Int) ≤ 9223372036854775807) :
    Calls Tryz.prog 16 #[vl, .agg #[.string c.pre, .int .i64 c.cnt, .string c.sum, vi, vk]] w fun e w' => DrawOut l c w w' e := by
  obtain ⟨ol, cl, rfl, hcl1, hcl2, -⟩ := id hl
  obtain ⟨oi, ci, rfl, hc1, hc2, -⟩ := id hi
  obtain ⟨ok, ck, rfl, hc3, hc4, -⟩ := id hk
  obtain ⟨W0, hW0⟩ : ∃ W0, W0 = w.alloc (.cells #[.string c.pre, .int .i64 c.cnt, .string c.sum, .slice oi c.ids.length ci, .slice ok c.kids.length ck] 25) := ⟨_, rfl⟩
  obtain ⟨B, hB⟩ : ∃ B, B = w.heap.size := ⟨_, rfl⟩
  have K0 := Lib.hid (show BlkIs W0 B 25 #[.string c.pre, .int .i64 c.cnt, .string c.sum, .slice oi c.ids.length ci, .slice ok c.kids.length ck] by rw [hW0, hB]; exact BlkIs.new _ _ _)
  have HW := Lib.hid (show Below w.heap.size w W0 by rw [hW0]; exact (Below.refl _ _).alloc (Nat.le_refl _) _)
  have SL := Lib.hid (hl.later HW.out)
  have SI := Lib.hid (hi.later HW.out)
  have SK := Lib.hid (hk.later HW.out)
  have IS := Lib.hid (rset_any _ l W0 SL.out hnl)
  have CK := Lib.hid (fun W (hb : Below W0.heap.size W0 W) => rcheck_any c _ _ W (SI.out.later hb) (SK.out.later hb) hn hnk hp)
  have H0 := Lib.hid (And.intro hW0 hB)
  obtain ⟨pre, cnt, sum, ids, kids⟩ := c
  dsimp only at K0 SI SK CK H0 hn hnk hp hc1 hc2 hc3 hc4 ⊢
  obtain ⟨nl, hnl2⟩ : ∃ n, n = l.length := ⟨_, rfl⟩
  obtain ⟨ni, hni⟩ : ∃ n, n = ids.length := ⟨_, rfl⟩
  obtain ⟨nk, hnk2⟩ : ∃ n, n = kids.length := ⟨_, rfl⟩
  obtain ⟨z, hz⟩ : ∃ z, z = chk ⟨pre, cnt, sum, ids, kids⟩ := ⟨_, rfl⟩
  rw [← hz] at CK
  rw [← hni] at K0 SI CK H0 hn hc1 ⊢
  rw [← hnk2] at K0 SK CK H0 hnk hc3 ⊢
  rw [← hnl2] at SL IS hnl hcl1 ⊢
  have HN := Lib.hid (And.intro hni (And.intro hnk2 (And.intro hnl2 hz)))
  obtain ⟨q, hq⟩ : ∃ q, q = holds (IsSet l) := ⟨_, rfl⟩
  rw [← hq] at IS
  have HQ := Lib.hid hq
  obtain ⟨C, hC⟩ : ∃ C : Cp, C = ⟨pre, cnt, sum, ids, kids⟩ := ⟨_, rfl⟩
  rw [← hC] at HN ⊢
  have HCC := Lib.hid hC
  clear hW0 hB hi hk hl hni hnk2 hnl2 hp hz hq hC
  have HC := Lib.hid (show ∀ W, Below W0.heap.size W0 W → W.cell? ⟨B, 0, none⟩ = some (.string pre) ∧ W.cell? ⟨B, 1, none⟩ = some (.int .i64 cnt) ∧ W.cell? ⟨B, 2, none⟩ = some (.string sum) ∧ W.cell? ⟨B, 3, none⟩ = some (.slice oi ni ci) ∧ W.cell? ⟨B, 4, none⟩ = some (.slice ok nk ck) from fun W hb => by
    have K := K0.out.below hb K0.out.lt
    exact ⟨K.cell 0, K.cell 1, K.cell 2, K.cell 3, K.cell 4⟩)
  obtain ⟨d0, d1, d2, d3, d4⟩ := HC.out W0 (Below.refl _ _)
  go_enter Tryz.func16, Tryz.ntmps16
  go_upto_region 1 with (fail)
  rw [← H0.out.1, ← H0.out.2]
  clear H0
  go_wp2_with fail
  refine IS.out.mono ?_
  rintro e w0 ⟨rfl, hb0⟩
  have B0 := Lib.hid hb0
  have CK1 := Lib.hid (CK.out w0 B0.out)
  clear d0 d1 d2 d3 d4 IS hb0 CK
  obtain ⟨d0, d1, d2, d3, d4⟩ := HC.out w0 B0.out
  cases q with
  | false =>
    go_wp2_with fail
    go_ret3
    exact draw_refused (by unfold drawE; rw [← HQ.out]; rfl) (by decide) (HW.out.trans (B0.out.mono HW.out.size))
  | true =>
    go_wp2_with fail
    refine CK1.out.mono ?_
    rintro e w1 ⟨rfl, hb1⟩
    have B1 := Lib.hid (B0.out.trans (hb1.mono B0.out.size))
    clear d0 d1 d2 d3 d4 CK1 hb1
    by_cases hz0 : z = 0
    · have z1 : (z != 0) = false := by simp [hz0]
      have HZ := Lib.hid hz0
      have HSET := Lib.hid (show IsSet l from holds_iff.1 HQ.out.symm)
      have RI := Lib.hid (fun x W (hb : Below W0.heap.size W0 W) => rin_any _ l x W (SL.out.later hb) (by rw [← HN.out.2.2.1]; exact hnl))
      clear hz0
      go_upto_region 8 with (fail)
      obtain ⟨W2, hW2⟩ : ∃ W2, W2 = (w1.alloc (.cells #[] 9)).alloc (.cells #[] 9) := ⟨_, rfl⟩
      obtain ⟨U8, hU8⟩ : ∃ U8, U8 = Value.slice (some ⟨w1.heap.size, 0, none⟩) 0 0 := ⟨_, rfl⟩
      obtain ⟨U9, hU9⟩ : ∃ U9, U9 = Value.slice (some ⟨w1.heap.size + 1, 0, none⟩) 0 0 := ⟨_, rfl⟩
      have R8 : SlIs W2 W0.heap.size 9 1 U8 0 [] := by
        rw [hW2, hU8]
        exact SlIs.alloc (SlIs.made (n := 0) (BlkIs.new _ _ _) B1.out.size rfl (by decide)) _
      have R9 : SlIs W2 W0.heap.size 9 1 U9 0 [] := by
        rw [hW2, hU9]
        have := SlIs.made (base := W0.heap.size) (n := 0) (size := 1) (BlkIs.new (w1.alloc (.cells #[] 9)) 9 #[]) (by rw [World.size_alloc]; have := B1.out.size; omega) rfl (by decide)
        rw [World.size_alloc] at this
        exact this
      have HAP : Apart U9 U8 := by
        rw [hU8, hU9]
        right
        simp [Value.ownBlock, World.size_alloc]
      have B2 := Lib.hid (show Below W0.heap.size W0 W2 by
        rw [hW2]
        exact (B1.out.alloc B1.out.size _).alloc (by rw [World.size_alloc]; have := B1.out.size; omega) _)
      rw [← hW2, ← hU8, ← hU9]
      have RR := Lib.hid (And.intro R8 (And.intro R9 HAP))
      clear R8 R9 HAP hW2 hU8 hU9
      obtain ⟨d0, d1, d2, d3, d4⟩ := HC.out W2 B2.out
      go_wp2_with fail
      go_loopw [8, 10] (fun u c wr => ∃ k : Nat, c = .int .i64 (k : Int) ∧ k ≤ ni ∧ Hid (SlIs wr W0.heap.size 9 1 u ((ids.take k).filter fun x => !(Set.has l x)).length (scells ((ids.take k).filter fun x => !(Set.has l x))) ∧ SlIs wr W0.heap.size 9 1 U9 0 [] ∧ Apart U9 u ∧ Below W0.heap.size W0 wr)) (fun _ c _ => ((ni : Int) - intOf c).toNat)
      case atStart => exact ⟨0, rfl, by omega, Lib.hid ⟨RR.out.1, RR.out.2.1, RR.out.2.2, B2.out⟩⟩
      case round =>
        obtain ⟨k, rfl, hk, HK⟩ := hrel
        have HB := Lib.hid HK.out.2.2.2
        have hbs := HB.out.size
        clear d0 d1 d2 d3 d4
        obtain ⟨d0, d1, d2, d3, d4⟩ := HC.out wr HB.out
        rcases Nat.lt_or_ge k ni with h3 | h3
        · have k1 : (k : Int) < ni := by omega
          have kw : IntKind.i64.wrap ((k : Int) + 1) = ((k + 1 : Nat) : Int) := IntWalk.i64_in _ (by omega)
          have SI2 := SI.out
          obtain ⟨b, off, hao, hlt, hc⟩ := strAt_at SI2 (by omega)
          subst hao
          have c0 := hc k h3
          rw [← HB.out.cell hlt] at c0
          obtain ⟨x, hx⟩ : ∃ x, x = ids[k]! := ⟨_, rfl⟩
          rw [← hx] at c0
          have S1 := Lib.hid (RI.out x wr HB.out)
          have ht : (ids.take (k + 1)).filter (fun x => !(Set.has l x)) = if (!(Set.has l x)) = true then (ids.take k).filter (fun x => !(Set.has l x)) ++ [x] else (ids.take k).filter (fun x => !(Set.has l x)) := by
            have hkl : k < ids.length := by rw [← HN.out.1]; exact h3
            rw [List.take_add_one, List.getElem?_eq_getElem hkl, List.filter_append, hx, getElem!_pos ids k hkl]
            cases hq : Set.has l ids[k] <;> simp [hq]
          obtain ⟨m, hm⟩ : ∃ m, m = (ids.take k).filter (fun x => !(Set.has l x)) := ⟨_, rfl⟩
          have hml : m.length ≤ 1000000 := by rw [hm]; exact Nat.le_trans (List.length_filter_le _ _) (by rw [List.length_take]; omega)
          rw [← hm] at ht
          have HM := Lib.hid hm
          have HT := Lib.hid ht
          obtain ⟨r, hr⟩ : ∃ r, r = Set.has l x := ⟨_, rfl⟩
          rw [← hr] at S1
          have HR := Lib.hid hr
          clear hc hx ht hm hr SI2
          cases r with
          | true =>
            go_wp2_with fail
            refine S1.out.mono ?_
            rintro e _ ⟨rfl, rfl⟩
            clear S1
            go_wp2_with fail
            refine ⟨⟨k + 1, by simp, by omega, Lib.hid ⟨?_, HK.out.2⟩⟩, ?_⟩
            · have := HT.out
              rw [← HR.out] at this
              simp only [Bool.not_true, Bool.false_eq_true, if_false] at this
              rw [this, HM.out]
              exact HK.out.1
            · simp [intOf]
              omega
          | false =>
            go_wp2_with fail
            refine S1.out.mono ?_
            rintro e _ ⟨rfl, rfl⟩
            have HN2 := Lib.hid (show SlIs wr W0.heap.size 9 1 _ m.length (scells m) ∧ Below W0.heap.size W0 wr from ⟨by rw [HM.out]; exact HK.out.1, HB.out⟩)
            have HK3 := Lib.hid HK.out.2
            obtain ⟨ao2, cap2, rfl, hnc2, hcm2, hao2⟩ := HN2.out.1.form
            clear S1 HK
            go_wp2_with (at_builtin
                         refine wpList_append_sl rfl _ _ _ 22 rfl Set.el_string (.slice ao2 m.length cap2) m.length (scells m) rfl (HN2.out.1.alloc _) _ 1 [.string x] rfl (SrcIs.own Tryz.underlying22 (SlIs.made (base := 0) (BlkIs.new _ _ _) (Nat.zero_le _) rfl (by decide))) (by intro u hu; rcases List.mem_singleton.1 hu with rfl; rfl) (by unfold maxLen; omega) (by omega) (by simp only [World.size_alloc]; omega) ?_
                         intro v1 w5 hs1 hg1 hat1
                         have H5 := Lib.hid (And.intro hs1 (And.intro hg1 hat1))
                         clear hs1 hg1 hat1 hao2)
            refine ⟨⟨k + 1, by simp, by omega, Lib.hid ⟨?_, ?_, ?_, ?_⟩⟩, ?_⟩
            · have := HT.out
              rw [← HR.out] at this
              simp only [Bool.not_false, if_true] at this
              rw [this]
              have e : scells (m ++ [x]) = scells m ++ [.string x] := by simp [scells]
              rw [e, List.length_append]
              exact H5.out.1
            · exact (HK3.out.1.alloc _).kept H5.out.2.1 HK3.out.2.1
            · exact HK3.out.2.1.next H5.out.2.2 fun k hk => ((HK3.out.1.alloc _).lt k hk).2
            · exact (HN2.out.2.alloc hbs _).grown H5.out.2.1 (by simp only [World.size_alloc]; omega) fun j hj => (HN2.out.1.lt j hj).1
            · simp [intOf]
              omega
        · have k1 : decide ((k : Int) < ni) = false := decide_eq_false (by omega)
          have k2 : ¬ ((k : Int) < ni) := by omega
          obtain rfl : k = ni := by omega
          have hlk : SlIs wr W0.heap.size 9 1 u8 (lacksL l C).length (scells (lacksL l C)) := by
            have := HK.out.1
            rw [HN.out.1, List.take_length] at this
            unfold lacksL
            rw [HCC.out]
            simpa using this
          have HLK := Lib.hid (And.intro hlk HK.out.2)
          clear hlk HK RI
          have hok := chk_ok (show chk C = 0 by rw [← HN.out.2.2.2]; exact HZ.out)
          have hpf : pfxB pre = true := by
            have := hok.1
            rwa [HCC.out] at this
          have hpz : pre.size ≤ 64 := by
            have := hpf
            unfold pfxB at this
            simp at this
            exact this.1
          have hkz : nk = 0 ∨ (nk = 16 ∧ pre.size < 64) := by
            rcases hok.2 with ⟨h4, _⟩ | ⟨_, h4, _, h5, _⟩
            · left
              rw [HN.out.2.1, ← show C.kids = kids by rw [HCC.out], h4]
              rfl
            · right
              rw [HCC.out] at h4 h5
              exact ⟨by rw [HN.out.2.1]; exact h4, h5⟩
          have HKZ := Lib.hid hkz
          have HPF := Lib.hid hpf
          have HKA := Lib.hid (show C.kids = kids ∧ C.pre = pre by rw [HCC.out]; exact ⟨rfl, rfl⟩)
          clear hok hkz hpf
          obtain ⟨Y, hY⟩ : ∃ Y, Y = leafS [] := ⟨_, rfl⟩
          have LN := Lib.hid (fun w => ref_none w)
          rw [← hY] at LN
          have HY := Lib.hid hY
          clear hY
          go_wp2_with fail
          go_loopw [9, 11] (fun u c wr => ∃ d : Nat, c = .int .i64 (d : Int) ∧ d ≤ nk ∧ Hid (SlIs wr W0.heap.size 9 1 u (asksU l C d).length (scells (asksU l C d)) ∧ SlIs wr W0.heap.size 9 1 u8 (lacksL l C).length (scells (lacksL l C)) ∧ Apart u8 u ∧ Below W0.heap.size W0 wr)) (fun _ c _ => ((nk : Int) - intOf c).toNat)
          case atStart => exact ⟨0, rfl, by omega, Lib.hid ⟨HLK.out.2.1, HLK.out.1, HLK.out.2.2.1.symm, HLK.out.2.2.2⟩⟩
          case round =>
            obtain ⟨d, rfl, hd, HD⟩ := hrel
            have HBD := Lib.hid HD.out.2.2.2
            have hbs2 := HBD.out.size
            clear d0 d1 d2 d3 d4
            obtain ⟨d0, d1, d2, d3, d4⟩ := HC.out wr HBD.out
            rcases Nat.lt_or_ge d nk with h5 | h5
            · have k1 : (d : Int) < nk := by omega
              have kw : IntKind.i64.wrap ((d : Int) + 1) = ((d + 1 : Nat) : Int) := IntWalk.i64_in _ (by omega)
              have hd16 : d < 16 := by rcases HKZ.out with h | h <;> omega
              have hpz2 : pre.size < 64 := by rcases HKZ.out with h | h <;> omega
              obtain ⟨b, off, hao, hlt, hc⟩ := strAt_at SK.out (by omega)
              subst hao
              have c0 := hc d h5
              obtain ⟨x, hx⟩ : ∃ x, x = kids[d]! := ⟨_, rfl⟩
              rw [← hx] at c0
              have HC0 := Lib.hid (show ∀ W, Below W0.heap.size W0 W → W.cell? ⟨b, off + d, none⟩ = some (.string x) from fun W hb => by rw [hb.cell hlt]; exact c0)
              obtain ⟨pd, hpd⟩ : ∃ pd, pd = ext pre d := ⟨_, rfl⟩
              have hpdz : pd.size = pre.size + 1 := by rw [hpd, ext_size]
              have hpdp : pfxB pd = true := by rw [hpd]; exact pfx_ext HPF.out hpz2 hd16
              have y1 : digs.extract d (d + 1) = ⟨#[sgn d]⟩ := digs_ext ⟨d, hd16⟩
              unfold digs at y1
              obtain ⟨Sd, hSd⟩ : ∃ Sd : ByteArray, Sd = ⟨#[sgn d]⟩ := ⟨_, rfl⟩
              have y3 : Sd.size = 1 := by rw [hSd]; rfl
              rw [← hSd] at y1
              have y2 : pre ++ Sd = pd := by rw [hpd, hSd]; rfl
              have y4 : ¬ (9223372036854775807 < pre.size + Sd.size) := by omega
              have y5 : (0 : Int) ≤ (d : Int) := by omega
              have y6 : (d : Int) ≤ (d : Int) + 1 := by omega
              have y7 : (d : Int) + 1 ≤ 16 := by omega
              have HXP := Lib.hid (And.intro hx (And.intro hpd (And.intro hpdz hpdp)))
              clear hc c0 hx hpd hSd hd16 hpdz hpdp
              go_upto_region 16 with (fail)
              have c1 : ∀ X : LaterOf wr, X.w.cell? ⟨B, 0, none⟩ = some (.string pre) := fun X => (HC.out X.w (HBD.out.trans (X.h.mono HBD.out.size))).1
              refine wp_region_all (fun w' => ∃ z : LaterOf wr, w' = z.w) (by kernel_rfl) (by kernel_rfl) ⟨LaterOf.start wr, rfl⟩ ?_
              repeat (go_big_quiet_step (fail))
              refine wpQuiet_nil ?_
              intro w12 hw12
              obtain ⟨X, rfl⟩ := hw12
              clear c1 d0 d1 d2 d3 d4 y1 y2 y3 y4 y5 y6 y7
              obtain ⟨w3, hX3⟩ := X
              dsimp only
              have BX := Lib.hid (HBD.out.trans (hX3.mono HBD.out.size))
              have DX := Lib.hid (And.intro (HD.out.1.later hX3) (And.intro (HD.out.2.1.later hX3) HD.out.2.2.1))
              have HS := Lib.hid (fun W (hb : Below w3.heap.size w3 W) => show W.cell? ⟨B, 4, none⟩ = some (.slice (some ⟨b, off, none⟩) nk ck) ∧ W.cell? ⟨b, off + d, none⟩ = some (.string x) from ⟨(HC.out W (BX.out.trans (hb.mono BX.out.size))).2.2.2.2, HC0.out W (BX.out.trans (hb.mono BX.out.size))⟩)
              have BL := Lib.hid (fun W (hb : Below w3.heap.size w3 W) => show Calls Tryz.prog 34 #[.slice ol nl cl, .string pd] W fun e w' => ∃ u, e = .returned u ∧ StrAt w' u (belowL l pd) ∧ Below W.heap.size W w' from (rbelow_any _ l pd W (SL.out.later (BX.out.trans (hb.mono BX.out.size))) (by rw [← HN.out.2.2.1]; exact hnl) (by rw [HXP.out.2.2.1]; omega)).mono fun e w' ⟨u, he, hs, hb⟩ => ⟨u, he, StrAt.of_sl hs, hb⟩)
              have SM := Lib.hid (rsum_all l HSET.out (by rw [← HN.out.2.2.1]; exact hnl) pd HXP.out.2.2.2)
              unfold SumIs at SM
              obtain ⟨S, hS⟩ : ∃ S, S = mineS l pd := ⟨_, rfl⟩
              obtain ⟨LB, hLB⟩ : ∃ LB, LB = belowL l pd := ⟨_, rfl⟩
              rw [← hS, ← hLB] at SM
              rw [← hLB] at BL
              have HA := Lib.hid (show asksU l C (d + 1) = if x ≠ S ∧ x ≠ Y then asksU l C d ++ [pd] else asksU l C d by
                rw [asksU_succ, HKA.out.1, HKA.out.2, ← HXP.out.1, ← HXP.out.2.1, ← hS, ← HY.out])
              clear hS hLB hX3
              have hbd : Below w3.heap.size w3 w3.drew := ⟨rfl, rfl, rfl, Nat.le_refl _, fun _ _ => rfl⟩
              by_cases e1 : x = S
              · have z2 : (x.toList != S.toList) = false := by rw [e1]; simp
                have z2e : x.toList = S.toList := by rw [e1]
                have E1 := Lib.hid e1
                clear e1
                go_upto_region 17 with (fail)
                refine wp_region_held_drew (S := fun W => W.cell? ⟨B, 4, none⟩ = some (.slice (some ⟨b, off, none⟩) nk ck) ∧ W.cell? ⟨b, off + d, none⟩ = some (.string x)) (by kernel_rfl) (HS.out _ hbd) (fun hHeld => ?_)
                refine wpAnyH_take (i := 0) (v := .pointer (some ⟨B, 4, none⟩)) rfl (by kernel_rfl) (by kernel_rfl) (by kernel_rfl) (fun _ _ _ h => h) (Or.inl ⟨by kernel_rfl, fun w hSw => ?_⟩) (by assumption) ?_
                · obtain ⟨s1, s2⟩ := hSw
                  go_simp
                simp only [Act.put, List.getElem_toArray, List.getElem_cons_zero, List.getElem_cons_succ, List.setIfInBounds_toArray, List.set_cons_zero, List.set_cons_succ]
                refine wpAnyH_take (i := 1) (v := .slice (some ⟨b, off, none⟩) nk ck) rfl (by kernel_rfl) (by kernel_rfl) (by kernel_rfl) (fun _ _ _ h => h) (Or.inl ⟨by kernel_rfl, fun w hSw => ?_⟩) (by assumption) ?_
                · obtain ⟨s1, s2⟩ := hSw
                  go_simp
                simp only [Act.put, List.getElem_toArray, List.getElem_cons_zero, List.getElem_cons_succ, List.setIfInBounds_toArray, List.set_cons_zero, List.set_cons_succ]
                refine wpAnyH_take (i := 2) (v := .int .i64 (d : Int)) rfl (by kernel_rfl) (by kernel_rfl) (by kernel_rfl) (fun _ _ _ h => h) (Or.inl ⟨by kernel_rfl, fun w hSw => ?_⟩) (by assumption) ?_
                · obtain ⟨s1, s2⟩ := hSw
                  go_simp
                simp only [Act.put, List.getElem_toArray, List.getElem_cons_zero, List.getElem_cons_succ, List.setIfInBounds_toArray, List.set_cons_zero, List.set_cons_succ]
                refine wpAnyH_take (i := 3) (v := .pointer (some ⟨b, off + d, none⟩)) rfl (by kernel_rfl) (by kernel_rfl) (by kernel_rfl) (fun _ _ _ h => h) (Or.inl ⟨by kernel_rfl, fun w hSw => ?_⟩) (by assumption) ?_
                · obtain ⟨s1, s2⟩ := hSw
                  go_simp
                simp only [Act.put, List.getElem_toArray, List.getElem_cons_zero, List.getElem_cons_succ, List.setIfInBounds_toArray, List.set_cons_zero, List.set_cons_succ]
                refine wpAnyH_take (i := 4) (v := .string x) rfl (by kernel_rfl) (by kernel_rfl) (by kernel_rfl) (fun _ _ _ h => h) (Or.inl ⟨by kernel_rfl, fun w hSw => ?_⟩) (by assumption) ?_
                · obtain ⟨s1, s2⟩ := hSw
                  go_simp
                simp only [Act.put, List.getElem_toArray, List.getElem_cons_zero, List.getElem_cons_succ, List.setIfInBounds_toArray, List.set_cons_zero, List.set_cons_succ]
                refine wpAnyH_take (i := 5) (v := .slice ol nl cl) rfl (by kernel_rfl) (by kernel_rfl) (by kernel_rfl) (fun _ _ _ h => h) (Or.inl ⟨by kernel_rfl, fun w hSw => ?_⟩) (by assumption) ?_
                · obtain ⟨s1, s2⟩ := hSw
                  go_simp
                simp only [Act.put, List.getElem_toArray, List.getElem_cons_zero, List.getElem_cons_succ, List.setIfInBounds_toArray, List.set_cons_zero, List.set_cons_succ]
                refine wpAnyH_take (i := 6) (v := .string pd) rfl (by kernel_rfl) (by kernel_rfl) (by kernel_rfl) (fun _ _ _ h => h) (Or.inl ⟨by kernel_rfl, fun w hSw => ?_⟩) (by assumption) ?_
                · obtain ⟨s1, s2⟩ := hSw
                  go_simp
                simp only [Act.put, List.getElem_toArray, List.getElem_cons_zero, List.getElem_cons_succ, List.setIfInBounds_toArray, List.set_cons_zero, List.set_cons_succ]
                refine wpAnyH_take (i := 8) (v := .string pd) rfl (by kernel_rfl) (by kernel_rfl) (by kernel_rfl) (fun _ _ _ h => h) (Or.inl ⟨by kernel_rfl, fun w hSw => ?_⟩) (by assumption) ?_
                · obtain ⟨s1, s2⟩ := hSw
                  go_simp
                simp only [Act.put, List.getElem_toArray, List.getElem_cons_zero, List.getElem_cons_succ, List.setIfInBounds_toArray, List.set_cons_zero, List.set_cons_succ]
                refine wpAnyH_ready (rs := [7]) (by kernel_rfl) (by simp) ?_
                refine AllReadyH.cons rfl (fun K hK => ?_) AllReadyH.nil
                go_simp
                go_wp2_with (
                  go_at_call 34
                  refine (BL.out _ hbd).mono ?_
                  rintro e w4 ⟨u4, rfl, hs4, hb4⟩
                  have hbd4 : Below w3.heap.size w3 w4 := hbd.trans (hb4.mono hbd.size)
                  clear hb4)
                refine hK.out _ _ (HS.out _ hbd4) (fun hHeld => ?_)
                clear hK K
                refine wpAnyH_ready (rs := [9]) (by kernel_rfl) (by simp) ?_
                refine AllReadyH.cons rfl (fun K hK => ?_) AllReadyH.nil
                go_simp
                go_wp2_with (
                  go_at_call 35
                  refine (SM.out _ _ hs4).mono ?_
                  rintro e w5 ⟨rfl, hb5⟩
                  have hbd5 : Below w3.heap.size w3 w5 := hbd4.trans (hb5.mono hbd4.size)
                  clear hb5)
                refine hK.out _ _ (HS.out _ hbd5) (fun hHeld => ?_)
                clear hK K
                refine wpAnyH_take (i := 10) (v := .bool false) rfl (by kernel_rfl) (by kernel_rfl) (by kernel_rfl) (fun _ _ _ h => h) (Or.inl ⟨by kernel_rfl, fun w hSw => ?_⟩) (by assumption) ?_
                · obtain ⟨s1, s2⟩ := hSw
                  go_simp
                simp only [Act.put, List.getElem_toArray, List.getElem_cons_zero, List.getElem_cons_succ, List.setIfInBounds_toArray, List.set_cons_zero, List.set_cons_succ]
                refine wpAnyH_take (i := 11) (v := .bool false) rfl (by kernel_rfl) (by kernel_rfl) (by kernel_rfl) (fun _ _ _ h => h) (Or.inl ⟨by kernel_rfl, fun w hSw => ?_⟩) (by assumption) ?_
                · obtain ⟨s1, s2⟩ := hSw
                  go_simp
                simp only [Act.put, List.getElem_toArray, List.getElem_cons_zero, List.getElem_cons_succ, List.setIfInBounds_toArray, List.set_cons_zero, List.set_cons_succ]
                refine wpAnyH_take (i := 12) (v := undef) rfl (by kernel_rfl) (by kernel_rfl) (by kernel_rfl) (fun _ _ _ h => h) (Or.inr ⟨by kernel_rfl, rfl⟩) (by assumption) ?_
                simp only [Act.put, List.getElem_toArray, List.getElem_cons_zero, List.getElem_cons_succ, List.setIfInBounds_toArray, List.set_cons_zero, List.set_cons_succ]
                refine wpAnyH_take (i := 13) (v := undef) rfl (by kernel_rfl) (by kernel_rfl) (by kernel_rfl) (fun _ _ _ h => h) (Or.inr ⟨by kernel_rfl, rfl⟩) (by assumption) ?_
                simp only [Act.put, List.getElem_toArray, List.getElem_cons_zero, List.getElem_cons_succ, List.setIfInBounds_toArray, List.set_cons_zero, List.set_cons_succ]
                refine wpAnyH_take (i := 14) (v := undef) rfl (by kernel_rfl) (by kernel_rfl) (by kernel_rfl) (fun _ _ _ h => h) (Or.inr ⟨by kernel_rfl, rfl⟩) (by assumption) ?_
                simp only [Act.put, List.getElem_toArray, List.getElem_cons_zero, List.getElem_cons_succ, List.setIfInBounds_toArray, List.set_cons_zero, List.set_cons_succ]
                refine wpAnyH_take (i := 15) (v := undef) rfl (by kernel_rfl) (by kernel_rfl) (by kernel_rfl) (fun _ _ _ h => h) (Or.inr ⟨by kernel_rfl, rfl⟩) (by assumption) ?_
                simp only [Act.put, List.getElem_toArray, List.getElem_cons_zero, List.getElem_cons_succ, List.setIfInBounds_toArray, List.set_cons_zero, List.set_cons_succ]
                refine wpAnyH_take (i := 16) (v := undef) rfl (by kernel_rfl) (by kernel_rfl) (by kernel_rfl) (fun _ _ _ h => h) (Or.inr ⟨by kernel_rfl, rfl⟩) (by assumption) ?_
                simp only [Act.put, List.getElem_toArray, List.getElem_cons_zero, List.getElem_cons_succ, List.setIfInBounds_toArray, List.set_cons_zero, List.set_cons_succ]
                refine wpAnyH_take (i := 17) (v := undef) rfl (by kernel_rfl) (by kernel_rfl) (by kernel_rfl) (fun _ _ _ h => h) (Or.inr ⟨by kernel_rfl, rfl⟩) (by assumption) ?_
                simp only [Act.put, List.getElem_toArray, List.getElem_cons_zero, List.getElem_cons_succ, List.setIfInBounds_toArray, List.set_cons_zero, List.set_cons_succ]
                refine wpAnyH_take (i := 18) (v := undef) rfl (by kernel_rfl) (by kernel_rfl) (by kernel_rfl) (fun _ _ _ h => h) (Or.inr ⟨by kernel_rfl, rfl⟩) (by assumption) ?_
                simp only [Act.put, List.getElem_toArray, List.getElem_cons_zero, List.getElem_cons_succ, List.setIfInBounds_toArray, List.set_cons_zero, List.set_cons_succ]
                refine wpAnyH_take (i := 19) (v := .bool false) rfl (by kernel_rfl) (by kernel_rfl) (by kernel_rfl) (fun _ _ _ h => h) (Or.inl ⟨by kernel_rfl, fun w hSw => ?_⟩) (by assumption) ?_
                · obtain ⟨s1, s2⟩ := hSw
                  go_simp
                simp only [Act.put, List.getElem_toArray, List.getElem_cons_zero, List.getElem_cons_succ, List.setIfInBounds_toArray, List.set_cons_zero, List.set_cons_succ]
                refine wpAnyH_done (by kernel_rfl) ?_ _
                have D5 := Lib.hid (And.intro (DX.out.1.later hbd5) (And.intro (DX.out.2.1.later hbd5) (And.intro DX.out.2.2 (BX.out.trans (hbd5.mono BX.out.size)))))
                clear hHeld
                go_wp2_with fail
                refine ⟨⟨d + 1, by simp, by omega, Lib.hid ⟨?_, D5.out.2⟩⟩, ?_⟩
                · rw [HA.out, if_neg (fun h => h.1 E1.out)]
                  exact D5.out.1
                · simp [intOf]
                  omega
              · have z0 := ne_list e1
                have z2 : (x.toList != S.toList) = true := by rw [bne, z0]; rfl
                have z2n : ¬ x.toList = S.toList := by simpa using z0
                have E1 := Lib.hid e1
                clear e1
                by_cases e2 : x = Y
                · have z3 : (x.toList != Y.toList) = false := by rw [e2]; simp
                  have z3e : x.toList = Y.toList := by rw [e2]
                  have z2y : ¬ Y.toList = S.toList := by rw [← z3e]; exact z2n
                  have E2 := Lib.hid e2
                  clear e2
                  go_upto_region 17 with (fail)
                  refine wp_region_held_drew (S := fun W => W.cell? ⟨B, 4, none⟩ = some (.slice (some ⟨b, off, none⟩) nk ck) ∧ W.cell? ⟨b, off + d, none⟩ = some (.string x)) (by kernel_rfl) (HS.out _ hbd) (fun hHeld => ?_)
                  refine wpAnyH_take (i := 0) (v := .pointer (some ⟨B, 4, none⟩)) rfl (by kernel_rfl) (by kernel_rfl) (by kernel_rfl) (fun _ _ _ h => h) (Or.inl ⟨by kernel_rfl, fun w hSw => ?_⟩) (by assumption) ?_
                  · obtain ⟨s1, s2⟩ := hSw
                    go_simp
                  simp only [Act.put, List.getElem_toArray, List.getElem_cons_zero, List.getElem_cons_succ, List.setIfInBounds_toArray, List.set_cons_zero, List.set_cons_succ]
                  refine wpAnyH_take (i := 1) (v := .slice (some ⟨b, off, none⟩) nk ck) rfl (by kernel_rfl) (by kernel_rfl) (by kernel_rfl) (fun _ _ _ h => h) (Or.inl ⟨by kernel_rfl, fun w hSw => ?_⟩) (by assumption) ?_
                  · obtain ⟨s1, s2⟩ := hSw
                    go_simp
                  simp only [Act.put, List.getElem_toArray, List.getElem_cons_zero, List.getElem_cons_succ, List.setIfInBounds_toArray, List.set_cons_zero, List.set_cons_succ]
                  refine wpAnyH_take (i := 2) (v := .int .i64 (d : Int)) rfl (by kernel_rfl) (by kernel_rfl) (by kernel_rfl) (fun _ _ _ h => h) (Or.inl ⟨by kernel_rfl, fun w hSw => ?_⟩) (by assumption) ?_
                  · obtain ⟨s1, s2⟩ := hSw
                    go_simp
                  simp only [Act.put, List.getElem_toArray, List.getElem_cons_zero, List.getElem_cons_succ, List.setIfInBounds_toArray, List.set_cons_zero, List.set_cons_succ]
                  refine wpAnyH_take (i := 3) (v := .pointer (some ⟨b, off + d, none⟩)) rfl (by kernel_rfl) (by kernel_rfl) (by kernel_rfl) (fun _ _ _ h => h) (Or.inl ⟨by kernel_rfl, fun w hSw => ?_⟩) (by assumption) ?_
                  · obtain ⟨s1, s2⟩ := hSw
                    go_simp
                  simp only [Act.put, List.getElem_toArray, List.getElem_cons_zero, List.getElem_cons_succ, List.setIfInBounds_toArray, List.set_cons_zero, List.set_cons_succ]
                  refine wpAnyH_take (i := 4) (v := .string x) rfl (by kernel_rfl) (by kernel_rfl) (by kernel_rfl) (fun _ _ _ h => h) (Or.inl ⟨by kernel_rfl, fun w hSw => ?_⟩) (by assumption) ?_
                  · obtain ⟨s1, s2⟩ := hSw
                    go_simp
                  simp only [Act.put, List.getElem_toArray, List.getElem_cons_zero, List.getElem_cons_succ, List.setIfInBounds_toArray, List.set_cons_zero, List.set_cons_succ]
                  refine wpAnyH_take (i := 5) (v := .slice ol nl cl) rfl (by kernel_rfl) (by kernel_rfl) (by kernel_rfl) (fun _ _ _ h => h) (Or.inl ⟨by kernel_rfl, fun w hSw => ?_⟩) (by assumption) ?_
                  · obtain ⟨s1, s2⟩ := hSw
                    go_simp
                  simp only [Act.put, List.getElem_toArray, List.getElem_cons_zero, List.getElem_cons_succ, List.setIfInBounds_toArray, List.set_cons_zero, List.set_cons_succ]
                  refine wpAnyH_take (i := 6) (v := .string pd) rfl (by kernel_rfl) (by kernel_rfl) (by kernel_rfl) (fun _ _ _ h => h) (Or.inl ⟨by kernel_rfl, fun w hSw => ?_⟩) (by assumption) ?_
                  · obtain ⟨s1, s2⟩ := hSw
                    go_simp
                  simp only [Act.put, List.getElem_toArray, List.getElem_cons_zero, List.getElem_cons_succ, List.setIfInBounds_toArray, List.set_cons_zero, List.set_cons_succ]
                  refine wpAnyH_take (i := 8) (v := .string pd) rfl (by kernel_rfl) (by kernel_rfl) (by kernel_rfl) (fun _ _ _ h => h) (Or.inl ⟨by kernel_rfl, fun w hSw => ?_⟩) (by assumption) ?_
                  · obtain ⟨s1, s2⟩ := hSw
                    go_simp
                  simp only [Act.put, List.getElem_toArray, List.getElem_cons_zero, List.getElem_cons_succ, List.setIfInBounds_toArray, List.set_cons_zero, List.set_cons_succ]
                  refine wpAnyH_ready (rs := [7]) (by kernel_rfl) (by simp) ?_
                  refine AllReadyH.cons rfl (fun K hK => ?_) AllReadyH.nil
                  go_simp
                  go_wp2_with (
                    go_at_call 34
                    refine (BL.out _ hbd).mono ?_
                    rintro e w4 ⟨u4, rfl, hs4, hb4⟩
                    have hbd4 : Below w3.heap.size w3 w4 := hbd.trans (hb4.mono hbd.size)
                    clear hb4)
                  refine hK.out _ _ (HS.out _ hbd4) (fun hHeld => ?_)
                  clear hK K
                  refine wpAnyH_ready (rs := [9]) (by kernel_rfl) (by simp) ?_
                  refine AllReadyH.cons rfl (fun K hK => ?_) AllReadyH.nil
                  go_simp
                  go_wp2_with (
                    go_at_call 35
                    refine (SM.out _ _ hs4).mono ?_
                    rintro e w5 ⟨rfl, hb5⟩
                    have hbd5 : Below w3.heap.size w3 w5 := hbd4.trans (hb5.mono hbd4.size)
                    clear hb5)
                  refine hK.out _ _ (HS.out _ hbd5) (fun hHeld => ?_)
                  clear hK K
                  refine wpAnyH_take (i := 10) (v := .bool true) rfl (by kernel_rfl) (by kernel_rfl) (by kernel_rfl) (fun _ _ _ h => h) (Or.inl ⟨by kernel_rfl, fun w hSw => ?_⟩) (by assumption) ?_
                  · obtain ⟨s1, s2⟩ := hSw
                    go_simp
                  simp only [Act.put, List.getElem_toArray, List.getElem_cons_zero, List.getElem_cons_succ, List.setIfInBounds_toArray, List.set_cons_zero, List.set_cons_succ]
                  refine wpAnyH_take (i := 11) (v := .bool true) rfl (by kernel_rfl) (by kernel_rfl) (by kernel_rfl) (fun _ _ _ h => h) (Or.inl ⟨by kernel_rfl, fun w hSw => ?_⟩) (by assumption) ?_
                  · obtain ⟨s1, s2⟩ := hSw
                    go_simp
                  simp only [Act.put, List.getElem_toArray, List.getElem_cons_zero, List.getElem_cons_succ, List.setIfInBounds_toArray, List.set_cons_zero, List.set_cons_succ]
                  refine wpAnyH_take (i := 12) (v := .pointer (some ⟨B, 4, none⟩)) rfl (by kernel_rfl) (by kernel_rfl) (by kernel_rfl) (fun _ _ _ h => h) (Or.inl ⟨by kernel_rfl, fun w hSw => ?_⟩) (by assumption) ?_
                  · obtain ⟨s1, s2⟩ := hSw
                    go_simp
                  simp only [Act.put, List.getElem_toArray, List.getElem_cons_zero, List.getElem_cons_succ, List.setIfInBounds_toArray, List.set_cons_zero, List.set_cons_succ]
                  refine wpAnyH_take (i := 13) (v := .slice (some ⟨b, off, none⟩) nk ck) rfl (by kernel_rfl) (by kernel_rfl) (by kernel_rfl) (fun _ _ _ h => h) (Or.inl ⟨by kernel_rfl, fun w hSw => ?_⟩) (by assumption) ?_
                  · obtain ⟨s1, s2⟩ := hSw
                    go_simp
                  simp only [Act.put, List.getElem_toArray, List.getElem_cons_zero, List.getElem_cons_succ, List.setIfInBounds_toArray, List.set_cons_zero, List.set_cons_succ]
                  refine wpAnyH_take (i := 14) (v := .int .i64 (d : Int)) rfl (by kernel_rfl) (by kernel_rfl) (by kernel_rfl) (fun _ _ _ h => h) (Or.inl ⟨by kernel_rfl, fun w hSw => ?_⟩) (by assumption) ?_
                  · obtain ⟨s1, s2⟩ := hSw
                    go_simp
                  simp only [Act.put, List.getElem_toArray, List.getElem_cons_zero, List.getElem_cons_succ, List.setIfInBounds_toArray, List.set_cons_zero, List.set_cons_succ]
                  refine wpAnyH_take (i := 15) (v := .pointer (some ⟨b, off + d, none⟩)) rfl (by kernel_rfl) (by kernel_rfl) (by kernel_rfl) (fun _ _ _ h => h) (Or.inl ⟨by kernel_rfl, fun w hSw => ?_⟩) (by assumption) ?_
                  · obtain ⟨s1, s2⟩ := hSw
                    go_simp
                  simp only [Act.put, List.getElem_toArray, List.getElem_cons_zero, List.getElem_cons_succ, List.setIfInBounds_toArray, List.set_cons_zero, List.set_cons_succ]
                  refine wpAnyH_take (i := 16) (v := .string x) rfl (by kernel_rfl) (by kernel_rfl) (by kernel_rfl) (fun _ _ _ h => h) (Or.inl ⟨by kernel_rfl, fun w hSw => ?_⟩) (by assumption) ?_
                  · obtain ⟨s1, s2⟩ := hSw
                    go_simp
                  simp only [Act.put, List.getElem_toArray, List.getElem_cons_zero, List.getElem_cons_succ, List.setIfInBounds_toArray, List.set_cons_zero, List.set_cons_succ]
                  refine wpAnyH_ready (rs := [17]) (by kernel_rfl) (by simp) ?_
                  refine AllReadyH.cons rfl (fun K hK => ?_) AllReadyH.nil
                  go_simp
                  go_wp2_with (
                    go_at_call 42
                    refine (LN.out _).mono ?_
                    rintro e w6 ⟨rfl, hb6⟩
                    have hbd6 : Below w3.heap.size w3 w6 := hbd5.trans (hb6.mono hbd5.size)
                    clear hb6)
                  refine hK.out _ _ (HS.out _ hbd6) (fun hHeld => ?_)
                  clear hK K
                  refine wpAnyH_take (i := 18) (v := .bool false) rfl (by kernel_rfl) (by kernel_rfl) (by kernel_rfl) (fun _ _ _ h => h) (Or.inl ⟨by kernel_rfl, fun w hSw => ?_⟩) (by assumption) ?_
                  · obtain ⟨s1, s2⟩ := hSw
                    go_simp
                  simp only [Act.put, List.getElem_toArray, List.getElem_cons_zero, List.getElem_cons_succ, List.setIfInBounds_toArray, List.set_cons_zero, List.set_cons_succ]
                  refine wpAnyH_take (i := 19) (v := .bool false) rfl (by kernel_rfl) (by kernel_rfl) (by kernel_rfl) (fun _ _ _ h => h) (Or.inl ⟨by kernel_rfl, fun w hSw => ?_⟩) (by assumption) ?_
                  · obtain ⟨s1, s2⟩ := hSw
                    go_simp
                  simp only [Act.put, List.getElem_toArray, List.getElem_cons_zero, List.getElem_cons_succ, List.setIfInBounds_toArray, List.set_cons_zero, List.set_cons_succ]
                  refine wpAnyH_done (by kernel_rfl) ?_ _
                  have D5 := Lib.hid (And.intro (DX.out.1.later hbd6) (And.intro (DX.out.2.1.later hbd6) (And.intro DX.out.2.2 (BX.out.trans (hbd6.mono BX.out.size)))))
                  clear hHeld
                  go_wp2_with fail
                  refine ⟨⟨d + 1, by simp, by omega, Lib.hid ⟨?_, D5.out.2⟩⟩, ?_⟩
                  · rw [HA.out, if_neg (fun h => h.2 E2.out)]
                    exact D5.out.1
                  · simp [intOf]
                    omega
                · have z4 := ne_list e2
                  have z3 : (x.toList != Y.toList) = true := by rw [bne, z4]; rfl
                  have z3n : ¬ x.toList = Y.toList := by simpa using z4
                  have E2 := Lib.hid e2
                  clear e2
                  go_upto_region 17 with (fail)
                  refine wp_region_held_drew (S := fun W => W.cell? ⟨B, 4, none⟩ = some (.slice (some ⟨b, off, none⟩) nk ck) ∧ W.cell? ⟨b, off + d, none⟩ = some (.string x)) (by kernel_rfl) (HS.out _ hbd) (fun hHeld => ?_)
                  refine wpAnyH_take (i := 0) (v := .pointer (some ⟨B, 4, none⟩)) rfl (by kernel_rfl) (by kernel_rfl) (by kernel_rfl) (fun _ _ _ h => h) (Or.inl ⟨by kernel_rfl, fun w hSw => ?_⟩) (by assumption) ?_
                  · obtain ⟨s1, s2⟩ := hSw
                    go_simp
                  simp only [Act.put, List.getElem_toArray, List.getElem_cons_zero, List.getElem_cons_succ, List.setIfInBounds_toArray, List.set_cons_zero, List.set_cons_succ]
                  refine wpAnyH_take (i := 1) (v := .slice (some ⟨b, off, none⟩) nk ck) rfl (by kernel_rfl) (by kernel_rfl) (by kernel_rfl) (fun _ _ _ h => h) (Or.inl ⟨by kernel_rfl, fun w hSw => ?_⟩) (by assumption) ?_
                  · obtain ⟨s1, s2⟩ := hSw
                    go_simp
                  simp only [Act.put, List.getElem_toArray, List.getElem_cons_zero, List.getElem_cons_succ, List.setIfInBounds_toArray, List.set_cons_zero, List.set_cons_succ]
                  refine wpAnyH_take (i := 2) (v := .int .i64 (d : Int)) rfl (by kernel_rfl) (by kernel_rfl) (by kernel_rfl) (fun _ _ _ h => h) (Or.inl ⟨by kernel_rfl, fun w hSw => ?_⟩) (by assumption) ?_
                  · obtain ⟨s1, s2⟩ := hSw
                    go_simp
                  simp only [Act.put, List.getElem_toArray, List.getElem_cons_zero, List.getElem_cons_succ, List.setIfInBounds_toArray, List.set_cons_zero, List.set_cons_succ]
                  refine wpAnyH_take (i := 3) (v := .pointer (some ⟨b, off + d, none⟩)) rfl (by kernel_rfl) (by kernel_rfl) (by kernel_rfl) (fun _ _ _ h => h) (Or.inl ⟨by kernel_rfl, fun w hSw => ?_⟩) (by assumption) ?_
                  · obtain ⟨s1, s2⟩ := hSw
                    go_simp
                  simp only [Act.put, List.getElem_toArray, List.getElem_cons_zero, List.getElem_cons_succ, List.setIfInBounds_toArray, List.set_cons_zero, List.set_cons_succ]
                  refine wpAnyH_take (i := 4) (v := .string x) rfl (by kernel_rfl) (by kernel_rfl) (by kernel_rfl) (fun _ _ _ h => h) (Or.inl ⟨by kernel_rfl, fun w hSw => ?_⟩) (by assumption) ?_
                  · obtain ⟨s1, s2⟩ := hSw
                    go_simp
                  simp only [Act.put, List.getElem_toArray, List.getElem_cons_zero, List.getElem_cons_succ, List.setIfInBounds_toArray, List.set_cons_zero, List.set_cons_succ]
                  refine wpAnyH_take (i := 5) (v := .slice ol nl cl) rfl (by kernel_rfl) (by kernel_rfl) (by kernel_rfl) (fun _ _ _ h => h) (Or.inl ⟨by kernel_rfl, fun w hSw => ?_⟩) (by assumption) ?_
                  · obtain ⟨s1, s2⟩ := hSw
                    go_simp
                  simp only [Act.put, List.getElem_toArray, List.getElem_cons_zero, List.getElem_cons_succ, List.setIfInBounds_toArray, List.set_cons_zero, List.set_cons_succ]
                  refine wpAnyH_take (i := 6) (v := .string pd) rfl (by kernel_rfl) (by kernel_rfl) (by kernel_rfl) (fun _ _ _ h => h) (Or.inl ⟨by kernel_rfl, fun w hSw => ?_⟩) (by assumption) ?_
                  · obtain ⟨s1, s2⟩ := hSw
                    go_simp
                  simp only [Act.put, List.getElem_toArray, List.getElem_cons_zero, List.getElem_cons_succ, List.setIfInBounds_toArray, List.set_cons_zero, List.set_cons_succ]
                  refine wpAnyH_take (i := 8) (v := .string pd) rfl (by kernel_rfl) (by kernel_rfl) (by kernel_rfl) (fun _ _ _ h => h) (Or.inl ⟨by kernel_rfl, fun w hSw => ?_⟩) (by assumption) ?_
                  · obtain ⟨s1, s2⟩ := hSw
                    go_simp
                  simp only [Act.put, List.getElem_toArray, List.getElem_cons_zero, List.getElem_cons_succ, List.setIfInBounds_toArray, List.set_cons_zero, List.set_cons_succ]
                  refine wpAnyH_ready (rs := [7]) (by kernel_rfl) (by simp) ?_
                  refine AllReadyH.cons rfl (fun K hK => ?_) AllReadyH.nil
                  go_simp
                  go_wp2_with (
                    go_at_call 34
                    refine (BL.out _ hbd).mono ?_
                    rintro e w4 ⟨u4, rfl, hs4, hb4⟩
                    have hbd4 : Below w3.heap.size w3 w4 := hbd.trans (hb4.mono hbd.size)
                    clear hb4)
                  refine hK.out _ _ (HS.out _ hbd4) (fun hHeld => ?_)
                  clear hK K
                  refine wpAnyH_ready (rs := [9]) (by kernel_rfl) (by simp) ?_
                  refine AllReadyH.cons rfl (fun K hK => ?_) AllReadyH.nil
                  go_simp
                  go_wp2_with (
                    go_at_call 35
                    refine (SM.out _ _ hs4).mono ?_
                    rintro e w5 ⟨rfl, hb5⟩
                    have hbd5 : Below w3.heap.size w3 w5 := hbd4.trans (hb5.mono hbd4.size)
                    clear hb5)
                  refine hK.out _ _ (HS.out _ hbd5) (fun hHeld => ?_)
                  clear hK K
                  refine wpAnyH_take (i := 10) (v := .bool true) rfl (by kernel_rfl) (by kernel_rfl) (by kernel_rfl) (fun _ _ _ h => h) (Or.inl ⟨by kernel_rfl, fun w hSw => ?_⟩) (by assumption) ?_
                  · obtain ⟨s1, s2⟩ := hSw
                    go_simp
                  simp only [Act.put, List.getElem_toArray, List.getElem_cons_zero, List.getElem_cons_succ, List.setIfInBounds_toArray, List.set_cons_zero, List.set_cons_succ]
                  refine wpAnyH_take (i := 11) (v := .bool true) rfl (by kernel_rfl) (by kernel_rfl) (by kernel_rfl) (fun _ _ _ h => h) (Or.inl ⟨by kernel_rfl, fun w hSw => ?_⟩) (by assumption) ?_
                  · obtain ⟨s1, s2⟩ := hSw
                    go_simp
                  simp only [Act.put, List.getElem_toArray, List.getElem_cons_zero, List.getElem_cons_succ, List.setIfInBounds_toArray, List.set_cons_zero, List.set_cons_succ]
                  refine wpAnyH_take (i := 12) (v := .pointer (some ⟨B, 4, none⟩)) rfl (by kernel_rfl) (by kernel_rfl) (by kernel_rfl) (fun _ _ _ h => h) (Or.inl ⟨by kernel_rfl, fun w hSw => ?_⟩) (by assumption) ?_
                  · obtain ⟨s1, s2⟩ := hSw
                    go_simp
                  simp only [Act.put, List.getElem_toArray, List.getElem_cons_zero, List.getElem_cons_succ, List.setIfInBounds_toArray, List.set_cons_zero, List.set_cons_succ]
                  refine wpAnyH_take (i := 13) (v := .slice (some ⟨b, off, none⟩) nk ck) rfl (by kernel_rfl) (by kernel_rfl) (by kernel_rfl) (fun _ _ _ h => h) (Or.inl ⟨by kernel_rfl, fun w hSw => ?_⟩) (by assumption) ?_
                  · obtain ⟨s1, s2⟩ := hSw
                    go_simp
                  simp only [Act.put, List.getElem_toArray, List.getElem_cons_zero, List.getElem_cons_succ, List.setIfInBounds_toArray, List.set_cons_zero, List.set_cons_succ]
                  refine wpAnyH_take (i := 14) (v := .int .i64 (d : Int)) rfl (by kernel_rfl) (by kernel_rfl) (by kernel_rfl) (fun _ _ _ h => h) (Or.inl ⟨by kernel_rfl, fun w hSw => ?_⟩) (by assumption) ?_
                  · obtain ⟨s1, s2⟩ := hSw
                    go_simp
                  simp only [Act.put, List.getElem_toArray, List.getElem_cons_zero, List.getElem_cons_succ, List.setIfInBounds_toArray, List.set_cons_zero, List.set_cons_succ]
                  refine wpAnyH_take (i := 15) (v := .pointer (some ⟨b, off + d, none⟩)) rfl (by kernel_rfl) (by kernel_rfl) (by kernel_rfl) (fun _ _ _ h => h) (Or.inl ⟨by kernel_rfl, fun w hSw => ?_⟩) (by assumption) ?_
                  · obtain ⟨s1, s2⟩ := hSw
                    go_simp
                  simp only [Act.put, List.getElem_toArray, List.getElem_cons_zero, List.getElem_cons_succ, List.setIfInBounds_toArray, List.set_cons_zero, List.set_cons_succ]
                  refine wpAnyH_take (i := 16) (v := .string x) rfl (by kernel_rfl) (by kernel_rfl) (by kernel_rfl) (fun _ _ _ h => h) (Or.inl ⟨by kernel_rfl, fun w hSw => ?_⟩) (by assumption) ?_
                  · obtain ⟨s1, s2⟩ := hSw
                    go_simp
                  simp only [Act.put, List.getElem_toArray, List.getElem_cons_zero, List.getElem_cons_succ, List.setIfInBounds_toArray, List.set_cons_zero, List.set_cons_succ]
                  refine wpAnyH_ready (rs := [17]) (by kernel_rfl) (by simp) ?_
                  refine AllReadyH.cons rfl (fun K hK => ?_) AllReadyH.nil
                  go_simp
                  go_wp2_with (
                    go_at_call 42
                    refine (LN.out _).mono ?_
                    rintro e w6 ⟨rfl, hb6⟩
                    have hbd6 : Below w3.heap.size w3 w6 := hbd5.trans (hb6.mono hbd5.size)
                    clear hb6)
                  refine hK.out _ _ (HS.out _ hbd6) (fun hHeld => ?_)
                  clear hK K
                  refine wpAnyH_take (i := 18) (v := .bool true) rfl (by kernel_rfl) (by kernel_rfl) (by kernel_rfl) (fun _ _ _ h => h) (Or.inl ⟨by kernel_rfl, fun w hSw => ?_⟩) (by assumption) ?_
                  · obtain ⟨s1, s2⟩ := hSw
                    go_simp
                  simp only [Act.put, List.getElem_toArray, List.getElem_cons_zero, List.getElem_cons_succ, List.setIfInBounds_toArray, List.set_cons_zero, List.set_cons_succ]
                  refine wpAnyH_take (i := 19) (v := .bool true) rfl (by kernel_rfl) (by kernel_rfl) (by kernel_rfl) (fun _ _ _ h => h) (Or.inl ⟨by kernel_rfl, fun w hSw => ?_⟩) (by assumption) ?_
                  · obtain ⟨s1, s2⟩ := hSw
                    go_simp
                  simp only [Act.put, List.getElem_toArray, List.getElem_cons_zero, List.getElem_cons_succ, List.setIfInBounds_toArray, List.set_cons_zero, List.set_cons_succ]
                  refine wpAnyH_done (by kernel_rfl) ?_ _
                  clear hHeld
                  obtain ⟨M, hM⟩ : ∃ M, M = asksU l C d := ⟨_, rfl⟩
                  have hml : M.length ≤ 1000 := by rw [hM]; have := asksU_le l C d; rcases HKZ.out with h | h <;> omega
                  have hd6 := DX.out.1.later hbd6
                  rw [← hM] at hd6
                  have D6 := Lib.hid (And.intro hd6 (And.intro (DX.out.2.1.later hbd6) (And.intro DX.out.2.2 (BX.out.trans (hbd6.mono BX.out.size)))))
                  have HM := Lib.hid hM
                  have hb7 := D6.out.2.2.2.size
                  obtain ⟨ao2, cap2, rfl, hnc2, hcm2, hao2⟩ := D6.out.1.form
                  clear hM hd6
                  go_wp2_with (at_builtin
                               refine wpList_append_sl rfl _ _ _ 22 rfl Set.el_string (.slice ao2 M.length cap2) M.length (scells M) rfl (D6.out.1.alloc _) _ 1 [.string pd] rfl (SrcIs.own Tryz.underlying22 (SlIs.made (base := 0) (BlkIs.new _ _ _) (Nat.zero_le _) rfl (by decide))) (by intro u hu; rcases List.mem_singleton.1 hu with rfl; rfl) (by unfold maxLen; omega) (by omega) (by simp only [World.size_alloc]; omega) ?_
                               intro v1 w7 hs1 hg1 hat1
                               have H7 := Lib.hid (And.intro hs1 (And.intro hg1 hat1))
                               clear hs1 hg1 hat1 hao2)
                  refine ⟨⟨d + 1, by simp, by omega, Lib.hid ⟨?_, ?_, ?_, ?_⟩⟩, ?_⟩
                  · rw [HA.out, if_pos ⟨E1.out, E2.out⟩, ← HM.out]
                    have e : scells (M ++ [pd]) = scells M ++ [.string pd] := by simp [scells]
                    rw [e, List.length_append]
                    exact H7.out.1
                  · exact (D6.out.2.1.alloc _).kept H7.out.2.1 D6.out.2.2.1
                  · exact D6.out.2.2.1.next H7.out.2.2 fun k hk => ((D6.out.2.1.alloc _).lt k hk).2
                  · exact (D6.out.2.2.2.alloc hb7 _).grown H7.out.2.1 (by simp only [World.size_alloc]; omega) fun j hj => (D6.out.1.lt j hj).1
                  · simp [intOf]
                    omega
            · have k1 : decide ((d : Int) < nk) = false := decide_eq_false (by omega)
              have k2 : ¬ ((d : Int) < nk) := by omega
              obtain rfl : d = nk := by omega
              have he : drawE l C = 0 := by unfold drawE; rw [← HQ.out, ← HN.out.2.2.2]; exact HZ.out
              have HE := Lib.hid he
              have D8 := Lib.hid (StrAt.of_sl HD.out.2.1)
              have D9 := Lib.hid (StrAt.of_sl HD.out.1)
              clear he
              go_wp2_with fail
              go_ret3
              refine ⟨_, _, by rw [HE.out]; rfl, ?_, ?_, HW.out.trans (HBD.out.mono HW.out.size)⟩
              · unfold drawL
                rw [if_pos HE.out]
                exact D8.out
              · unfold drawA
                rw [if_pos HE.out, HKA.out.1, ← HN.out.2.1]
                exact D9.out
    · have z1 : (z != 0) = true := by simpa using hz0
      have HZ := Lib.hid hz0
      clear hz0
      go_wp2_with fail
      go_ret3
      exact draw_refused (by unfold drawE; rw [← HQ.out, ← HN.out.2.2.2]; rfl) HZ.out (HW.out.trans (B1.out.mono HW.out.size))
end Go.Proofs.YtjkhmjklmclpoaaGreat.Tr
