/- The reference's Look, Texts and Same, walked. (Layer 10.) -/
import Derived.Test.YtjkhmjklmclpoaaGreatTrR3
import Derived.Test.YtjkhmjklmclpoaaGreatTrL
namespace Go.Proofs.YtjkhmjklmclpoaaGreat.Tr
set_option linter.unusedVariables false
set_option linter.unusedSimpArgs false
open Go.RowKit Go.Lib
open Set (StrAt scells El Rise)
theorem rlook_end {Q : Ending → World → Prop} (w8 : World) (b : Nat) (cs : Array Value) (n : Int) (tmps : Array Value) (h2 : tmps.getD 4 undef = .pointer (some ⟨b, 0, none⟩)) (h3 : tmps.getD 5 undef = .int .i64 n) (hs : cs.size = 5) (k : BlkIs w8 b 25 cs) (hQ : Q (.returned (.tuple #[.agg cs, .int .i64 n])) w8) :
    bodyPost Tryz.prog Tryz.f11 Q Exit.ret ⟨tmps, []⟩ w8 :=
  bodyPost_ret (results_cell_tmp' rfl _ _ b 25 cs (0, 0) _ h2 k Tryz.underlying25 rfl (by rw [hs]; show _ = some 5; kernel_rfl)) rfl (by rw [h3]; exact hQ)
theorem cellC_few {l : List ByteArray} {p : ByteArray} (h8 : l.length ≤ 8) : cellC l p = ⟨p, l.length, leafS l, l, []⟩ := by unfold cellC; rw [if_pos h8]
theorem cellC_many {a : List ByteArray} {p : ByteArray} (hset : IsSet a) (hp : pfxB p = true) (h8 : ¬ (belowL a p).length ≤ 8) : cellC (belowL a p) p = ⟨p, (belowL a p).length, mineS a p, [], kidsM a p 16⟩ := by
  unfold cellC
  rw [if_neg h8, kids_are hset (many_short hset hp h8) h8]
  rfl
set_option maxRecDepth 100000 in
set_option maxHeartbeats 4000000 in
theorem rlook_any (v : Value) (l : List ByteArray) (p : ByteArray) (w : World) (h : StrAt w v l) (hn : l.length ≤ 1000000) (hp : (p.size : Int) ≤ 9223372036854775807) :
    Calls Tryz.prog 11 #[v, .string p] w fun e w' => LookOut l p w w' e := by
  obtain ⟨B, hB⟩ : ∃ B, B = w.heap.size := ⟨_, rfl⟩
  obtain ⟨W0, hW0⟩ : ∃ W0, W0 = w.alloc (.cells #[.string ⟨#[]⟩, .int .i64 0, .string ⟨#[]⟩, .slice none 0 0, .slice none 0 0] 25) := ⟨_, rfl⟩
  have K0 := Lib.hid (show BlkIs W0 B 25 #[.string ⟨#[]⟩, .int .i64 0, .string ⟨#[]⟩, .slice none 0 0, .slice none 0 0] by rw [hW0, hB]; exact BlkIs.new _ _ _)
  have HW := Lib.hid (show Below w.heap.size w W0 by rw [hW0]; exact (Below.refl _ _).alloc (Nat.le_refl _) _)
  have S0 := Lib.hid (h.later HW.out)
  have I := Lib.hid (rset_any v l W0 S0.out hn)
  have P := Lib.hid (fun W => rdigits_any p hp W)
  have BL := Lib.hid (fun W (hb : Below W0.heap.size W0 W) => rbelow_any v l p W (S0.out.later hb) hn hp)
  have H0 := Lib.hid (And.intro hW0 (And.intro hB hn))
  obtain ⟨ao, cap, rfl, hcap1, hcap2, -⟩ := h
  obtain ⟨q, hq⟩ : ∃ q, q = holds (IsSet l) := ⟨_, rfl⟩
  rw [← hq] at I
  obtain ⟨q2, hq2⟩ : ∃ q2, q2 = pfxB p := ⟨_, rfl⟩
  rw [← hq2] at P
  have HQ := Lib.hid (And.intro hq hq2)
  have hBs : w.heap.size ≤ B := by omega
  clear hW0 hB hn hq hq2
  go_enter Tryz.func11, Tryz.ntmps11
  go_upto_region 1 with (fail)
  rw [← H0.out.1, ← H0.out.2.1]
  go_wp2_with fail
  refine I.out.mono ?_
  rintro e w1 ⟨rfl, hb1⟩
  have B1 := Lib.hid hb1
  clear I hb1
  cases q with
  | false =>
    have K1 := K0.out.below B1.out K0.out.lt
    have d0 : w1.cell? ⟨B, 0, none⟩ = some (.string ⟨#[]⟩) := K1.cell 0
    have d1 : w1.cell? ⟨B, 1, none⟩ = some (.int .i64 0) := K1.cell 1
    have d2 : w1.cell? ⟨B, 2, none⟩ = some (.string ⟨#[]⟩) := K1.cell 2
    have d3 : w1.cell? ⟨B, 3, none⟩ = some (.slice none 0 0) := K1.cell 3
    have d4 : w1.cell? ⟨B, 4, none⟩ = some (.slice none 0 0) := K1.cell 4
    have f0 : ∀ i, w1.frozen? ⟨B, i, none⟩ = false := fun i => K1.free i
    have HK1 := Lib.hid K1
    clear K1
    go_wp2_with fail
    exact rlook_end _ B _ 1 _ rfl rfl rfl (put5 HK1.out ⟨_, _, _, _, _, rfl⟩ _ _ _ _ _) (look_refused (by unfold lookC; rw [← HQ.out.1]; rfl) (by unfold lookE; rw [← HQ.out.1]; rfl) (put5_below (HW.out.trans (B1.out.mono HW.out.size)) hBs _ _ _ _ _))
  | true =>
    go_wp2_with fail
    refine (P.out _).mono ?_
    rintro e _ ⟨rfl, rfl⟩
    clear P
    cases q2 with
    | false =>
      have K1 := K0.out.below B1.out K0.out.lt
      have d0 : w1.cell? ⟨B, 0, none⟩ = some (.string ⟨#[]⟩) := K1.cell 0
      have d1 : w1.cell? ⟨B, 1, none⟩ = some (.int .i64 0) := K1.cell 1
      have d2 : w1.cell? ⟨B, 2, none⟩ = some (.string ⟨#[]⟩) := K1.cell 2
      have d3 : w1.cell? ⟨B, 3, none⟩ = some (.slice none 0 0) := K1.cell 3
      have d4 : w1.cell? ⟨B, 4, none⟩ = some (.slice none 0 0) := K1.cell 4
      have f0 : ∀ i, w1.frozen? ⟨B, i, none⟩ = false := fun i => K1.free i
      have HK1 := Lib.hid K1
      clear K1
      go_wp2_with fail
      exact rlook_end _ B _ 4 _ rfl rfl rfl (put5 HK1.out ⟨_, _, _, _, _, rfl⟩ _ _ _ _ _) (look_refused (by unfold lookC; rw [← HQ.out.1, ← HQ.out.2]; rfl) (by unfold lookE; rw [← HQ.out.1, ← HQ.out.2]; rfl) (put5_below (HW.out.trans (B1.out.mono HW.out.size)) hBs _ _ _ _ _))
    | true =>
      have hset : IsSet l := holds_iff.1 HQ.out.1.symm
      have hpf : pfxB p = true := HQ.out.2.symm
      obtain ⟨hlk1, hlk2⟩ := look_ok hset hpf
      have HLK := Lib.hid (And.intro hlk1 hlk2)
      have HST := Lib.hid (And.intro hset hpf)
      have SU := Lib.hid (rsum_all l hset H0.out.2.2 p hpf)
      have KD := Lib.hid (fun hz => rkids_all l hset H0.out.2.2 p hpf hz)
      unfold SumIs at SU
      obtain ⟨S, hS⟩ : ∃ S, S = mineS l p := ⟨_, rfl⟩
      rw [← hS] at SU
      have HSS := Lib.hid hS
      obtain ⟨L, hL⟩ : ∃ L, L = belowL l p := ⟨_, rfl⟩
      have hLn : L.length ≤ 1000000 := by rw [hL]; exact Nat.le_trans (List.length_filter_le _ _) H0.out.2.2
      have BL1 := Lib.hid (BL.out w1 B1.out)
      rw [← hL] at BL1 SU KD
      have HL := Lib.hid hL
      clear BL hL hset hpf hS hlk1 hlk2
      go_wp2_with fail
      refine BL1.out.mono ?_
      rintro e w2 ⟨u, rfl, hsl, hb2⟩
      have B2 := Lib.hid (B1.out.trans (hb2.mono B1.out.size))
      have L2 := Lib.hid hsl
      have hs12 := hb2.size
      obtain ⟨aoL, capL, rfl, -, -, -⟩ := hsl.form
      have SU2 := Lib.hid (SU.out _ w2 (StrAt.of_sl hsl))
      have hBw1 : B < w1.heap.size := Nat.lt_of_lt_of_le K0.out.lt B1.out.size
      clear hsl hb2 BL1 SU
      go_wp2_with fail
      refine SU2.out.mono ?_
      rintro e w3 ⟨rfl, hb3⟩
      have B3 := Lib.hid (B2.out.trans (hb3.mono B2.out.size))
      have L3 := Lib.hid (L2.out.later hb3)
      obtain ⟨G, hG⟩ : ∃ G, G = w3.heap.size := ⟨_, rfl⟩
      obtain ⟨W4, hW4⟩ : ∃ W4, W4 = w3.alloc (.cells #[.string p, .int .i64 (L.length : Int), .string S, .slice none 0 0, .slice none 0 0] 25) := ⟨_, rfl⟩
      have K4 := Lib.hid (show BlkIs W4 G 25 #[.string p, .int .i64 (L.length : Int), .string S, .slice none 0 0, .slice none 0 0] by rw [hW4, hG]; exact BlkIs.new _ _ _)
      have hb34 : Below w3.heap.size w3 W4 := by rw [hW4]; exact (Below.refl _ _).alloc (Nat.le_refl _) _
      have B4 := Lib.hid (B3.out.trans (hb34.mono B3.out.size))
      have L4 := Lib.hid (show SlIs W4 w1.heap.size 9 1 (.slice aoL L.length capL) L.length (scells L) ∧ (∀ k, (Value.slice aoL L.length capL).ownBlock = some k → k < G) from ⟨L3.out.later hb34, fun k hk => by rw [hG]; exact (L3.out.lt k hk).2⟩)
      have hGW4 : G < W4.heap.size := K4.out.lt
      have hw1G : w1.heap.size ≤ G := by rw [hG]; exact Nat.le_trans hs12 hb3.size
      have hGs : w.heap.size ≤ G := by have := HW.out.size; have := B1.out.size; omega
      have hG0 : W0.heap.size ≤ G := by have := B1.out.size; omega
      have hBG : B ≠ G := by omega
      have hGB : G ≠ B := by omega
      have H4 := Lib.hid (And.intro hW4 hG)
      clear hW4 hG hb34 hb3 SU2
      go_upto_region 7 with (fail)
      rw [← H4.out.1, ← H4.out.2]
      clear H4
      have e0 : W4.cell? ⟨G, 0, none⟩ = some (.string p) := K4.out.cell 0
      have e1 : W4.cell? ⟨G, 1, none⟩ = some (.int .i64 (L.length : Int)) := K4.out.cell 1
      have e2 : W4.cell? ⟨G, 2, none⟩ = some (.string S) := K4.out.cell 2
      have e3 : W4.cell? ⟨G, 3, none⟩ = some (.slice none 0 0) := K4.out.cell 3
      have e4 : W4.cell? ⟨G, 4, none⟩ = some (.slice none 0 0) := K4.out.cell 4
      have ef : ∀ i, W4.frozen? ⟨G, i, none⟩ = false := fun i => K4.out.free i
      by_cases h8 : L.length ≤ 8
      · have k1 : (L.length : Int) ≤ 8 := by omega
        have k2 : decide ((L.length : Int) ≤ 8) = true := decide_eq_true k1
        obtain ⟨W5, hW5⟩ : ∃ W5, W5 = W4.setCell ⟨G, 3, none⟩ (.slice aoL L.length capL) := ⟨_, rfl⟩
        have K5 := Lib.hid (show BlkIs W5 G 25 #[.string p, .int .i64 (L.length : Int), .string S, .slice aoL L.length capL, .slice none 0 0] by rw [hW5]; exact K4.out.put 3 _)
        have hG3 : W0.heap.size ≤ (⟨G, 3, none⟩ : Addr).block := hG0
        have B5 := Lib.hid (show Below W0.heap.size W0 W5 by rw [hW5]; exact B4.out.setCell hG3 _)
        have L5 := Lib.hid (show SlIs W5 w1.heap.size 9 1 (.slice aoL L.length capL) L.length (scells L) by
          rw [hW5]
          exact L4.out.1.far (p := ⟨G, 3, none⟩) (fun e => by have := L4.out.2 G e; omega) _)
        have H5 := Lib.hid hW5
        have H8 := Lib.hid h8
        clear hW5 hG3 h8
        go_upto_region 10 with (fail)
        rw [← H5.out]
        clear H5 e0 e1 e2 e3 e4 ef
        have e0 : W5.cell? ⟨G, 0, none⟩ = some (.string p) := K5.out.cell 0
        have e1 : W5.cell? ⟨G, 1, none⟩ = some (.int .i64 (L.length : Int)) := K5.out.cell 1
        have e2 : W5.cell? ⟨G, 2, none⟩ = some (.string S) := K5.out.cell 2
        have e3 : W5.cell? ⟨G, 3, none⟩ = some (.slice aoL L.length capL) := K5.out.cell 3
        have e4 : W5.cell? ⟨G, 4, none⟩ = some (.slice none 0 0) := K5.out.cell 4
        have K5B := K0.out.below B5.out K0.out.lt
        have d0 : W5.cell? ⟨B, 0, none⟩ = some (.string ⟨#[]⟩) := K5B.cell 0
        have d1 : W5.cell? ⟨B, 1, none⟩ = some (.int .i64 0) := K5B.cell 1
        have d2 : W5.cell? ⟨B, 2, none⟩ = some (.string ⟨#[]⟩) := K5B.cell 2
        have d3 : W5.cell? ⟨B, 3, none⟩ = some (.slice none 0 0) := K5B.cell 3
        have d4 : W5.cell? ⟨B, 4, none⟩ = some (.slice none 0 0) := K5B.cell 4
        have g0 : ∀ i, W5.frozen? ⟨B, i, none⟩ = false := fun i => K5B.free i
        have HKB := Lib.hid K5B
        clear K5B
        go_wp2_with fail
        refine rlook_end _ B _ 0 _ rfl rfl rfl (put5 HKB.out ⟨_, _, _, _, _, rfl⟩ _ _ _ _ _) (look_told (c := ⟨p, L.length, S, L, []⟩) ?_ HLK.out.2 ?_ (strAt_nil _) ?_)
        · rw [HLK.out.1, cellC_few (by rw [← HL.out]; exact H8.out), HSS.out, mine_few (by rw [← HL.out]; exact H8.out), HL.out]
        · exact StrAt.of_sl (own_put5 L5.out hBw1 _ _ _ _ _)
        · exact put5_below (HW.out.trans (B5.out.mono HW.out.size)) hBs _ _ _ _ _
      · have k1 : ¬ (L.length : Int) ≤ 8 := by omega
        have k2 : decide ((L.length : Int) ≤ 8) = false := decide_eq_false k1
        have H8 := Lib.hid (show ¬ (belowL l p).length ≤ 8 by rw [← HL.out]; exact h8)
        have KD4 := Lib.hid (KD.out (many_short HST.out.1 HST.out.2 H8.out) _ W4 (StrAt.of_sl L4.out.1))
        clear h8 KD
        go_wp2_with fail
        refine KD4.out.mono ?_
        rintro e w5 ⟨uk, rfl, hsk, hb5⟩
        have B45 := Lib.hid (B4.out.trans (hb5.mono B4.out.size))
        have K45 := Lib.hid (K4.out.below hb5 K4.out.lt)
        have SK := Lib.hid hsk
        obtain ⟨aoK, capK, rfl, -, -, -⟩ := hsk.form
        clear KD4 hsk hb5 e0 e1 e2 e3 e4 ef
        have e0 : w5.cell? ⟨G, 0, none⟩ = some (.string p) := K45.out.cell 0
        have e1 : w5.cell? ⟨G, 1, none⟩ = some (.int .i64 (L.length : Int)) := K45.out.cell 1
        have e2 : w5.cell? ⟨G, 2, none⟩ = some (.string S) := K45.out.cell 2
        have e3 : w5.cell? ⟨G, 3, none⟩ = some (.slice none 0 0) := K45.out.cell 3
        have e4 : w5.cell? ⟨G, 4, none⟩ = some (.slice none 0 0) := K45.out.cell 4
        have ef : ∀ i, w5.frozen? ⟨G, i, none⟩ = false := fun i => K45.out.free i
        obtain ⟨W6, hW6⟩ : ∃ W6, W6 = w5.setCell ⟨G, 4, none⟩ (.slice aoK 16 capK) := ⟨_, rfl⟩
        have K6 := Lib.hid (show BlkIs W6 G 25 #[.string p, .int .i64 (L.length : Int), .string S, .slice none 0 0, .slice aoK 16 capK] by rw [hW6]; exact K45.out.put 4 _)
        have hG4 : W0.heap.size ≤ (⟨G, 4, none⟩ : Addr).block := hG0
        have B6 := Lib.hid (show Below W0.heap.size W0 W6 by rw [hW6]; exact B45.out.setCell hG4 _)
        have L6 := Lib.hid (show SlIs W6 W4.heap.size 9 1 (.slice aoK 16 capK) 16 (scells (kidsM l p 16)) by
          rw [hW6]
          exact SK.out.far (p := ⟨G, 4, none⟩) (fun e => by have := (SK.out.lt G e).1; omega) _)
        have H6 := Lib.hid hW6
        clear hW6 hG4
        go_upto_region 10 with (fail)
        rw [← H6.out]
        clear H6 e0 e1 e2 e3 e4 ef
        have e0 : W6.cell? ⟨G, 0, none⟩ = some (.string p) := K6.out.cell 0
        have e1 : W6.cell? ⟨G, 1, none⟩ = some (.int .i64 (L.length : Int)) := K6.out.cell 1
        have e2 : W6.cell? ⟨G, 2, none⟩ = some (.string S) := K6.out.cell 2
        have e3 : W6.cell? ⟨G, 3, none⟩ = some (.slice none 0 0) := K6.out.cell 3
        have e4 : W6.cell? ⟨G, 4, none⟩ = some (.slice aoK 16 capK) := K6.out.cell 4
        have K6B := K0.out.below B6.out K0.out.lt
        have d0 : W6.cell? ⟨B, 0, none⟩ = some (.string ⟨#[]⟩) := K6B.cell 0
        have d1 : W6.cell? ⟨B, 1, none⟩ = some (.int .i64 0) := K6B.cell 1
        have d2 : W6.cell? ⟨B, 2, none⟩ = some (.string ⟨#[]⟩) := K6B.cell 2
        have d3 : W6.cell? ⟨B, 3, none⟩ = some (.slice none 0 0) := K6B.cell 3
        have d4 : W6.cell? ⟨B, 4, none⟩ = some (.slice none 0 0) := K6B.cell 4
        have g0 : ∀ i, W6.frozen? ⟨B, i, none⟩ = false := fun i => K6B.free i
        have HKB := Lib.hid K6B
        clear K6B
        go_wp2_with fail
        refine rlook_end _ B _ 0 _ rfl rfl rfl (put5 HKB.out ⟨_, _, _, _, _, rfl⟩ _ _ _ _ _) (look_told (c := ⟨p, L.length, S, [], kidsM l p 16⟩) ?_ HLK.out.2 (strAt_nil _) ?_ ?_)
        · rw [HLK.out.1, cellC_many HST.out.1 HST.out.2 H8.out, HSS.out, HL.out]
        · have h1 := own_put5 L6.out (by have := hGW4; omega : B < W4.heap.size) (.string p) (.int .i64 (L.length : Int)) (.string S) (.slice none 0 0) (.slice aoK 16 capK)
          have hl := kidsM_length l p 16
          have h2 := StrAt.of_sl (l := kidsM l p 16) (by rw [hl]; exact h1)
          exact h2
        · exact put5_below (HW.out.trans (B6.out.mono HW.out.size)) hBs _ _ _ _ _
theorem rtexts_same (va vb : Value) (l : List ByteArray) (w : World) (ha : StrAt w va l) (hb : StrAt w vb l) (hn : l.length ≤ 1000000) :
    Calls Tryz.prog 17 #[va, vb] w fun e w' => e = .returned (.bool true) ∧ Below w.heap.size w w' := by
  have HA := Lib.hid ha
  have HB := Lib.hid hb
  obtain ⟨ao, ca, rfl, h1, h2, -⟩ := ha
  obtain ⟨bo, cb, rfl, h3, h4, -⟩ := hb
  obtain ⟨n, hln⟩ : ∃ n, n = l.length := ⟨_, rfl⟩
  rw [← hln] at HA HB hn h1 h3 ⊢
  have z0 : ((n : Int) != (n : Int)) = false := by simp
  clear hln
  go_enter Tryz.func17, Tryz.ntmps17
  go_wp2_with fail
  go_loopw [5] (fun c wr => ∃ k : Nat, c = .int .i64 (k : Int) ∧ k ≤ n ∧ Hid (Below w.heap.size w wr)) (fun c _ => ((n : Int) - intOf c).toNat)
  case atStart => exact ⟨0, rfl, by omega, Lib.hid (Below.refl _ _)⟩
  case round =>
    obtain ⟨k, rfl, hk, HK⟩ := hrel
    rcases Nat.lt_or_ge k n with h5 | h5
    · have k1 : (k : Int) < n := by omega
      have kw : IntKind.i64.wrap ((k : Int) + 1) = ((k + 1 : Nat) : Int) := IntWalk.i64_in _ (by omega)
      obtain ⟨b, off, hao, hlt, hc⟩ := strAt_at HA.out (by omega)
      subst hao
      obtain ⟨b2, off2, hbo, hlt2, hc2⟩ := strAt_at HB.out (by omega)
      subst hbo
      have c0 := hc k h5
      rw [← HK.out.cell hlt] at c0
      have c1 := hc2 k h5
      rw [← HK.out.cell hlt2] at c1
      obtain ⟨x, hx⟩ : ∃ x, x = l[k]! := ⟨_, rfl⟩
      rw [← hx] at c0 c1
      have z1 : (x.toList != x.toList) = false := by simp
      clear hc hc2 hx
      go_upto_region 6 with (fail)
      go_quiet (fail)
      go_wp2_with fail
      refine ⟨⟨k + 1, by simp, by omega, Lib.hid (below_drewN HK.out nq)⟩, ?_⟩
      simp [intOf]
      omega
    · have k1 : decide ((k : Int) < n) = false := decide_eq_false (by omega)
      have k2 : ¬ ((k : Int) < n) := by omega
      go_wp2_with fail
      go_ret
      exact ⟨rfl, HK.out⟩
set_option maxRecDepth 100000 in
set_option maxHeartbeats 2000000 in
theorem rsame_same (c : Cp) (a0 a1 b0 b1 : Value) (w : World) (hi : StrAt w a0 c.ids) (hk : StrAt w a1 c.kids) (hi' : StrAt w b0 c.ids) (hk' : StrAt w b1 c.kids) (hn : c.ids.length ≤ 1000000) (hnk : c.kids.length ≤ 1000000) :
    Calls Tryz.prog 12 #[.agg (aggC c a0 a1), .agg (aggC c b0 b1)] w fun e w' => e = .returned (.bool true) ∧ Below w.heap.size w w' := by
  unfold aggC
  obtain ⟨pre, cnt, sum, ids, kids⟩ := c
  dsimp only at hi hk hi' hk' hn hnk ⊢
  obtain ⟨B, hB⟩ : ∃ B, B = w.heap.size := ⟨_, rfl⟩
  obtain ⟨W1, hW1⟩ : ∃ W, W = w.alloc (.cells #[.string pre, .int .i64 cnt, .string sum, a0, a1] 25) := ⟨_, rfl⟩
  obtain ⟨D, hD⟩ : ∃ D, D = W1.heap.size := ⟨_, rfl⟩
  obtain ⟨W2, hW2⟩ : ∃ W, W = W1.alloc (.cells #[.string pre, .int .i64 cnt, .string sum, b0, b1] 25) := ⟨_, rfl⟩
  have h12 : Below w.heap.size w W2 := by rw [hW2, hW1]; exact ((Below.refl _ _).alloc (Nat.le_refl _) _).alloc (by simp) _
  have K1 := Lib.hid (show BlkIs W2 B 25 #[.string pre, .int .i64 cnt, .string sum, a0, a1] by rw [hW2, hW1, hB]; exact (BlkIs.new _ _ _).alloc _)
  have K2 := Lib.hid (show BlkIs W2 D 25 #[.string pre, .int .i64 cnt, .string sum, b0, b1] by rw [hW2, hD]; exact BlkIs.new _ _ _)
  have HW := Lib.hid h12
  have T1 := Lib.hid (rtexts_same a0 b0 ids W2 (hi.later h12) (hi'.later h12) hn)
  have T2 := Lib.hid (fun W (hb : Below W2.heap.size W2 W) => rtexts_same a1 b1 kids W ((hk.later h12).later hb) ((hk'.later h12).later hb) hnk)
  obtain ⟨o1, c1, rfl, -, -, -⟩ := hi
  obtain ⟨o2, c2, rfl, -, -, -⟩ := hk
  obtain ⟨o3, c3, rfl, -, -, -⟩ := hi'
  obtain ⟨o4, c4, rfl, -, -, -⟩ := hk'
  have hDB : D = w.heap.size + 1 := by rw [hD, hW1]; simp
  have H0 := Lib.hid (And.intro hW2 (And.intro hW1 (And.intro hB hDB)))
  have z1 : (pre.toList == pre.toList) = true := by simp
  have z2 : (sum.toList == sum.toList) = true := by simp
  have z3 : (cnt == cnt) = true := by simp
  clear hW1 hW2 hB hD hDB h12
  go_enter Tryz.func12, Tryz.ntmps12
  go_upto_region 1 with (fail)
  rw [← H0.out.2.2.2, ← H0.out.2.2.1, ← H0.out.2.1, ← H0.out.1]
  clear H0
  have x0 : W2.cell? ⟨B, 0, none⟩ = some (.string pre) := K1.out.cell 0
  have x1 : W2.cell? ⟨B, 1, none⟩ = some (.int .i64 cnt) := K1.out.cell 1
  have x2 : W2.cell? ⟨B, 2, none⟩ = some (.string sum) := K1.out.cell 2
  have x3 : W2.cell? ⟨B, 3, none⟩ = some (.slice o1 ids.length c1) := K1.out.cell 3
  have y0 : W2.cell? ⟨D, 0, none⟩ = some (.string pre) := K2.out.cell 0
  have y1 : W2.cell? ⟨D, 1, none⟩ = some (.int .i64 cnt) := K2.out.cell 1
  have y2 : W2.cell? ⟨D, 2, none⟩ = some (.string sum) := K2.out.cell 2
  have y3 : W2.cell? ⟨D, 3, none⟩ = some (.slice o3 ids.length c3) := K2.out.cell 3
  go_wp2_with fail
  refine T1.out.mono ?_
  rintro e w3 ⟨rfl, hb3⟩
  have x4 : w3.cell? ⟨B, 4, none⟩ = some (.slice o2 kids.length c2) := (K1.out.below hb3 K1.out.lt).cell 4
  have y4 : w3.cell? ⟨D, 4, none⟩ = some (.slice o4 kids.length c4) := (K2.out.below hb3 K2.out.lt).cell 4
  have T3 := Lib.hid (T2.out w3 hb3)
  have B3 := Lib.hid (HW.out.trans (hb3.mono HW.out.size))
  clear T1 T2 hb3 x0 x1 x2 x3 y0 y1 y2 y3
  go_wp2_with fail
  refine T3.out.mono ?_
  rintro e w4 ⟨rfl, hb4⟩
  have B4 := Lib.hid (B3.out.trans (hb4.mono B3.out.size))
  clear T3 hb4
  go_wp2_with fail
  go_ret
  exact ⟨rfl, B4.out⟩
end Go.Proofs.YtjkhmjklmclpoaaGreat.Tr
