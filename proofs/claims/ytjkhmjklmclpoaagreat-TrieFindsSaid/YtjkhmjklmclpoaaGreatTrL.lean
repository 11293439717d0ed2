/- trie.Look, walked once more: its rows are the call's own. (Layer 10.) -/
import Derived.Test.YtjkhmjklmclpoaaGreatTrQ
import Derived.Test.YtjkhmjklmclpoaaGreatTrK
namespace Go.Proofs.YtjkhmjklmclpoaaGreat.Tr
set_option linter.unusedVariables false
set_option linter.unusedSimpArgs false
open Go.RowKit Go.Lib
open Set (StrAt scells El Rise)
def CpOwn (w : World) (base : Nat) (v : Value) (c : Cp) : Prop := ∃ vi vk, v = .agg (aggC c vi vk) ∧ SlIs w base 9 1 vi c.ids.length (scells c.ids) ∧ SlIs w base 9 1 vk c.kids.length (scells c.kids)
def LookOwn (l : List ByteArray) (p : ByteArray) (w w' : World) (e : Ending) : Prop := ∃ v, e = .returned (.tuple #[v, .int .i64 (lookE l p)]) ∧ CpOwn w' w.heap.size v (lookC l p) ∧ Below w.heap.size w w'
theorem own_refused {l : List ByteArray} {p : ByteArray} {w w' : World} {n : Int} (h : lookC l p = noC) (he : lookE l p = n) (hb : Below w.heap.size w w') :
    LookOwn l p w w' (.returned (.tuple #[.agg #[.string ⟨#[]⟩, .int .i64 0, .string ⟨#[]⟩, .slice none 0 0, .slice none 0 0], .int .i64 n])) :=
  ⟨_, by rw [he], by rw [h]; exact ⟨.slice none 0 0, .slice none 0 0, rfl, SlIs.nil_ _ _ _ _, SlIs.nil_ _ _ _ _⟩, hb⟩
theorem own_told {l : List ByteArray} {p : ByteArray} {c : Cp} {w w' : World} {vi vk : Value} (h : lookC l p = c) (he : lookE l p = 0) (hi : SlIs w' w.heap.size 9 1 vi c.ids.length (scells c.ids)) (hk : SlIs w' w.heap.size 9 1 vk c.kids.length (scells c.kids)) (hb : Below w.heap.size w w') :
    LookOwn l p w w' (.returned (.tuple #[.agg #[.string c.pre, .int .i64 c.cnt, .string c.sum, vi, vk], .int .i64 0])) :=
  ⟨_, by rw [he], by rw [h]; exact ⟨vi, vk, rfl, hi, hk⟩, hb⟩
set_option maxRecDepth 100000 in
set_option maxHeartbeats 4000000 in
theorem look_own (v : Value) (l : List ByteArray) (p : ByteArray) (w : World) (h : StrAt w v l) (hn : l.length ≤ 1000000) (hp : (p.size : Int) ≤ 9223372036854775807) :
    Calls Tryz.prog 10 #[v, .string p] w fun e w' => LookOwn l p w w' e := by
  obtain ⟨B, hB⟩ : ∃ B, B = w.heap.size := ⟨_, rfl⟩
  obtain ⟨W0, hW0⟩ : ∃ W0, W0 = w.alloc (.cells #[.string ⟨#[]⟩, .int .i64 0, .string ⟨#[]⟩, .slice none 0 0, .slice none 0 0] 25) := ⟨_, rfl⟩
  have K0 := Lib.hid (show BlkIs W0 B 25 #[.string ⟨#[]⟩, .int .i64 0, .string ⟨#[]⟩, .slice none 0 0, .slice none 0 0] by rw [hW0, hB]; exact BlkIs.new _ _ _)
  have HW := Lib.hid (show Below w.heap.size w W0 by rw [hW0]; exact (Below.refl _ _).alloc (Nat.le_refl _) _)
  have S0 := Lib.hid (h.later HW.out)
  have I := Lib.hid (isSet_any v l W0 S0.out hn)
  have P := Lib.hid (isPrefix_any p hp W0)
  have BL := Lib.hid (fun W (hb : Below W0.heap.size W0 W) => below_any v l p W (S0.out.later hb) hn hp)
  have H0 := Lib.hid (And.intro hW0 (And.intro hB hn))
  obtain ⟨ao, cap, rfl, hcap1, hcap2, -⟩ := h
  obtain ⟨q, hq⟩ : ∃ q, q = holds (IsSet l) := ⟨_, rfl⟩
  rw [← hq] at I
  obtain ⟨q2, hq2⟩ : ∃ q2, q2 = pfxB p := ⟨_, rfl⟩
  rw [← hq2] at P
  have HQ := Lib.hid (And.intro hq hq2)
  have hBs : w.heap.size ≤ B := by omega
  clear hW0 hB hn hq hq2
  go_enter Tryz.func10, Tryz.ntmps10
  go_upto_region 1 with (fail)
  rw [← H0.out.1, ← H0.out.2.1]
  go_wp2_with fail
  refine I.out.mono ?_
  rintro e _ ⟨rfl, rfl⟩
  clear I
  cases q with
  | false =>
    have d0 : W0.cell? ⟨B, 0, none⟩ = some (.string ⟨#[]⟩) := K0.out.cell 0
    have d1 : W0.cell? ⟨B, 1, none⟩ = some (.int .i64 0) := K0.out.cell 1
    have d2 : W0.cell? ⟨B, 2, none⟩ = some (.string ⟨#[]⟩) := K0.out.cell 2
    have d3 : W0.cell? ⟨B, 3, none⟩ = some (.slice none 0 0) := K0.out.cell 3
    have d4 : W0.cell? ⟨B, 4, none⟩ = some (.slice none 0 0) := K0.out.cell 4
    have f0 : ∀ i, W0.frozen? ⟨B, i, none⟩ = false := fun i => K0.out.free i
    have hBW := K0.out.lt
    go_wp2_with fail
    exact look_end _ B _ 1 _ rfl rfl rfl (put5 K0.out ⟨_, _, _, _, _, rfl⟩ _ _ _ _ _) (own_refused (by unfold lookC; rw [← HQ.out.1]; rfl) (by unfold lookE; rw [← HQ.out.1]; rfl) (put5_below HW.out hBs _ _ _ _ _))
  | true =>
    go_wp2_with fail
    refine P.out.mono ?_
    rintro e w1 ⟨rfl, hb1⟩
    have B1 := Lib.hid hb1
    clear P hb1
    cases q2 with
    | false =>
      have K1 := K0.out.below B1.out K0.out.lt
      have d0 : w1.cell? ⟨B, 0, none⟩ = some (.string ⟨#[]⟩) := K1.cell 0
      have d1 : w1.cell? ⟨B, 1, none⟩ = some (.int .i64 0) := K1.cell 1
      have d2 : w1.cell? ⟨B, 2, none⟩ = some (.string ⟨#[]⟩) := K1.cell 2
      have d3 : w1.cell? ⟨B, 3, none⟩ = some (.slice none 0 0) := K1.cell 3
      have d4 : w1.cell? ⟨B, 4, none⟩ = some (.slice none 0 0) := K1.cell 4
      have f0 : ∀ i, w1.frozen? ⟨B, i, none⟩ = false := fun i => K1.free i
      have HK1 := Lib.hid K1
      clear K1
      go_wp2_with fail
      exact look_end _ B _ 4 _ rfl rfl rfl (put5 HK1.out ⟨_, _, _, _, _, rfl⟩ _ _ _ _ _) (own_refused (by unfold lookC; rw [← HQ.out.1, ← HQ.out.2]; rfl) (by unfold lookE; rw [← HQ.out.1, ← HQ.out.2]; rfl) (put5_below (HW.out.trans (B1.out.mono HW.out.size)) hBs _ _ _ _ _))
    | true =>
      have hset : IsSet l := holds_iff.1 HQ.out.1.symm
      have hps : p.size ≤ 64 := by
        have := HQ.out.2
        unfold pfxB at this
        simp at this
        exact this.1
      obtain ⟨L, hL⟩ : ∃ L, L = belowL l p := ⟨_, rfl⟩
      have hLz : ∀ x, x ∈ L → x.size = 32 := by rw [hL]; exact fun x hx => hset.size (List.mem_filter.1 hx).1
      have hLn : L.length ≤ 1000000 := by rw [hL]; exact Nat.le_trans (List.length_filter_le _ _) H0.out.2.2
      have hlook : lookC l p = cellC L p ∧ lookE l p = 0 := by
        unfold lookC lookE
        rw [← HQ.out.1, ← HQ.out.2, hL]
        exact ⟨rfl, rfl⟩
      have HLK := Lib.hid hlook
      have HLZ := Lib.hid hLz
      have BL1 := Lib.hid (BL.out w1 B1.out)
      rw [← hL] at BL1
      clear BL hL hlook hLz hset
      go_wp2_with fail
      refine BL1.out.mono ?_
      rintro e w2 ⟨u, rfl, hsl, hb2⟩
      have B2 := Lib.hid (B1.out.trans (hb2.mono B1.out.size))
      obtain ⟨aoL, capL, rfl, -, -, -⟩ := hsl.form
      obtain ⟨G, hG⟩ : ∃ G, G = w2.heap.size := ⟨_, rfl⟩
      obtain ⟨W3, hW3⟩ : ∃ W3, W3 = w2.alloc (.cells #[.string p, .int .i64 (L.length : Int), .string ⟨#[]⟩, .slice none 0 0, .slice none 0 0] 25) := ⟨_, rfl⟩
      have K3 := Lib.hid (show BlkIs W3 G 25 #[.string p, .int .i64 (L.length : Int), .string ⟨#[]⟩, .slice none 0 0, .slice none 0 0] by rw [hW3, hG]; exact BlkIs.new _ _ _)
      have hb23 : Below w2.heap.size w2 W3 := by rw [hW3]; exact (Below.refl _ _).alloc (Nat.le_refl _) _
      have B3 := Lib.hid (B2.out.trans (hb23.mono B2.out.size))
      have S3 := Lib.hid ((StrAt.of_sl hsl).later hb23)
      have L3 := Lib.hid (show SlIs W3 w1.heap.size 9 1 (.slice aoL L.length capL) L.length (scells L) ∧ (∀ k, (Value.slice aoL L.length capL).ownBlock = some k → w1.heap.size ≤ k ∧ k < G) from ⟨hsl.later hb23, fun k hk => by rw [hG]; exact hsl.lt k hk⟩)
      have hBw1 : B < w1.heap.size := Nat.lt_of_lt_of_le K0.out.lt B1.out.size
      have hGW3 : G < W3.heap.size := K3.out.lt
      have hGB : B < G := by rw [hG]; exact Nat.lt_of_lt_of_le K0.out.lt B2.out.size
      have H3 := Lib.hid (And.intro hW3 hG)
      clear hsl hb2 BL1 hG hW3 hb23
      go_upto_region 7 with (fail)
      rw [← H3.out.1, ← H3.out.2]
      clear H3
      have hse : ∀ W a n c, (binOp .eql 22 (.slice a n c) (.slice none 0 0)).run Tryz.prog W = .ok (.bool a.isNone) W := fun W a n c => Lib.run_eql_slice_nil W 22 9 a n c 0 0 Tryz.underlying22
      by_cases h8 : L.length ≤ 8
      · have CE := Lib.hid (cell_one (.slice aoL L.length capL) L p.size W3 S3.out h8 HLZ.out)
        obtain ⟨S, hS⟩ : ∃ S, S = leafS L := ⟨_, rfl⟩
        rw [← hS] at CE
        have HS := Lib.hid (And.intro hS h8)
        clear hS h8
        go_wp2_with (
          go_at_call 31
          refine CE.out.mono ?_
          rintro e w4 ⟨rfl, hb4⟩
          have K4 := K3.out.below hb4 K3.out.lt
          have B4 := Lib.hid (B3.out.trans (hb4.mono B3.out.size))
          have L4 := Lib.hid (L3.out.1.later hb4)
          have K4B := K0.out.below B4.out K0.out.lt
          have d0 : w4.cell? ⟨B, 0, none⟩ = some (.string ⟨#[]⟩) := K4B.cell 0
          have d1 : w4.cell? ⟨B, 1, none⟩ = some (.int .i64 0) := K4B.cell 1
          have d2 : w4.cell? ⟨B, 2, none⟩ = some (.string ⟨#[]⟩) := K4B.cell 2
          have d3 : w4.cell? ⟨B, 3, none⟩ = some (.slice none 0 0) := K4B.cell 3
          have d4 : w4.cell? ⟨B, 4, none⟩ = some (.slice none 0 0) := K4B.cell 4
          have g0 : ∀ i, w4.frozen? ⟨B, i, none⟩ = false := fun i => K4B.free i
          have HKB := Lib.hid K4B
          have hBG : B ≠ G := by omega
          have hGB2 : G ≠ B := by omega
          have e0 : w4.cell? ⟨G, 0, none⟩ = some (.string p) := K4.cell 0
          have e1 : w4.cell? ⟨G, 1, none⟩ = some (.int .i64 (L.length : Int)) := K4.cell 1
          have e3 : w4.cell? ⟨G, 3, none⟩ = some (.slice none 0 0) := K4.cell 3
          have e2 : w4.cell? ⟨G, 2, none⟩ = some (.string ⟨#[]⟩) := K4.cell 2
          have e4 : w4.cell? ⟨G, 4, none⟩ = some (.slice none 0 0) := K4.cell 4
          have f0 : ∀ i, w4.frozen? ⟨G, i, none⟩ = false := fun i => K4.free i
          have HK4 := Lib.hid K4
          have hGW := K4.lt
          clear hb4 CE K4 K4B)
        have hbw : Below w.heap.size w w4 := HW.out.trans (B4.out.mono HW.out.size)
        have hGs : w.heap.size ≤ G := by omega
        refine look_end _ B _ 0 _ rfl rfl rfl (put5 (((HKB.out.far hBG _).far hBG _).far hBG _) ⟨_, _, _, _, _, rfl⟩ _ _ _ _ _) (own_told (c := ⟨p, L.length, S, L, []⟩) ?_ HLK.out.2 ?_ (SlIs.nil_ _ _ _ _) ?_)
        · rw [HLK.out.1, HS.out.1]
          unfold cellC
          rw [if_pos HS.out.2]
        · exact (cell_far8 L4.out (fun k hk => by have := (L3.out.2 k hk).2; omega) (fun k hk => by have := (L3.out.2 k hk).1; omega) _ _ _ _ _ _ _ _).mono (Nat.le_trans HW.out.size B1.out.size)
        · exact put5_below (((hbw.setCell (p := ⟨G, 2, none⟩) hGs _).setCell (p := ⟨G, 4, none⟩) hGs _).setCell (p := ⟨G, 3, none⟩) hGs _) hBs _ _ _ _ _
      · have CE := Lib.hid (cell_many (.slice aoL L.length capL) L p.size W3 S3.out hLn h8 HLZ.out hps)
        obtain ⟨S, hS⟩ : ∃ S, S = (cellS 65 p.size L).1 := ⟨_, rfl⟩
        rw [← hS] at CE
        have HS := Lib.hid (And.intro hS h8)
        clear hS h8
        go_wp2_with (
          go_at_call 31
          refine CE.out.mono ?_
          rintro e w4 ⟨bk, ok, ck, rfl, hkl, hsk, hb4⟩
          have SK := Lib.hid (And.intro hkl hsk)
          clear hsk hkl
          have K4 := K3.out.below hb4 K3.out.lt
          have B4 := Lib.hid (B3.out.trans (hb4.mono B3.out.size))
          have L4 := Lib.hid (L3.out.1.later hb4)
          have K4B := K0.out.below B4.out K0.out.lt
          have d0 : w4.cell? ⟨B, 0, none⟩ = some (.string ⟨#[]⟩) := K4B.cell 0
          have d1 : w4.cell? ⟨B, 1, none⟩ = some (.int .i64 0) := K4B.cell 1
          have d2 : w4.cell? ⟨B, 2, none⟩ = some (.string ⟨#[]⟩) := K4B.cell 2
          have d3 : w4.cell? ⟨B, 3, none⟩ = some (.slice none 0 0) := K4B.cell 3
          have d4 : w4.cell? ⟨B, 4, none⟩ = some (.slice none 0 0) := K4B.cell 4
          have g0 : ∀ i, w4.frozen? ⟨B, i, none⟩ = false := fun i => K4B.free i
          have HKB := Lib.hid K4B
          have hBG : B ≠ G := by omega
          have hGB2 : G ≠ B := by omega
          have e0 : w4.cell? ⟨G, 0, none⟩ = some (.string p) := K4.cell 0
          have e1 : w4.cell? ⟨G, 1, none⟩ = some (.int .i64 (L.length : Int)) := K4.cell 1
          have e3 : w4.cell? ⟨G, 3, none⟩ = some (.slice none 0 0) := K4.cell 3
          have e2 : w4.cell? ⟨G, 2, none⟩ = some (.string ⟨#[]⟩) := K4.cell 2
          have e4 : w4.cell? ⟨G, 4, none⟩ = some (.slice none 0 0) := K4.cell 4
          have f0 : ∀ i, w4.frozen? ⟨G, i, none⟩ = false := fun i => K4.free i
          have HK4 := Lib.hid K4
          have hGW := K4.lt
          clear hb4 CE K4 K4B)
        have hbw : Below w.heap.size w w4 := HW.out.trans (B4.out.mono HW.out.size)
        have hGs : w.heap.size ≤ G := by omega
        refine look_end _ B _ 0 _ rfl rfl rfl (put5 ((HKB.out.far hBG _).far hBG _) ⟨_, _, _, _, _, rfl⟩ _ _ _ _ _) (own_told (c := ⟨p, L.length, S, [], (cellS 65 p.size L).2⟩) ?_ HLK.out.2 (SlIs.nil_ _ _ _ _) ?_ ?_)
        · rw [HLK.out.1, HS.out.1]
          unfold cellC
          rw [if_neg HS.out.2]
        · have h1 := cell_far SK.out.2 (G := G) (B := B) (fun k hk => by have := (SK.out.2.lt k hk).1; omega) (fun k hk => by have := (SK.out.2.lt k hk).1; omega) (.string S) (.slice (some ⟨bk, ok, none⟩) 16 ck) (.string p) (.int .i64 (L.length : Int)) (.string S) (.slice none 0 0) (.slice (some ⟨bk, ok, none⟩) 16 ck)
          have hl := SK.out.1
          have h2 := h1.mono (base' := w.heap.size) (Nat.le_trans HW.out.size B3.out.size)
          rw [hl]
          exact h2
        · exact put5_below ((hbw.setCell (p := ⟨G, 2, none⟩) hGs _).setCell (p := ⟨G, 4, none⟩) hGs _) hBs _ _ _ _ _
theorem own_put5 {w : World} {v : Value} {n base G : Nat} {xs : List Value} {e : TypeId} (h : SlIs w base e 1 v n xs) (hG : G < base) (x0 x1 x2 x3 x4 : Value) :
    SlIs (((((w.setCell ⟨G, 0, none⟩ x0).setCell ⟨G, 1, none⟩ x1).setCell ⟨G, 2, none⟩ x2).setCell ⟨G, 3, none⟩ x3).setCell ⟨G, 4, none⟩ x4) base e 1 v n xs := by
  have g : v.ownBlock ≠ some G := fun e => by have := (h.lt G e).1; omega
  exact ((((h.far (p := ⟨G, 0, none⟩) g _).far (p := ⟨G, 1, none⟩) g _).far (p := ⟨G, 2, none⟩) g _).far (p := ⟨G, 3, none⟩) g _).far (p := ⟨G, 4, none⟩) g _
end Go.Proofs.YtjkhmjklmclpoaaGreat.Tr
