/- trie.Look, walked. Conditions: at most 1,000,000 ids. (Layer 10.) -/
import Derived.Test.YtljenganlknhbaaGreatTrE
import Derived.Test.YtljenganlknhbaaGreatPkA
import Derived.Lib.SliceRun
import Derived.WalkSpells
namespace Go.Proofs.YtljenganlknhbaaGreat.Tr
set_option linter.unusedVariables false
set_option linter.unusedSimpArgs false
open Go.RowKit Go.Lib
open Set (StrAt scells El Rise)
theorem cell_one (v : Value) (l : List ByteArray) (dep : Nat) (w : World) (h : StrAt w v l) (h8 : l.length ≤ 8) (hs : ∀ x, x ∈ l → x.size = 32) :
    Calls Tryz.prog 127 #[v, .int .i64 (dep : Int)] w fun e w' => e = .returned (.tuple #[.string (leafS l), .slice none 0 0]) ∧ Below w.heap.size w w' :=
  (cell_few 0 dep v l w h h8 hs).mono fun e w' ⟨u, he, _, hn, hb⟩ => ⟨by rw [he, hn h8]; rfl, hb⟩
theorem cell_many (v : Value) (l : List ByteArray) (dep : Nat) (w : World) (h : StrAt w v l) (hn : l.length ≤ 1000000) (h8 : ¬ l.length ≤ 8) (hs : ∀ x, x ∈ l → x.size = 32) (hd : dep ≤ 64) :
    Calls Tryz.prog 127 #[v, .int .i64 (dep : Int)] w fun e w' => ∃ b off cap, e = .returned (.tuple #[.string (cellS 65 dep l).1, .slice (some ⟨b, off, none⟩) 16 cap]) ∧ (cellS 65 dep l).2.length = 16 ∧ SlIs w' w.heap.size 9 1 (.slice (some ⟨b, off, none⟩) 16 cap) 16 (scells (cellS 65 dep l).2) ∧ Below w.heap.size w w' := by
  refine (cell_any 65 dep v l w h hn hs (Or.inr ⟨by omega, by omega⟩) (by omega)).mono ?_
  rintro e w' ⟨u, rfl, hk, _, hb⟩
  have hl : (cellS 65 dep l).2.length = 16 := by
    unfold cellS
    rw [if_neg h8]
    exact kidsG_length _ _ _ _ _
  obtain ⟨b, off, cap, rfl, -, -, -, -, -, -⟩ := hk.at_ (by omega)
  rw [hl] at hk ⊢
  exact ⟨b, off, cap, rfl, rfl, hk, hb⟩
/-- A cell, plain. -/
structure Cp where
  pre : ByteArray
  cnt : Int
  sum : ByteArray
  ids : List ByteArray
  kids : List ByteArray
def noC : Cp := ⟨⟨#[]⟩, 0, ⟨#[]⟩, [], []⟩
def aggC (c : Cp) (vi vk : Value) : Array Value := #[.string c.pre, .int .i64 c.cnt, .string c.sum, vi, vk]
/-- A cell as it lies. -/
def CpAt (w : World) (v : Value) (c : Cp) : Prop := ∃ vi vk, v = .agg (aggC c vi vk) ∧ StrAt w vi c.ids ∧ StrAt w vk c.kids
theorem CpAt.later {w w' : World} {v : Value} {c : Cp} (h : CpAt w v c) (hb : Below w.heap.size w w') : CpAt w' v c := by
  obtain ⟨vi, vk, hv, h1, h2⟩ := h
  exact ⟨vi, vk, hv, h1.later hb, h2.later hb⟩
theorem strAt_nil (w : World) : StrAt w (.slice none 0 0) [] := ⟨none, 0, rfl, by simp, by decide, fun h => absurd h (by simp)⟩
/-- The cell of ids below a prefix. -/
def cellC (l : List ByteArray) (p : ByteArray) : Cp := if l.length ≤ 8 then ⟨p, l.length, leafS l, l, []⟩ else ⟨p, l.length, (cellS 65 p.size l).1, [], (cellS 65 p.size l).2⟩
noncomputable def lookC (l : List ByteArray) (p : ByteArray) : Cp := if holds (IsSet l) then if pfxB p then cellC (belowL l p) p else noC else noC
noncomputable def lookE (l : List ByteArray) (p : ByteArray) : Int := if holds (IsSet l) then if pfxB p then 0 else 4 else 1
def LookOut (l : List ByteArray) (p : ByteArray) (w w' : World) (e : Ending) : Prop := ∃ v, e = .returned (.tuple #[v, .int .i64 (lookE l p)]) ∧ CpAt w' v (lookC l p) ∧ Below w.heap.size w w'
theorem look_refused {l : List ByteArray} {p : ByteArray} {w w' : World} {n : Int} (h : lookC l p = noC) (he : lookE l p = n) (hb : Below w.heap.size w w') :
    LookOut l p w w' (.returned (.tuple #[.agg #[.string ⟨#[]⟩, .int .i64 0, .string ⟨#[]⟩, .slice none 0 0, .slice none 0 0], .int .i64 n])) :=
  ⟨_, by rw [he], by rw [h]; exact ⟨.slice none 0 0, .slice none 0 0, rfl, strAt_nil _, strAt_nil _⟩, hb⟩
theorem look_told {l : List ByteArray} {p : ByteArray} {c : Cp} {w w' : World} {vi vk : Value} (h : lookC l p = c) (he : lookE l p = 0) (hi : StrAt w' vi c.ids) (hk : StrAt w' vk c.kids) (hb : Below w.heap.size w w') :
    LookOut l p w w' (.returned (.tuple #[.agg #[.string c.pre, .int .i64 c.cnt, .string c.sum, vi, vk], .int .i64 0])) :=
  ⟨_, by rw [he], by rw [h]; exact ⟨vi, vk, rfl, hi, hk⟩, hb⟩
theorem cell_far {w : World} {v : Value} {n base G B : Nat} {xs : List Value} {e : TypeId} (h : SlIs w base e 1 v n xs) (hG : ∀ k, v.ownBlock = some k → k ≠ G) (hB : ∀ k, v.ownBlock = some k → k ≠ B) (a0 a1 x0 x1 x2 x3 x4 : Value) :
    SlIs (((((((w.setCell ⟨G, 2, none⟩ a0).setCell ⟨G, 4, none⟩ a1).setCell ⟨B, 0, none⟩ x0).setCell ⟨B, 1, none⟩ x1).setCell ⟨B, 2, none⟩ x2).setCell ⟨B, 3, none⟩ x3).setCell ⟨B, 4, none⟩ x4) base e 1 v n xs := by
  have g : v.ownBlock ≠ some G := fun e => hG G e rfl
  have b : v.ownBlock ≠ some B := fun e => hB B e rfl
  exact ((((((h.far (p := ⟨G, 2, none⟩) g _).far (p := ⟨G, 4, none⟩) g _).far (p := ⟨B, 0, none⟩) b _).far (p := ⟨B, 1, none⟩) b _).far (p := ⟨B, 2, none⟩) b _).far (p := ⟨B, 3, none⟩) b _).far (p := ⟨B, 4, none⟩) b _
theorem cell_far8 {w : World} {v : Value} {n base G B : Nat} {xs : List Value} {e : TypeId} (h : SlIs w base e 1 v n xs) (hG : ∀ k, v.ownBlock = some k → k ≠ G) (hB : ∀ k, v.ownBlock = some k → k ≠ B) (a0 a1 a2 x0 x1 x2 x3 x4 : Value) :
    SlIs ((((((((w.setCell ⟨G, 2, none⟩ a0).setCell ⟨G, 4, none⟩ a1).setCell ⟨G, 3, none⟩ a2).setCell ⟨B, 0, none⟩ x0).setCell ⟨B, 1, none⟩ x1).setCell ⟨B, 2, none⟩ x2).setCell ⟨B, 3, none⟩ x3).setCell ⟨B, 4, none⟩ x4) base e 1 v n xs := by
  have g : v.ownBlock ≠ some G := fun e => hG G e rfl
  have b : v.ownBlock ≠ some B := fun e => hB B e rfl
  exact (((((((h.far (p := ⟨G, 2, none⟩) g _).far (p := ⟨G, 4, none⟩) g _).far (p := ⟨G, 3, none⟩) g _).far (p := ⟨B, 0, none⟩) b _).far (p := ⟨B, 1, none⟩) b _).far (p := ⟨B, 2, none⟩) b _).far (p := ⟨B, 3, none⟩) b _).far (p := ⟨B, 4, none⟩) b _
theorem look_end {Q : Ending → World → Prop} (w8 : World) (b : Nat) (cs : Array Value) (n : Int) (tmps : Array Value) (h2 : tmps.getD 4 undef = .pointer (some ⟨b, 0, none⟩)) (h3 : tmps.getD 5 undef = .int .i64 n) (hs : cs.size = 5) (k : BlkIs w8 b 49 cs) (hQ : Q (.returned (.tuple #[.agg cs, .int .i64 n])) w8) :
    bodyPost Tryz.prog Tryz.f85 Q Exit.ret ⟨tmps, []⟩ w8 :=
  bodyPost_ret (results_cell_tmp' rfl _ _ b 49 cs (0, 0) _ h2 k Tryz.underlying49 rfl (by rw [hs]; show _ = some 5; kernel_rfl)) rfl (by rw [h3]; exact hQ)
theorem put5 {w : World} {g : Nat} {cs : Array Value} (h : BlkIs w g 49 cs) (hs : ∃ a b c d e, cs = #[a, b, c, d, e]) (x0 x1 x2 x3 x4 : Value) :
    BlkIs (((((w.setCell ⟨g, 0, none⟩ x0).setCell ⟨g, 1, none⟩ x1).setCell ⟨g, 2, none⟩ x2).setCell ⟨g, 3, none⟩ x3).setCell ⟨g, 4, none⟩ x4) g 49 #[x0, x1, x2, x3, x4] := by
  obtain ⟨a, b, c, d, e, rfl⟩ := hs
  exact ((((h.put 0 _).put 1 _).put 2 _).put 3 _).put 4 _
theorem put5_below {w W : World} {g : Nat} (h : Below w.heap.size w W) (hg : w.heap.size ≤ g) (x0 x1 x2 x3 x4 : Value) :
    Below w.heap.size w (((((W.setCell ⟨g, 0, none⟩ x0).setCell ⟨g, 1, none⟩ x1).setCell ⟨g, 2, none⟩ x2).setCell ⟨g, 3, none⟩ x3).setCell ⟨g, 4, none⟩ x4) :=
  ((((h.setCell (p := ⟨g, 0, none⟩) hg x0).setCell (p := ⟨g, 1, none⟩) hg x1).setCell (p := ⟨g, 2, none⟩) hg x2).setCell (p := ⟨g, 3, none⟩) hg x3).setCell (p := ⟨g, 4, none⟩) hg x4
set_option maxRecDepth 100000 in
set_option maxHeartbeats 4000000 in
theorem look_any (v : Value) (l : List ByteArray) (p : ByteArray) (w : World) (h : StrAt w v l) (hn : l.length ≤ 1000000) (hp : (p.size : Int) ≤ 9223372036854775807) :
    Calls Tryz.prog 85 #[v, .string p] w fun e w' => LookOut l p w w' e := by
  obtain ⟨B, hB⟩ : ∃ B, B = w.heap.size := ⟨_, rfl⟩
  obtain ⟨W0, hW0⟩ : ∃ W0, W0 = w.alloc (.cells #[.string ⟨#[]⟩, .int .i64 0, .string ⟨#[]⟩, .slice none 0 0, .slice none 0 0] 49) := ⟨_, rfl⟩
  have K0 := Lib.hid (show BlkIs W0 B 49 #[.string ⟨#[]⟩, .int .i64 0, .string ⟨#[]⟩, .slice none 0 0, .slice none 0 0] by rw [hW0, hB]; exact BlkIs.new _ _ _)
  have HW := Lib.hid (show Below w.heap.size w W0 by rw [hW0]; exact (Below.refl _ _).alloc (Nat.le_refl _) _)
  have S0 := Lib.hid (h.later HW.out)
  have I := Lib.hid (isSet_any v l W0 S0.out hn)
  have P := Lib.hid (isPrefix_any p hp W0)
  have BL := Lib.hid (fun W (hb : Below W0.heap.size W0 W) => below_any v l p W (S0.out.later hb) hn hp)
  have H0 := Lib.hid (And.intro hW0 (And.intro hB hn))
  obtain ⟨ao, cap, rfl, hcap1, hcap2, -⟩ := h
  obtain ⟨q, hq⟩ : ∃ q, q = holds (IsSet l) := ⟨_, rfl⟩
  rw [← hq] at I
  obtain ⟨q2, hq2⟩ : ∃ q2, q2 = pfxB p := ⟨_, rfl⟩
  rw [← hq2] at P
  have HQ := Lib.hid (And.intro hq hq2)
  have hBs : w.heap.size ≤ B := by omega
  clear hW0 hB hn hq hq2
  go_enter Tryz.func85, Tryz.ntmps85
  go_upto_region 1 with (fail)
  rw [← H0.out.1, ← H0.out.2.1]
  go_wp2_with fail
  refine I.out.mono ?_
  rintro e _ ⟨rfl, rfl⟩
  clear I
  cases q with
  | false =>
    have d0 : W0.cell? ⟨B, 0, none⟩ = some (.string ⟨#[]⟩) := K0.out.cell 0
    have d1 : W0.cell? ⟨B, 1, none⟩ = some (.int .i64 0) := K0.out.cell 1
    have d2 : W0.cell? ⟨B, 2, none⟩ = some (.string ⟨#[]⟩) := K0.out.cell 2
    have d3 : W0.cell? ⟨B, 3, none⟩ = some (.slice none 0 0) := K0.out.cell 3
    have d4 : W0.cell? ⟨B, 4, none⟩ = some (.slice none 0 0) := K0.out.cell 4
    have f0 : ∀ i, W0.frozen? ⟨B, i, none⟩ = false := fun i => K0.out.free i
    have hBW := K0.out.lt
    go_wp2_with fail
    exact look_end _ B _ 1 _ rfl rfl rfl (put5 K0.out ⟨_, _, _, _, _, rfl⟩ _ _ _ _ _) (look_refused (by unfold lookC; rw [← HQ.out.1]; rfl) (by unfold lookE; rw [← HQ.out.1]; rfl) (put5_below HW.out hBs _ _ _ _ _))
  | true =>
    go_wp2_with fail
    refine P.out.mono ?_
    rintro e w1 ⟨rfl, hb1⟩
    have B1 := Lib.hid hb1
    clear P hb1
    cases q2 with
    | false =>
      have K1 := K0.out.below B1.out K0.out.lt
      have d0 : w1.cell? ⟨B, 0, none⟩ = some (.string ⟨#[]⟩) := K1.cell 0
      have d1 : w1.cell? ⟨B, 1, none⟩ = some (.int .i64 0) := K1.cell 1
      have d2 : w1.cell? ⟨B, 2, none⟩ = some (.string ⟨#[]⟩) := K1.cell 2
      have d3 : w1.cell? ⟨B, 3, none⟩ = some (.slice none 0 0) := K1.cell 3
      have d4 : w1.cell? ⟨B, 4, none⟩ = some (.slice none 0 0) := K1.cell 4
      have f0 : ∀ i, w1.frozen? ⟨B, i, none⟩ = false := fun i => K1.free i
      have HK1 := Lib.hid K1
      clear K1
      go_wp2_with fail
      exact look_end _ B _ 4 _ rfl rfl rfl (put5 HK1.out ⟨_, _, _, _, _, rfl⟩ _ _ _ _ _) (look_refused (by unfold lookC; rw [← HQ.out.1, ← HQ.out.2]; rfl) (by unfold lookE; rw [← HQ.out.1, ← HQ.out.2]; rfl) (put5_below (HW.out.trans (B1.out.mono HW.out.size)) hBs _ _ _ _ _))
    | true =>
      have hset : IsSet l := holds_iff.1 HQ.out.1.symm
      have hps : p.size ≤ 64 := by
        have := HQ.out.2
        unfold pfxB at this
        simp at this
        exact this.1
      obtain ⟨L, hL⟩ : ∃ L, L = belowL l p := ⟨_, rfl⟩
      have hLz : ∀ x, x ∈ L → x.size = 32 := by rw [hL]; exact fun x hx => hset.size (List.mem_filter.1 hx).1
      have hLn : L.length ≤ 1000000 := by rw [hL]; exact Nat.le_trans (List.length_filter_le _ _) H0.out.2.2
      have hlook : lookC l p = cellC L p ∧ lookE l p = 0 := by
        unfold lookC lookE
        rw [← HQ.out.1, ← HQ.out.2, hL]
        exact ⟨rfl, rfl⟩
      have HLK := Lib.hid hlook
      have HLZ := Lib.hid hLz
      have BL1 := Lib.hid (BL.out w1 B1.out)
      rw [← hL] at BL1
      clear BL hL hlook hLz hset
      go_wp2_with fail
      refine BL1.out.mono ?_
      rintro e w2 ⟨u, rfl, hsl, hb2⟩
      have B2 := Lib.hid (B1.out.trans (hb2.mono B1.out.size))
      obtain ⟨aoL, capL, rfl, -, -, -⟩ := hsl.form
      obtain ⟨G, hG⟩ : ∃ G, G = w2.heap.size := ⟨_, rfl⟩
      obtain ⟨W3, hW3⟩ : ∃ W3, W3 = w2.alloc (.cells #[.string p, .int .i64 (L.length : Int), .string ⟨#[]⟩, .slice none 0 0, .slice none 0 0] 49) := ⟨_, rfl⟩
      have K3 := Lib.hid (show BlkIs W3 G 49 #[.string p, .int .i64 (L.length : Int), .string ⟨#[]⟩, .slice none 0 0, .slice none 0 0] by rw [hW3, hG]; exact BlkIs.new _ _ _)
      have hb23 : Below w2.heap.size w2 W3 := by rw [hW3]; exact (Below.refl _ _).alloc (Nat.le_refl _) _
      have B3 := Lib.hid (B2.out.trans (hb23.mono B2.out.size))
      have S3 := Lib.hid ((StrAt.of_sl hsl).later hb23)
      have L3 := Lib.hid (show SlIs W3 w1.heap.size 9 1 (.slice aoL L.length capL) L.length (scells L) ∧ (∀ k, (Value.slice aoL L.length capL).ownBlock = some k → w1.heap.size ≤ k ∧ k < G) from ⟨hsl.later hb23, fun k hk => by rw [hG]; exact hsl.lt k hk⟩)
      have hBw1 : B < w1.heap.size := Nat.lt_of_lt_of_le K0.out.lt B1.out.size
      have hGW3 : G < W3.heap.size := K3.out.lt
      have hGB : B < G := by rw [hG]; exact Nat.lt_of_lt_of_le K0.out.lt B2.out.size
      have H3 := Lib.hid (And.intro hW3 hG)
      clear hsl hb2 BL1 hG hW3 hb23
      go_upto_region 7 with (fail)
      rw [← H3.out.1, ← H3.out.2]
      clear H3
      have hse : ∀ W a n c, (binOp .eql 22 (.slice a n c) (.slice none 0 0)).run Tryz.prog W = .ok (.bool a.isNone) W := fun W a n c => Lib.run_eql_slice_nil W 22 9 a n c 0 0 Tryz.underlying22
      by_cases h8 : L.length ≤ 8
      · have CE := Lib.hid (cell_one (.slice aoL L.length capL) L p.size W3 S3.out h8 HLZ.out)
        obtain ⟨S, hS⟩ : ∃ S, S = leafS L := ⟨_, rfl⟩
        rw [← hS] at CE
        have HS := Lib.hid (And.intro hS h8)
        clear hS h8
        go_wp2_with (
          go_at_call 127
          refine CE.out.mono ?_
          rintro e w4 ⟨rfl, hb4⟩
          have K4 := K3.out.below hb4 K3.out.lt
          have B4 := Lib.hid (B3.out.trans (hb4.mono B3.out.size))
          have L4 := Lib.hid (L3.out.1.later hb4)
          have K4B := K0.out.below B4.out K0.out.lt
          have d0 : w4.cell? ⟨B, 0, none⟩ = some (.string ⟨#[]⟩) := K4B.cell 0
          have d1 : w4.cell? ⟨B, 1, none⟩ = some (.int .i64 0) := K4B.cell 1
          have d2 : w4.cell? ⟨B, 2, none⟩ = some (.string ⟨#[]⟩) := K4B.cell 2
          have d3 : w4.cell? ⟨B, 3, none⟩ = some (.slice none 0 0) := K4B.cell 3
          have d4 : w4.cell? ⟨B, 4, none⟩ = some (.slice none 0 0) := K4B.cell 4
          have g0 : ∀ i, w4.frozen? ⟨B, i, none⟩ = false := fun i => K4B.free i
          have HKB := Lib.hid K4B
          have hBG : B ≠ G := by omega
          have hGB2 : G ≠ B := by omega
          have e0 : w4.cell? ⟨G, 0, none⟩ = some (.string p) := K4.cell 0
          have e1 : w4.cell? ⟨G, 1, none⟩ = some (.int .i64 (L.length : Int)) := K4.cell 1
          have e3 : w4.cell? ⟨G, 3, none⟩ = some (.slice none 0 0) := K4.cell 3
          have e2 : w4.cell? ⟨G, 2, none⟩ = some (.string ⟨#[]⟩) := K4.cell 2
          have e4 : w4.cell? ⟨G, 4, none⟩ = some (.slice none 0 0) := K4.cell 4
          have f0 : ∀ i, w4.frozen? ⟨G, i, none⟩ = false := fun i => K4.free i
          have HK4 := Lib.hid K4
          have hGW := K4.lt
          clear hb4 CE K4 K4B)
        have hbw : Below w.heap.size w w4 := HW.out.trans (B4.out.mono HW.out.size)
        have hGs : w.heap.size ≤ G := by omega
        refine look_end _ B _ 0 _ rfl rfl rfl (put5 (((HKB.out.far hBG _).far hBG _).far hBG _) ⟨_, _, _, _, _, rfl⟩ _ _ _ _ _) (look_told (c := ⟨p, L.length, S, L, []⟩) ?_ HLK.out.2 ?_ (strAt_nil _) ?_)
        · rw [HLK.out.1, HS.out.1]
          unfold cellC
          rw [if_pos HS.out.2]
        · exact StrAt.of_sl (cell_far8 L4.out (fun k hk => by have := (L3.out.2 k hk).2; omega) (fun k hk => by have := (L3.out.2 k hk).1; omega) _ _ _ _ _ _ _ _)
        · exact put5_below (((hbw.setCell (p := ⟨G, 2, none⟩) hGs _).setCell (p := ⟨G, 4, none⟩) hGs _).setCell (p := ⟨G, 3, none⟩) hGs _) hBs _ _ _ _ _
      · have CE := Lib.hid (cell_many (.slice aoL L.length capL) L p.size W3 S3.out hLn h8 HLZ.out hps)
        obtain ⟨S, hS⟩ : ∃ S, S = (cellS 65 p.size L).1 := ⟨_, rfl⟩
        rw [← hS] at CE
        have HS := Lib.hid (And.intro hS h8)
        clear hS h8
        go_wp2_with (
          go_at_call 127
          refine CE.out.mono ?_
          rintro e w4 ⟨bk, ok, ck, rfl, hkl, hsk, hb4⟩
          have SK := Lib.hid (And.intro hkl hsk)
          clear hsk hkl
          have K4 := K3.out.below hb4 K3.out.lt
          have B4 := Lib.hid (B3.out.trans (hb4.mono B3.out.size))
          have L4 := Lib.hid (L3.out.1.later hb4)
          have K4B := K0.out.below B4.out K0.out.lt
          have d0 : w4.cell? ⟨B, 0, none⟩ = some (.string ⟨#[]⟩) := K4B.cell 0
          have d1 : w4.cell? ⟨B, 1, none⟩ = some (.int .i64 0) := K4B.cell 1
          have d2 : w4.cell? ⟨B, 2, none⟩ = some (.string ⟨#[]⟩) := K4B.cell 2
          have d3 : w4.cell? ⟨B, 3, none⟩ = some (.slice none 0 0) := K4B.cell 3
          have d4 : w4.cell? ⟨B, 4, none⟩ = some (.slice none 0 0) := K4B.cell 4
          have g0 : ∀ i, w4.frozen? ⟨B, i, none⟩ = false := fun i => K4B.free i
          have HKB := Lib.hid K4B
          have hBG : B ≠ G := by omega
          have hGB2 : G ≠ B := by omega
          have e0 : w4.cell? ⟨G, 0, none⟩ = some (.string p) := K4.cell 0
          have e1 : w4.cell? ⟨G, 1, none⟩ = some (.int .i64 (L.length : Int)) := K4.cell 1
          have e3 : w4.cell? ⟨G, 3, none⟩ = some (.slice none 0 0) := K4.cell 3
          have e2 : w4.cell? ⟨G, 2, none⟩ = some (.string ⟨#[]⟩) := K4.cell 2
          have e4 : w4.cell? ⟨G, 4, none⟩ = some (.slice none 0 0) := K4.cell 4
          have f0 : ∀ i, w4.frozen? ⟨G, i, none⟩ = false := fun i => K4.free i
          have HK4 := Lib.hid K4
          have hGW := K4.lt
          clear hb4 CE K4 K4B)
        have hbw : Below w.heap.size w w4 := HW.out.trans (B4.out.mono HW.out.size)
        have hGs : w.heap.size ≤ G := by omega
        refine look_end _ B _ 0 _ rfl rfl rfl (put5 ((HKB.out.far hBG _).far hBG _) ⟨_, _, _, _, _, rfl⟩ _ _ _ _ _) (look_told (c := ⟨p, L.length, S, [], (cellS 65 p.size L).2⟩) ?_ HLK.out.2 (strAt_nil _) ?_ ?_)
        · rw [HLK.out.1, HS.out.1]
          unfold cellC
          rw [if_neg HS.out.2]
        · have h1 := cell_far SK.out.2 (G := G) (B := B) (fun k hk => by have := (SK.out.2.lt k hk).1; omega) (fun k hk => by have := (SK.out.2.lt k hk).1; omega) (.string S) (.slice (some ⟨bk, ok, none⟩) 16 ck) (.string p) (.int .i64 (L.length : Int)) (.string S) (.slice none 0 0) (.slice (some ⟨bk, ok, none⟩) 16 ck)
          have hl := SK.out.1
          rw [← hl] at h1
          have h2 := StrAt.of_sl h1
          rw [hl] at h2
          exact h2
        · exact put5_below ((hbw.setCell (p := ⟨G, 2, none⟩) hGs _).setCell (p := ⟨G, 4, none⟩) hGs _) hBs _ _ _ _ _
end Go.Proofs.YtljenganlknhbaaGreat.Tr
