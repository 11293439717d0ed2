/- THE LAW TrieLooks, walked: Look answers as the document says. (Layer 10.) -/
import Derived.Test.YtjkhmjklmclpoaaGreatTrR4
import Derived.Test.YtjkhmjklmclpoaaGreatTrK
import Derived.Test.YtjkhmjklmclpoaaGreatStrs
namespace Go.Proofs.YtjkhmjklmclpoaaGreat.Tr
set_option linter.unusedVariables false
set_option linter.unusedSimpArgs false
open Go.RowKit Go.Lib
open Set (StrAt scells El Rise)
theorem look_small {l : List ByteArray} (p : ByteArray) (hn : l.length ≤ 1000000) : (lookC l p).ids.length ≤ 1000000 ∧ (lookC l p).kids.length ≤ 1000000 := by
  by_cases h1 : IsSet l
  · cases h2 : pfxB p with
    | true =>
      rw [(look_ok h1 h2).1]
      obtain ⟨_, h3⟩ := chk_ok (chk_cell h1 h2 hn)
      rcases h3 with ⟨a1, _, a3, _⟩ | ⟨a1, a2, _⟩
      · rw [a1]; exact ⟨by omega, by simp⟩
      · rw [a1, a2]; exact ⟨by simp, by omega⟩
    | false =>
      unfold lookC
      rw [h2]
      split <;> exact ⟨by simp [noC], by simp [noC]⟩
  · unfold lookC
    rw [holds_false h1]
    exact ⟨by simp [noC], by simp [noC]⟩
set_option maxRecDepth 100000 in
set_option maxHeartbeats 4000000 in
theorem looks_any (v : Value) (l : List ByteArray) (p : ByteArray) (w : World) (h : StrAt w v l) (hp : p.size ≤ 140737488351232) :
    Calls Tryz.prog 3 #[v, .string p] w fun e w' => e = .returned (.bool true) ∧ Below w.heap.size w w' := by
  have A := Lib.hid (awake_any w)
  have S0 := Lib.hid h
  have hp2 : (p.size : Int) ≤ 9223372036854775807 := by omega
  have HP := Lib.hid hp2
  obtain ⟨ao, cap, rfl, -, -, -⟩ := h
  obtain ⟨n, hn⟩ : ∃ n, n = l.length := ⟨_, rfl⟩
  rw [← hn] at S0 ⊢
  have HN := Lib.hid hn
  clear hn hp hp2
  go_enter Tryz.func3, Tryz.ntmps3
  go_wp2_with fail
  refine A.out.mono ?_
  rintro e w1 ⟨rfl, hb1⟩
  have B1 := Lib.hid hb1
  clear A hb1
  by_cases h80 : (80 : Int) < (n : Int)
  · go_wp2_with fail
    go_ret
    exact ⟨rfl, B1.out⟩
  have h80' : decide ((80 : Int) < (n : Int)) = false := decide_eq_false h80
  have h80n : decide (80 < n) = false := decide_eq_false (by omega)
  have hl : l.length ≤ 1000000 := by rw [← HN.out]; omega
  have S1 := Lib.hid (S0.out.later B1.out)
  have LK := Lib.hid (look_any _ l p w1 S1.out hl HP.out)
  obtain ⟨hcr1, hcr2⟩ := look_small p hl
  obtain ⟨c, hc⟩ : ∃ c, c = lookC l p := ⟨_, rfl⟩
  obtain ⟨z, hz⟩ : ∃ z, z = lookE l p := ⟨_, rfl⟩
  unfold LookOut at LK
  rw [← hc, ← hz] at LK
  rw [← hc] at hcr1 hcr2
  have HC := Lib.hid (And.intro hc (And.intro hz (And.intro hcr1 (And.intro hcr2 hl))))
  clear hc hz hcr1 hcr2 hl
  go_wp2_with fail
  refine LK.out.mono ?_
  rintro e w2 ⟨v, rfl, ⟨vi, vk, hv, hi, hk⟩, hb2⟩
  subst hv
  unfold aggC
  have B2 := Lib.hid (B1.out.trans (hb2.mono B1.out.size))
  obtain ⟨oi, ci, rfl, -, -, -⟩ := id hi
  obtain ⟨ok, ck, rfl, -, -, -⟩ := id hk
  obtain ⟨G, hG⟩ : ∃ G, G = w2.heap.size := ⟨_, rfl⟩
  obtain ⟨W3, hW3⟩ : ∃ W3, W3 = w2.alloc (.cells #[.string c.pre, .int .i64 c.cnt, .string c.sum, .slice oi c.ids.length ci, .slice ok c.kids.length ck] 25) := ⟨_, rfl⟩
  have h23 : Below w2.heap.size w2 W3 := by rw [hW3]; exact (Below.refl _ _).alloc (Nat.le_refl _) _
  have K3 := Lib.hid (show BlkIs W3 G 25 #[.string c.pre, .int .i64 c.cnt, .string c.sum, .slice oi c.ids.length ci, .slice ok c.kids.length ck] by rw [hW3, hG]; exact BlkIs.new _ _ _)
  have B3 := Lib.hid (B2.out.trans (h23.mono B2.out.size))
  have SI := Lib.hid (And.intro (hi.later h23) (hk.later h23))
  have S3 := Lib.hid (S0.out.later B3.out)
  have RL := Lib.hid (rlook_any _ l p W3 S3.out HC.out.2.2.2.2 HP.out)
  unfold LookOut at RL
  rw [← HC.out.1, ← HC.out.2.1] at RL
  have H3 := Lib.hid (And.intro hW3 hG)
  clear hi hk hb2 hW3 hG h23 LK
  go_upto_region 6 with (fail)
  rw [← H3.out.1, ← H3.out.2]
  clear H3
  go_wp2_with fail
  refine RL.out.mono ?_
  rintro e w4 ⟨v, rfl, ⟨vi', vk', hv, hi', hk'⟩, hb4⟩
  subst hv
  unfold aggC
  have B4 := Lib.hid (B3.out.trans (hb4.mono B3.out.size))
  have K4 := Lib.hid (K3.out.below hb4 K3.out.lt)
  obtain ⟨oi', ci', rfl, -, -, -⟩ := id hi'
  obtain ⟨ok', ck', rfl, -, -, -⟩ := id hk'
  obtain ⟨D, hD⟩ : ∃ D, D = w4.heap.size := ⟨_, rfl⟩
  obtain ⟨W5, hW5⟩ : ∃ W5, W5 = w4.alloc (.cells #[.string c.pre, .int .i64 c.cnt, .string c.sum, .slice oi' c.ids.length ci', .slice ok' c.kids.length ck'] 25) := ⟨_, rfl⟩
  have h45 : Below w4.heap.size w4 W5 := by rw [hW5]; exact (Below.refl _ _).alloc (Nat.le_refl _) _
  have K5 := Lib.hid (show BlkIs W5 D 25 #[.string c.pre, .int .i64 c.cnt, .string c.sum, .slice oi' c.ids.length ci', .slice ok' c.kids.length ck'] by rw [hW5, hD]; exact BlkIs.new _ _ _)
  have K5G := Lib.hid (K4.out.below h45 K4.out.lt)
  have B5 := Lib.hid (B4.out.trans (h45.mono B4.out.size))
  have h35 : Below W3.heap.size W3 W5 := hb4.trans (h45.mono hb4.size)
  have SM := Lib.hid (rsame_same c _ _ _ _ W5 (SI.out.1.later h35) (SI.out.2.later h35) (hi'.later h45) (hk'.later h45) HC.out.2.2.1 HC.out.2.2.2.1)
  unfold aggC at SM
  have H5 := Lib.hid (And.intro hW5 hD)
  clear hi' hk' hb4 hW5 hD h45 h35 RL
  go_upto_region 7 with (fail)
  rw [← H5.out.1, ← H5.out.2]
  clear H5
  have x0 : W5.cell? ⟨G, 0, none⟩ = some (.string c.pre) := K5G.out.cell 0
  have x1 : W5.cell? ⟨G, 1, none⟩ = some (.int .i64 c.cnt) := K5G.out.cell 1
  have x2 : W5.cell? ⟨G, 2, none⟩ = some (.string c.sum) := K5G.out.cell 2
  have x3 : W5.cell? ⟨G, 3, none⟩ = some (.slice oi c.ids.length ci) := K5G.out.cell 3
  have x4 : W5.cell? ⟨G, 4, none⟩ = some (.slice ok c.kids.length ck) := K5G.out.cell 4
  have y0 : W5.cell? ⟨D, 0, none⟩ = some (.string c.pre) := K5.out.cell 0
  have y1 : W5.cell? ⟨D, 1, none⟩ = some (.int .i64 c.cnt) := K5.out.cell 1
  have y2 : W5.cell? ⟨D, 2, none⟩ = some (.string c.sum) := K5.out.cell 2
  have y3 : W5.cell? ⟨D, 3, none⟩ = some (.slice oi' c.ids.length ci') := K5.out.cell 3
  have y4 : W5.cell? ⟨D, 4, none⟩ = some (.slice ok' c.kids.length ck') := K5.out.cell 4
  have z1 : (z == z) = true := by simp
  go_wp2_with fail
  refine SM.out.mono ?_
  rintro e w6 ⟨rfl, hb6⟩
  have B6 := Lib.hid (B5.out.trans (hb6.mono B5.out.size))
  clear SM hb6 x0 x1 x2 x3 x4 y0 y1 y2 y3 y4
  go_wp2_with fail
  go_ret
  exact ⟨rfl, B6.out⟩
theorem StrAt_of_row {w : World} {ao : Option Addr} {n cap : Nat} {ss : List ByteArray} (h : StrRow w ao n ss) (hc : n ≤ cap ∧ cap ≤ maxLen) : StrAt w (.slice ao n cap) ss := by
  obtain ⟨hl, _, _, hr⟩ := h
  refine ⟨ao, cap, by rw [hl], by omega, hc.2, fun hn => ?_⟩
  obtain ⟨b, off, ha, hlt, hcell⟩ := hr (by omega)
  refine ⟨b, off, ha, hlt, fun i hi => ?_⟩
  rw [hcell i (by omega), List.getD_eq_getElem?_getD, List.getElem?_eq_getElem hi]
  rfl
theorem looks_arg (a0 : Option Addr) (n0 c0 : Nat) (s0 : List ByteArray) (p : ByteArray) (w : World) (h0 : StrRow w a0 n0 s0) (k0 : n0 ≤ c0 ∧ c0 ≤ maxLen) (hp : p.size ≤ 140737488351232) :
    Calls Tryz.prog 3 #[.slice a0 n0 c0, .string p] w fun e w' => e = .returned (.bool true) ∧ Below w.heap.size w w' :=
  looks_any _ _ _ w (StrAt_of_row h0 k0) hp
end Go.Proofs.YtjkhmjklmclpoaaGreat.Tr
