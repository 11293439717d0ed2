/- awake of layer 10, walked. (Layer 10.) -/
import Derived.Test.YtjkhmjklmclpoaaGreatTrJ
namespace Go.Proofs.YtjkhmjklmclpoaaGreat.Tr
set_option linter.unusedVariables false
set_option linter.unusedSimpArgs false
open Go.RowKit Go.Lib
open Set (StrAt scells El Rise)
def l7 : List UInt8 := 7 :: List.replicate 31 0
theorem bcells_at {l : List UInt8} {j : Nat} (h : j < l.length) : (bcells l).toArray[j]? = some (.int .u8 (l[j]!).toNat) := by
  simp [bcells, h]
theorem one_set {n : Nat} {f : Nat → List UInt8} {l : List ByteArray} (h : SetOf n f l) (hn : n = 1) : l = [b32 (f 0)] := by
  subst hn
  have hm : b32 (f 0) ∈ l := (h.2.1 _).2 ⟨0, by omega, rfl⟩
  match l, h.2.2, hm with
  | [], _, hm => cases hm
  | [y], _, hm => rw [List.mem_singleton.1 hm]
  | y :: z :: r, hl, _ => simp at hl
theorem set_single {x : ByteArray} (h : x.size = 32) : IsSet [x] := isSet_of (List.pairwise_singleton _ _) fun y hy => by rw [List.mem_singleton.1 hy]; exact h
theorem look_one {x : ByteArray} (h : x.size = 32) : lookC [x] ⟨#[]⟩ = ⟨⟨#[]⟩, 1, leafS [x], [x], []⟩ ∧ lookE [x] ⟨#[]⟩ = 0 := by
  have := look_ok (p := ⟨#[]⟩) (set_single h) pfx_empty
  rw [below_empty (fun y hy => by rw [List.mem_singleton.1 hy]; exact h)] at this
  exact this
theorem look_zero : lookC [] ⟨#[]⟩ = ⟨⟨#[]⟩, 0, leafS [], [], []⟩ ∧ lookE [] ⟨#[]⟩ = 0 := look_ok isSet_nil pfx_empty
theorem chk_one {x : ByteArray} (h : x.size = 32) : chk ⟨⟨#[]⟩, 1, leafS [x], [x], []⟩ = 0 := by
  have := chk_cell (p := ⟨#[]⟩) (set_single h) pfx_empty (by simp)
  rw [below_empty (fun y hy => by rw [List.mem_singleton.1 hy]; exact h)] at this
  exact this
theorem look_bad : lookC [⟨#[120]⟩] ⟨#[]⟩ = noC ∧ lookE [⟨#[120]⟩] ⟨#[]⟩ = 1 := by
  have : ¬ IsSet [⟨#[120]⟩] := fun h => by
    have := h.size (x := ⟨#[120]⟩) (by simp)
    revert this
    decide
  unfold lookC lookE
  rw [holds_false this]
  exact ⟨rfl, rfl⟩
set_option maxRecDepth 100000 in
set_option maxHeartbeats 4000000 in
theorem awake_any (w : World) : Calls Tryz.prog 9 #[] w fun e w' => e = .returned (.bool true) ∧ Below w.heap.size w w' := by
  have H0 := Lib.hid (show ∃ W v, W = w.alloc (.cells (bcells l7).toArray 54) ∧ v = Value.slice (some ⟨w.heap.size, 0, none⟩) 1 1 ∧ B32At W (some ⟨w.heap.size, 0, none⟩) 1 (fun _ => l7) ∧ Below w.heap.size w W from by
    refine ⟨_, _, rfl, rfl, ⟨by decide, fun _ => ⟨w.heap.size, 0, rfl, by simp, fun i hi j hj => ?_⟩, fun i hi => rfl⟩, (Below.refl _ _).alloc (Nat.le_refl _) _⟩
    obtain rfl : i = 0 := by omega
    rw [show (0 : Nat) + 0 * 32 + j = j by omega, (BlkIs.new w _ _).cell j]
    exact bcells_at hj)
  have e0 : (bcells l7).toArray = #[.int .u8 7, .int .u8 0, .int .u8 0, .int .u8 0, .int .u8 0, .int .u8 0, .int .u8 0, .int .u8 0, .int .u8 0, .int .u8 0, .int .u8 0, .int .u8 0, .int .u8 0, .int .u8 0, .int .u8 0, .int .u8 0, .int .u8 0, .int .u8 0, .int .u8 0, .int .u8 0, .int .u8 0, .int .u8 0, .int .u8 0, .int .u8 0, .int .u8 0, .int .u8 0, .int .u8 0, .int .u8 0, .int .u8 0, .int .u8 0, .int .u8 0, .int .u8 0] := rfl
  rw [e0] at H0
  clear e0
  go_enter Tryz.func9, Tryz.ntmps9
  go_wp2_with fail
  obtain ⟨W0, v0, hW0, hv0, hb32, hbw⟩ := H0.out
  rw [← hW0]
  have HBW := Lib.hid hbw
  have SO := Lib.hid (sorted_any _ 1 1 _ W0 hb32 (by decide))
  clear H0 hW0 hv0 hb32 hbw
  refine SO.out.mono ?_
  rintro e w1 ⟨u, l, rfl, hs, hset, hb1⟩
  obtain rfl := one_set hset rfl
  obtain ⟨x, hx⟩ : ∃ x, x = b32 l7 := ⟨_, rfl⟩
  have hxz : x.size = 32 := by rw [hx]; rfl
  rw [← hx] at hs
  have hsA := StrAt.of_sl hs
  obtain ⟨bu, ou, cu, rfl, -, hbu, -, -, hcu, -⟩ := hs.at_ (by simp)
  have hcx := hcu 0 (by simp [scells])
  have HX := Lib.hid hxz
  have B1 := Lib.hid (HBW.out.trans (hb1.mono HBW.out.size))
  have HU := Lib.hid hsA
  have HCX := Lib.hid (show ∀ W, Below w1.heap.size w1 W → W.cell? ⟨bu, ou, none⟩ = some (.string x) from fun W hb => by
    rw [hb.cell hbu]
    simpa [scells] using hcx)
  obtain ⟨Y, hY⟩ : ∃ Y, Y = leafS [] := ⟨_, rfl⟩
  obtain ⟨S, hS⟩ : ∃ S, S = leafS [x] := ⟨_, rfl⟩
  have L0 := Lib.hid (fun W => show Calls Tryz.prog 10 #[.slice none 0 0, .string ⟨#[]⟩] W fun e w' => ∃ oi ci ok ck, e = .returned (.tuple #[.agg #[.string ⟨#[]⟩, .int .i64 0, .string Y, .slice oi 0 ci, .slice ok 0 ck], .int .i64 0]) ∧ Below W.heap.size W w' from
    (look_any (.slice none 0 0) [] ⟨#[]⟩ W (strAt_nil W) (by simp) (by decide)).mono fun e w' ⟨v, he, ⟨vi, vk, hv, hi, hk⟩, hb⟩ => by
      rw [look_zero.1] at hv hi hk
      obtain ⟨oi, ci, rfl, -, -, -⟩ := hi
      obtain ⟨ok, ck, rfl, -, -, -⟩ := hk
      exact ⟨oi, ci, ok, ck, by rw [he, look_zero.2, hv, hY]; rfl, hb⟩)
  have L1 := Lib.hid (fun W (hW : Below w1.heap.size w1 W) => show Calls Tryz.prog 10 #[.slice (some ⟨bu, ou, none⟩) 1 cu, .string ⟨#[]⟩] W fun e w' => ∃ oi ci ok ck, e = .returned (.tuple #[.agg #[.string ⟨#[]⟩, .int .i64 1, .string S, .slice oi 1 ci, .slice ok 0 ck], .int .i64 0]) ∧ StrAt w' (.slice oi 1 ci) [x] ∧ StrAt w' (.slice ok 0 ck) [] ∧ Below W.heap.size W w' from
    (look_any _ [x] ⟨#[]⟩ W (HU.out.later hW) (by simp) (by decide)).mono fun e w' ⟨v, he, ⟨vi, vk, hv, hi, hk⟩, hb⟩ => by
      rw [(look_one HX.out).1] at hv hi hk
      obtain ⟨oi, ci, rfl, -, -, -⟩ := id hi
      obtain ⟨ok, ck, rfl, -, -, -⟩ := id hk
      exact ⟨oi, ci, ok, ck, by rw [he, (look_one HX.out).2, hv, hS]; rfl, hi, hk, hb⟩)
  have L2 := Lib.hid (fun W (b : Nat) (hW : BlkIs W b 9 #[.string ⟨#[120]⟩]) => show Calls Tryz.prog 10 #[.slice (some ⟨b, 0, none⟩) 1 1, .string ⟨#[]⟩] W fun e w' => ∃ oi ci ok ck, e = .returned (.tuple #[.agg #[.string ⟨#[]⟩, .int .i64 0, .string ⟨#[]⟩, .slice oi 0 ci, .slice ok 0 ck], .int .i64 1]) ∧ Below W.heap.size W w' from
    (look_any _ [⟨#[120]⟩] ⟨#[]⟩ W (StrAt.of_sl (SlIs.made (n := 1) (size := 1) (base := 0) hW (Nat.zero_le _) rfl (by decide))) (by simp) (by decide)).mono fun e w' ⟨v, he, ⟨vi, vk, hv, hi, hk⟩, hb⟩ => by
      rw [look_bad.1] at hv hi hk
      obtain ⟨oi, ci, rfl, -, -, -⟩ := hi
      obtain ⟨ok, ck, rfl, -, -, -⟩ := hk
      exact ⟨oi, ci, ok, ck, by rw [he, look_bad.2, hv]; rfl, hb⟩)
  have D := Lib.hid (fun (vl : Value) (l : List ByteArray) (hset : IsSet l) (oi ok : Option Addr) (ci ck : Nat) W (hl : StrAt W vl l) (hln : l.length ≤ 1000) (hi : StrAt W (.slice oi 1 ci) [x]) (hk : StrAt W (.slice ok 0 ck) []) => show Calls Tryz.prog 15 #[vl, .agg #[.string ⟨#[]⟩, .int .i64 1, .string S, .slice oi 1 ci, .slice ok 0 ck]] W fun e w' => ∃ o1 c1 o2 c2, e = .returned (.tuple #[.slice o1 (lacksL l ⟨⟨#[]⟩, 1, leafS [x], [x], []⟩).length c1, .slice o2 0 c2, .int .i64 0]) ∧ StrAt w' (.slice o1 (lacksL l ⟨⟨#[]⟩, 1, leafS [x], [x], []⟩).length c1) (lacksL l ⟨⟨#[]⟩, 1, leafS [x], [x], []⟩) ∧ Below W.heap.size W w' from by
    have hE : drawE l ⟨⟨#[]⟩, 1, leafS [x], [x], []⟩ = 0 := by unfold drawE; rw [holds_true hset]; exact chk_one HX.out
    rw [hS]
    refine (draw_any vl l ⟨⟨#[]⟩, 1, leafS [x], [x], []⟩ _ _ W hl hi hk (by omega) (by simp) (by simp) (by show ((⟨#[]⟩ : ByteArray).size : Int) ≤ _; decide)).mono ?_
    rintro e w' ⟨u, v, rfl, hu, hv, hb⟩
    unfold drawL at hu
    unfold drawA at hv
    rw [if_pos hE] at hu hv
    obtain ⟨o1, c1, rfl, -, -, -⟩ := id hu
    obtain ⟨o2, c2, rfl, -, -, -⟩ := id hv
    exact ⟨o1, c1, o2, c2, by rw [hE]; rfl, hu, hb⟩)
  have hl0 : lacksL [] ⟨⟨#[]⟩, 1, leafS [x], [x], []⟩ = [x] := by
    unfold lacksL
    simp [Set.has_false (l := []) (x := x) (by simp)]
  have hl1 : lacksL [x] ⟨⟨#[]⟩, 1, leafS [x], [x], []⟩ = [] := by
    unfold lacksL
    simp [Set.has_true (l := [x]) (x := x) (by simp)]
  have D0 := Lib.hid (fun oi ok ci ck W hi hk => D.out (.slice none 0 0) [] isSet_nil oi ok ci ck W (strAt_nil W) (by simp) hi hk)
  have D1 := Lib.hid (fun oi ok ci ck W (hW : Below w1.heap.size w1 W) hi hk => D.out _ [x] (set_single HX.out) oi ok ci ck W (HU.out.later hW) (by simp) hi hk)
  rw [hl0] at D0
  rw [hl1] at D1
  have CK := Lib.hid (fun (oi ok : Option Addr) (ci ck : Nat) W (hi : StrAt W (.slice oi 1 ci) [x]) (hk : StrAt W (.slice ok 0 ck) []) => show Calls Tryz.prog 13 #[.agg #[.string ⟨#[]⟩, .int .i64 1, .string S, .slice oi 1 ci, .slice ok 0 ck]] W fun e w' => e = .returned (.int .i64 0) ∧ Below W.heap.size W w' from by
    have := check_any ⟨⟨#[]⟩, 1, leafS [x], [x], []⟩ _ _ W hi hk (by simp) (by simp) (by show ((⟨#[]⟩ : ByteArray).size : Int) ≤ _; decide)
    rw [chk_one HX.out] at this
    rw [hS]
    exact this)
  have SM := Lib.hid (fun W => show Calls Tryz.prog 21 #[.string ⟨#[108]⟩] W fun e w' => e = .returned (.string Y) ∧ Below W.heap.size W w' from by
    rw [hY]
    exact Sha.sum_any ⟨#[108]⟩ W (by decide))
  clear SO hs hset hb1 hx hxz hsA hcu hcx hY hS hl0 hl1 D hbu
  simp only [List.length_singleton, List.length_nil] at D0 D1
  go_wp2_with fail
  refine (L0.out _).mono ?_
  rintro e w2 ⟨oi0, ci0, ok0, ck0, rfl, hb2⟩
  have B2 := Lib.hid hb2
  obtain ⟨G, hG⟩ : ∃ G, G = w2.heap.size := ⟨_, rfl⟩
  obtain ⟨W2, hW2⟩ : ∃ W2, W2 = w2.alloc (.cells #[.string ⟨#[]⟩, .int .i64 0, .string Y, .slice oi0 0 ci0, .slice ok0 0 ck0] 25) := ⟨_, rfl⟩
  have K2 := Lib.hid (show BlkIs W2 G 25 #[.string ⟨#[]⟩, .int .i64 0, .string Y, .slice oi0 0 ci0, .slice ok0 0 ck0] by rw [hW2, hG]; exact BlkIs.new _ _ _)
  have B2' := Lib.hid (show Below w1.heap.size w1 W2 by rw [hW2]; exact B2.out.alloc B2.out.size _)
  have H2 := Lib.hid (And.intro hW2 hG)
  clear hb2 hW2 hG L0
  go_wp2_with fail
  rw [← H2.out.1, ← H2.out.2]
  refine (L1.out _ B2'.out).mono ?_
  rintro e w3 ⟨oi, ci, ok, ck, rfl, hi3, hk3, hb3⟩
  have B3 := Lib.hid (B2'.out.trans (hb3.mono B2'.out.size))
  have K3 := Lib.hid (K2.out.below hb3 K2.out.lt)
  obtain ⟨G4, hG4⟩ : ∃ G4, G4 = w3.heap.size := ⟨_, rfl⟩
  obtain ⟨W4, hW4⟩ : ∃ W4, W4 = w3.alloc (.cells #[.string ⟨#[]⟩, .int .i64 1, .string S, .slice oi 1 ci, .slice ok 0 ck] 25) := ⟨_, rfl⟩
  have h34 : Below w3.heap.size w3 W4 := by rw [hW4]; exact (Below.refl _ _).alloc (Nat.le_refl _) _
  have K4 := Lib.hid (show BlkIs W4 G4 25 #[.string ⟨#[]⟩, .int .i64 1, .string S, .slice oi 1 ci, .slice ok 0 ck] by rw [hW4, hG4]; exact BlkIs.new _ _ _)
  have B4 := Lib.hid (B3.out.trans (h34.mono B3.out.size))
  have K34 := Lib.hid (K3.out.below h34 K3.out.lt)
  have HI := Lib.hid (hi3.later h34)
  have HK := Lib.hid (hk3.later h34)
  have H4 := Lib.hid (And.intro hW4 hG4)
  have x0 : W4.cell? ⟨G4, 0, none⟩ = some (.string ⟨#[]⟩) := K4.out.cell 0
  have x1 : W4.cell? ⟨G4, 1, none⟩ = some (.int .i64 1) := K4.out.cell 1
  have x2 : W4.cell? ⟨G4, 2, none⟩ = some (.string S) := K4.out.cell 2
  have x3 : W4.cell? ⟨G4, 3, none⟩ = some (.slice oi 1 ci) := K4.out.cell 3
  have x4 : W4.cell? ⟨G4, 4, none⟩ = some (.slice ok 0 ck) := K4.out.cell 4
  clear hi3 hk3 hb3 hW4 hG4 h34 L1 H2
  go_upto_region 4 with (fail)
  rw [← H4.out.1, ← H4.out.2]
  clear H4
  go_wp2_with fail
  refine (D0.out oi ok ci ck W4 HI.out HK.out).mono ?_
  rintro e w5 ⟨o1, c1, o2, c2, rfl, hsx, hb5⟩
  obtain ⟨b1, f1, ho1, hlt1, hc1⟩ := strAt_at hsx (by omega)
  subst ho1
  have hc1' := hc1 0 (by omega)
  have B5 := Lib.hid (B4.out.trans (hb5.mono B4.out.size))
  have Q5 := Lib.hid hb5
  have HC1 := Lib.hid (show ∀ W, Below w5.heap.size w5 W → W.cell? ⟨b1, f1, none⟩ = some (.string x) from fun W hb => by rw [hb.cell hlt1]; have := hc1'; rw [Nat.add_zero] at this; exact this)
  clear x0 x1 x2 x3 x4 hb5 hsx hc1 hc1' D0 hlt1
  have K5 := K4.out.below Q5.out K4.out.lt
  have x0 : w5.cell? ⟨G4, 0, none⟩ = some (.string ⟨#[]⟩) := K5.cell 0
  have x1 : w5.cell? ⟨G4, 1, none⟩ = some (.int .i64 1) := K5.cell 1
  have x2 : w5.cell? ⟨G4, 2, none⟩ = some (.string S) := K5.cell 2
  have x3 : w5.cell? ⟨G4, 3, none⟩ = some (.slice oi 1 ci) := K5.cell 3
  have x4 : w5.cell? ⟨G4, 4, none⟩ = some (.slice ok 0 ck) := K5.cell 4
  clear K5
  go_wp2_with fail
  refine (D1.out oi ok ci ck w5 B5.out (HI.out.later Q5.out) (HK.out.later Q5.out)).mono ?_
  rintro e w6 ⟨o3, c3, o4, c4, rfl, -, hb6⟩
  have Q6 := Lib.hid (Q5.out.trans (hb6.mono Q5.out.size))
  have Q56 := Lib.hid hb6
  clear x0 x1 x2 x3 x4 hb6 D1
  obtain ⟨W7, hW7⟩ : ∃ W7, W7 = w6.alloc (.cells #[.string ⟨#[120]⟩] 9) := ⟨_, rfl⟩
  have h67 : Below w6.heap.size w6 W7 := by rw [hW7]; exact (Below.refl _ _).alloc (Nat.le_refl _) _
  have L3 := Lib.hid (L2.out W7 w6.heap.size (by rw [hW7]; exact BlkIs.new _ _ _))
  have Q7 := Lib.hid (Q6.out.trans (h67.mono Q6.out.size))
  have Q57 := Lib.hid (Q56.out.trans (h67.mono Q56.out.size))
  have H7 := Lib.hid hW7
  clear hW7 h67
  go_wp2_with fail
  rw [← H7.out]
  refine L3.out.mono ?_
  rintro e w8 ⟨o5, c5, o6, c6, rfl, hb8⟩
  have Q8 := Lib.hid (Q7.out.trans (hb8.mono Q7.out.size))
  have Q58 := Lib.hid (Q57.out.trans (hb8.mono Q57.out.size))
  clear hb8 L3 L2 H7
  go_upto_region 7 with (fail)
  obtain ⟨W9, hW9⟩ : ∃ W9, W9 = w8.alloc (.cells #[.string ⟨#[]⟩, .int .i64 0, .string ⟨#[]⟩, .slice o5 0 c5, .slice o6 0 c6] 25) := ⟨_, rfl⟩
  have h89 : Below w8.heap.size w8 W9 := by rw [hW9]; exact (Below.refl _ _).alloc (Nat.le_refl _) _
  have Q9 := Lib.hid (Q8.out.trans (h89.mono Q8.out.size))
  have Q59 := Lib.hid (Q58.out.trans (h89.mono Q58.out.size))
  rw [← hW9]
  clear hW9 h89
  have QX := Lib.hid (fun X : LaterOf W9 => Q9.out.trans (X.h.mono Q9.out.size))
  have Q5X := Lib.hid (fun X : LaterOf W9 => Q59.out.trans (X.h.mono Q59.out.size))
  have y1 : ∀ X : LaterOf W9, X.w.cell? ⟨G, 1, none⟩ = some (.int .i64 0) := fun X => (K34.out.below (QX.out X) K34.out.lt).cell 1
  have y2 : ∀ X : LaterOf W9, X.w.cell? ⟨G, 2, none⟩ = some (.string Y) := fun X => (K34.out.below (QX.out X) K34.out.lt).cell 2
  have x0 : ∀ X : LaterOf W9, X.w.cell? ⟨G4, 0, none⟩ = some (.string ⟨#[]⟩) := fun X => (K4.out.below (QX.out X) K4.out.lt).cell 0
  have x1 : ∀ X : LaterOf W9, X.w.cell? ⟨G4, 1, none⟩ = some (.int .i64 1) := fun X => (K4.out.below (QX.out X) K4.out.lt).cell 1
  have x2 : ∀ X : LaterOf W9, X.w.cell? ⟨G4, 2, none⟩ = some (.string S) := fun X => (K4.out.below (QX.out X) K4.out.lt).cell 2
  have x3 : ∀ X : LaterOf W9, X.w.cell? ⟨G4, 3, none⟩ = some (.slice oi 1 ci) := fun X => (K4.out.below (QX.out X) K4.out.lt).cell 3
  have x4 : ∀ X : LaterOf W9, X.w.cell? ⟨G4, 4, none⟩ = some (.slice ok 0 ck) := fun X => (K4.out.below (QX.out X) K4.out.lt).cell 4
  have z1 : ∀ X : LaterOf W9, X.w.cell? ⟨b1, f1, none⟩ = some (.string x) := fun X => HC1.out X.w (Q5X.out X)
  have z2 : ∀ X : LaterOf W9, X.w.cell? ⟨bu, ou, none⟩ = some (.string x) := fun X => HCX.out X.w (B4.out.trans ((QX.out X).mono B4.out.size))
  have t1 : (x.toList == x.toList) = true := by simp
  have t2 : (Y.toList == Y.toList) = true := by simp
  have CX := Lib.hid (fun X : LaterOf W9 => CK.out oi ok ci ck X.w (HI.out.later (QX.out X)) (HK.out.later (QX.out X)))
  have HF := Lib.hid (B1.out.trans ((B4.out.trans (Q9.out.mono B4.out.size)).mono B1.out.size))
  refine wp_region_all (fun w' => ∃ z : LaterOf W9, w' = z.w) (by kernel_rfl) (by kernel_rfl) ⟨LaterOf.start W9, rfl⟩ ?_
  simp only [List.append]
  repeat (go_big_quiet_step (first | exact LaterOf.call _ (SM.out _) | exact LaterOf.call _ (CX.out _)))
  refine wpQuiet_nil ?_
  intro w12 hw12
  obtain ⟨X, rfl⟩ := hw12
  clear y1 y2 x0 x1 x2 x3 x4 z1 z2 SM CX
  go_wp2_with fail
  go_ret
  exact ⟨rfl, HF.out.trans (X.h.mono HF.out.size)⟩
end Go.Proofs.YtjkhmjklmclpoaaGreat.Tr
