/- merge.joined at tombs, walked. Printed by gen_joined_tb.py. (Layer 13.) -/
import Derived.Test.YtbmknmjcoeinkaaGreatMg9
import Derived.Test.YtbmknmjcoeinkaaGreatMg11
import Derived.Test.YtbmknmjcoeinkaaGreatMg14
namespace Go.Proofs.YtbmknmjcoeinkaaGreat.Mg
set_option linter.unusedVariables false
set_option linter.unusedSimpArgs false
open Go.RowKit Go.Lib
open Mk (Rf Tok Tb TbR aTb vRf vTok vTb vInt TombsAt eqB eqB_yes eqB_no)
open Oct (Moved)
open Set (El)
/-- The key of a tomb as it lies. -/
def kB (z : TbR) : K2 := kTb z.t
/-- A tomb that merge can take. -/
def Sm (z : TbR) : Prop := z.t.cov.length ≤ 1000000 ∧ z.t.acks.length ≤ 400000
/-- Where joined stands at tombs, plain. -/
def JnB (a b : List TbR) (j : Nat) (o : List TbR) : Prop := JnAt kTb mTb (a.map (·.t)) (b.map (·.t)) j (o.map (·.t))
section
variable {a b o : List TbR} {i j : Nat} {z : TbR}
theorem JnB.start (ha : Rk kTb (a.map (·.t))) : JnB a b 0 a := JnAt.start ha
theorem JnB.new (hb : Rk kTb (b.map (·.t))) (h : JnB a b j o) (hj : j < b.length) (hn : ∀ x ∈ a, kB x ≠ kB b[j]) : JnB a b (j + 1) (o ++ [b[j]]) := by
  have h1 := JnAt.new hb h (by simpa using hj) (gk_none.2 fun x hx => by
    obtain ⟨u, hu, rfl⟩ := List.mem_map.1 hx
    rw [List.getElem_map]
    exact hn u hu)
  unfold JnB
  rw [List.map_append]
  rwa [List.getElem_map] at h1
theorem JnB.old (ha : Rk kTb (a.map (·.t))) (hb : Rk kTb (b.map (·.t))) (h : JnB a b j o) (hj : j < b.length) (hi : i < a.length) (he : kB a[i] = kB b[j]) (hio : i < o.length) (hm : mTb o[i].t b[j].t = some z.t) : JnB a b (j + 1) (o.set i z) := by
  unfold JnB
  rw [List.map_set]
  exact JnAt.old mTb_key ha hb h (by simpa using hj) (by simpa using hi) (by rw [List.getElem_map, List.getElem_map]; exact he) (by simpa using hio) (by rw [List.getElem_map, List.getElem_map]; exact hm)
theorem JnB.clash (ha : Rk kTb (a.map (·.t))) (hb : Rk kTb (b.map (·.t))) (h : JnB a b j o) (hj : j < b.length) (hi : i < a.length) (he : kB a[i] = kB b[j]) (hio : i < o.length) (hm : mTb o[i].t b[j].t = none) : Clash kTb mTb (a.map (·.t)) (b.map (·.t)) :=
  JnAt.clash (i := i) (j := j) ha hb h (by simpa using hj) (by simpa using hi) (by rw [List.getElem_map, List.getElem_map]; exact he) (by simpa using hio) (by rw [List.getElem_map, List.getElem_map]; exact hm)
theorem JnB.same (ha : Rk kTb (a.map (·.t))) (hb : Rk kTb (b.map (·.t))) (h : JnB a b j o) (hj : j < b.length) (hi : i < a.length) (he : kB a[i] = kB b[j]) (hio : i < o.length) : o[i].t = a[i].t := by
  have h1 := JnAt.same (i := i) (j := j) ha hb h (by simpa using hj) (by simpa using hi) (by rw [List.getElem_map, List.getElem_map]; exact he) (by simpa using hio)
  rwa [List.getElem_map, List.getElem_map] at h1
theorem JnB.len' (h : JnB a b j o) : a.length ≤ o.length := by simpa using JnAt.len h
theorem JnB.ik (h : JnB a b j o) : Ik (fun z : TbR => kTb z.t) o := fun n p hn hp e => JnAt.ik h n p (by simpa using hn) (by simpa using hp) (by rw [List.getElem_map, List.getElem_map]; exact e)
theorem JnB.sorted {L : List TbR} (hj : j = b.length) (h : JnB a b j o) (hs : Rk (fun z : TbR => kTb z.t) L) (hp : L.Perm o) : JoinIs kTb mTb (a.map (·.t)) (b.map (·.t)) (L.map (·.t)) := by
  refine JnAt.sorted (o := o.map (·.t)) ?_ (List.pairwise_map.2 hs) (fun x => (hp.map _).mem_iff)
  rw [List.length_map, ← hj]
  exact h
end
set_option maxRecDepth 100000 in
set_option maxHeartbeats 8000000 in
theorem joined_tb (av bv : Value) (a b : List TbR) (w : World) (hta : TombsAt w av a) (htb : TombsAt w bv b) (ra : Rk kTb (a.map (·.t))) (rb : Rk kTb (b.map (·.t))) (hn : a.length ≤ 1000000) (hm : b.length ≤ 1000000) (sa : ∀ z ∈ a, Sm z) (sb : ∀ z ∈ b, Sm z) :
    Calls Tryz.prog 70 #[av, bv, .func (.func 35) #[] #[], .func (.func 71) #[] #[], .func (.func 45) #[] #[]] w fun e w' =>
      (∃ v L, e = .returned (.tuple #[v, .bool true]) ∧ JoinIs kTb mTb (a.map (·.t)) (b.map (·.t)) (L.map (·.t)) ∧ SlIs w' (w.heap.size + 1) 43 5 v L.length (rowCells vTb L) ∧ (∀ z ∈ L, Kept w w' z) ∧ Below w.heap.size w w') ∨ (e = .returned (.tuple #[.slice none 0 0, .bool false]) ∧ Clash kTb mTb (a.map (·.t)) (b.map (·.t)) ∧ Below w.heap.size w w') := by
  obtain ⟨ha, hra⟩ := hta
  obtain ⟨hb, hrb⟩ := htb
  have hC := fun W (hA : RowAt 5 vTb W av a) => clone_tb av a W hA hn (fun z hz => ⟨row_one (hra z hz).1, row_one (hra z hz).2⟩)
  have HRA := Lib.hid (And.intro hra hrb)
  have HSM := Lib.hid (And.intro sa sb)
  have HR := Lib.hid (show Rk kB a ∧ Rk kTb (a.map (·.t)) ∧ Rk kTb (b.map (·.t)) from ⟨by unfold Rk at ra ⊢; rwa [List.pairwise_map] at ra, ra, rb⟩)
  clear hra hrb sa sb
  obtain ⟨ao, ac, rfl, ha1, ha2⟩ := ha.form
  obtain ⟨bo, bc, rfl, hb1, hb2⟩ := hb.form
  obtain ⟨n, hnn⟩ : ∃ n, n = a.length := ⟨_, rfl⟩
  obtain ⟨m, hmm⟩ : ∃ m, m = b.length := ⟨_, rfl⟩
  rw [← hnn] at hn ha
  rw [← hmm] at hm hb
  have HA := Lib.hid ha
  have HB := Lib.hid hb
  have HN := Lib.hid (And.intro hnn hmm)
  rw [← hnn] at hC ⊢
  rw [← hmm]
  have HC := Lib.hid hC
  clear ha hb ha1 ha2 hb1 hb2 hnn hmm hC ra rb
  obtain ⟨W1, hW1⟩ : ∃ W1, W1 = w.alloc (.map #[] 0) := ⟨_, rfl⟩
  have hb1 : Below w.heap.size w W1 := by rw [hW1]; exact (Below.refl _ _).alloc (Nat.le_refl _) _
  have HM := Lib.hid (show KMap kv2 W1 w.heap.size (fun _ : K2 => none) ∧ W1.heap.size = w.heap.size + 1 ∧ Below w.heap.size w W1 from ⟨by rw [hW1]; exact KMap.fresh w, by rw [hW1]; simp, hb1⟩)
  have HW1 := Lib.hid hW1
  clear hW1 hb1
  have hmk := @run_makeMap Tryz.prog
  go_enter Tryz.func70, Tryz.ntmps70
  go_wp2_with fail
  rw [← HW1.out]
  clear hmk
  refine (HC.out _ (HA.out.later HM.out.2.2)).mono ?_
  rintro e W2 ⟨v0, rfl, hs0, hb2⟩
  obtain ⟨oo, oc, rfl, _, _, _⟩ := hs0.form
  have HS0 := Lib.hid (show JStB kv2 w (posF kB (a.take 0)) (.slice oo n oc) a W2 from by
    have hlt : w.heap.size < W1.heap.size := by rw [HM.out.2.1]; exact Nat.lt_succ_self _
    refine ⟨⟨HM.out.2.2.trans (hb2.mono HM.out.2.2.size), Nat.lt_of_lt_of_le hlt hb2.size, ?_, ?_⟩, fun z hz => Kept.old (HRA.out.1 z hz)⟩
    · exact (HM.out.1.below hb2 hlt).congr fun x => rfl
    · rw [← HM.out.2.1, ← HN.out.1]; exact hs0)
  clear hs0 hb2
  go_wp2_with fail
  go_loopw [27] (fun i wr => ∃ k : Nat, i = .int .i64 (k : Int) ∧ k ≤ n ∧ Hid (JStB kv2 w (posF kB (a.take k)) (.slice oo n oc) a wr)) (fun i _ => ((n : Int) - intOf i).toNat)
  case atStart => exact ⟨0, rfl, Nat.zero_le _, HS0⟩
  case round =>
    obtain ⟨k, rfl, hkn, HL⟩ := hrel
    rcases Nat.lt_or_ge k n with hlt | hge
    · have ki : (k : Int) < n := by omega
      have kw : IntKind.i64.wrap ((k : Int) + 1) = ((k + 1 : Nat) : Int) := IntWalk.i64_in _ (by omega)
      have hkl : k < a.length := by have := HN.out.1; omega
      obtain ⟨g, off, hag, hgl, hc⟩ := (HA.out.later HL.out.below).at_ (by omega)
      subst hag
      obtain ⟨x, hx⟩ : ∃ x, x = a[k] := ⟨_, rfl⟩
      have HXR := Lib.hid (show x.Reads w from by rw [hx]; exact HRA.out.1 _ (List.getElem_mem hkl))
      obtain ⟨xp3, xm3, ex3, -, -⟩ := HXR.out.1.form
      obtain ⟨xp4, xm4, ex4, -, -⟩ := HXR.out.2.form
      obtain ⟨xl3, fx3⟩ : ∃ q, q = x.t.cov.length := ⟨_, rfl⟩
      obtain ⟨xl4, fx4⟩ : ∃ q, q = x.t.acks.length := ⟨_, rfl⟩
      rw [← fx3] at ex3
      rw [← fx4] at ex4
      have hc0 : wr.cell? ⟨g, off + k * 5, none⟩ = some (.int .i64 x.t.node) := by rw [hx]; exact hc k hkl 0 _ rfl
      have hc1 : wr.cell? ⟨g, off + k * 5 + 1, none⟩ = some (.int .i64 x.t.n) := by rw [hx]; exact hc k hkl 1 _ rfl
      have hc2 : wr.cell? ⟨g, off + k * 5 + 2, none⟩ = some (.string x.t.id) := by rw [hx]; exact hc k hkl 2 _ rfl
      have hc3 : wr.cell? ⟨g, off + k * 5 + 3, none⟩ = some (.slice xp3 xl3 xm3) := by rw [← ex3, hx]; exact hc k hkl 3 _ rfl
      have hc4 : wr.cell? ⟨g, off + k * 5 + 4, none⟩ = some (.slice xp4 xl4 xm4) := by rw [← ex4, hx]; exact hc k hkl 4 _ rfl
      have T := ofTomb_any x
      rw [ex3, ex4] at T
      have T := Lib.hid (fun W => T.below W)
      have HX := Lib.hid hx
      have HXE := Lib.hid (And.intro ex3 ex4)
      clear ex3 ex4 fx3 fx4
      clear hc hx hgl
      obtain ⟨W3, hW3⟩ : ∃ W3, W3 = wr.alloc (.cells #[.int .i64 x.t.node, .int .i64 x.t.n, .string x.t.id, .slice xp3 xl3 xm3, .slice xp4 xl4 xm4] 43) := ⟨_, rfl⟩
      have k3 : BlkIs W3 wr.heap.size 43 #[.int .i64 x.t.node, .int .i64 x.t.n, .string x.t.id, .slice xp3 xl3 xm3, .slice xp4 xl4 xm4] := by rw [hW3]; exact BlkIs.new _ _ _
      have HL3 := Lib.hid (show JStB kv2 w (posF kB (a.take k)) (.slice oo n oc) a W3 from HL.out.later (by rw [hW3]; exact (Below.refl _ _).alloc (Nat.le_refl _) _))
      have d0 : W3.cell? ⟨wr.heap.size, 0, none⟩ = some (.int .i64 x.t.node) := k3.cell 0
      have d1 : W3.cell? ⟨wr.heap.size, 1, none⟩ = some (.int .i64 x.t.n) := k3.cell 1
      have d2 : W3.cell? ⟨wr.heap.size, 2, none⟩ = some (.string x.t.id) := k3.cell 2
      have d3 : W3.cell? ⟨wr.heap.size, 3, none⟩ = some (.slice xp3 xl3 xm3) := k3.cell 3
      have d4 : W3.cell? ⟨wr.heap.size, 4, none⟩ = some (.slice xp4 xl4 xm4) := k3.cell 4
      have HW3 := Lib.hid hW3
      clear hW3 k3
      go_upto_region 6 with (fail)
      rw [← HW3.out]
      clear hc0 hc1 hc2 hc3 hc4
      go_wp2_with fail
      refine (T.out _).mono ?_
      rintro e w4 ⟨rfl, hb4⟩
      clear d0 d1 d2 d3 d4
      go_wp2_with (refine wpList_update_k key_key _ rfl _ _ _ rfl w.heap.size _ (by rfl) ((HL3.out.later hb4).map) (kB x) (k : Int) (by rfl) (by rfl) ?_ ?_)
      · rw [HX.out]
        exact posF_none.2 (rk_fresh HR.out.1 k hkl)
      intro o' hT
      have hN : JStB kv2 w (posF kB (a.take (k + 1))) (.slice oo n oc) a { w4 with heap := w4.heap.setIfInBounds w.heap.size o' } :=
        ((HL3.out.later hb4).update o' hT).congr fun y => by
          have h1 := posF_snoc (key := kB) (z := a[k]) (rk_fresh HR.out.1 k hkl) y
          rw [List.length_take, Nat.min_eq_left (Nat.le_of_lt hkl)] at h1
          rw [Mk.take_snoc' hkl, ← h1, HX.out]
      obtain ⟨w5, hw5⟩ : ∃ w5 : World, w5 = { w4 with heap := w4.heap.setIfInBounds w.heap.size o' } := ⟨_, rfl⟩
      rw [← hw5] at hN ⊢
      have HN5 := Lib.hid hN
      clear hN hw5 hT
      go_wp2_with fail
      exact ⟨⟨k + 1, by simp, by omega, HN5⟩, by simp [intOf]; omega⟩
    · have ki : ¬ ((k : Int) < n) := by omega
      have ki2 : decide ((k : Int) < n) = false := decide_eq_false ki
      obtain rfl : k = n := Nat.le_antisymm hkn hge
      have HL2 := Lib.hid (show JStB kv2 w (posF kB a) (.slice oo k oc) a wr from by
        have e1 : a.take k = a := by rw [HN.out.1, List.take_length]
        have h1 := HL.out
        rwa [e1] at h1)
      have HJ0 := Lib.hid (JnB.start (b := b) HR.out.2.1)
      clear ki
      go_wp2_with fail
      go_loopw [13, 40] (fun ov i wr => ∃ (j nn c : Nat) (ao' : Option Addr) (o : List TbR), ov = .slice ao' nn c ∧ i = .int .i64 (j : Int) ∧ j ≤ m ∧ nn ≤ k + j ∧ Hid (nn = o.length ∧ JnB a b j o ∧ JStB kv2 w (posF kB a) (.slice ao' nn c) o wr)) (fun _ i _ => ((m : Int) - intOf i).toNat)
      case atStart => exact ⟨0, k, oc, oo, a, rfl, rfl, Nat.zero_le _, Nat.le_refl _, Lib.hid ⟨HN.out.1, HJ0.out, HL2.out⟩⟩
      case round =>
        obtain ⟨j, nn, c, ao', o, rfl, rfl, hjm, hnk, HL⟩ := hrel
        rcases Nat.lt_or_ge j m with hlt | hge
        · have ki : (j : Int) < m := by omega
          have kw : IntKind.i64.wrap ((j : Int) + 1) = ((j + 1 : Nat) : Int) := IntWalk.i64_in _ (by omega)
          have hjl : j < b.length := by have := HN.out.2; omega
          obtain ⟨g, off, hag, hgl, hc⟩ := (HB.out.later HL.out.2.2.below).at_ (by omega)
          subst hag
          obtain ⟨y, hy⟩ : ∃ y, y = b[j] := ⟨_, rfl⟩
          have HYR := Lib.hid (show y.Reads w from by rw [hy]; exact HRA.out.2 _ (List.getElem_mem hjl))
          obtain ⟨yp3, ym3, ey3, -, -⟩ := HYR.out.1.form
          obtain ⟨yp4, ym4, ey4, -, -⟩ := HYR.out.2.form
          obtain ⟨yl3, fy3⟩ : ∃ q, q = y.t.cov.length := ⟨_, rfl⟩
          obtain ⟨yl4, fy4⟩ : ∃ q, q = y.t.acks.length := ⟨_, rfl⟩
          rw [← fy3] at ey3
          rw [← fy4] at ey4
          have hc0 : wr.cell? ⟨g, off + j * 5, none⟩ = some (.int .i64 y.t.node) := by rw [hy]; exact hc j hjl 0 _ rfl
          have hc1 : wr.cell? ⟨g, off + j * 5 + 1, none⟩ = some (.int .i64 y.t.n) := by rw [hy]; exact hc j hjl 1 _ rfl
          have hc2 : wr.cell? ⟨g, off + j * 5 + 2, none⟩ = some (.string y.t.id) := by rw [hy]; exact hc j hjl 2 _ rfl
          have hc3 : wr.cell? ⟨g, off + j * 5 + 3, none⟩ = some (.slice yp3 yl3 ym3) := by rw [← ey3, hy]; exact hc j hjl 3 _ rfl
          have hc4 : wr.cell? ⟨g, off + j * 5 + 4, none⟩ = some (.slice yp4 yl4 ym4) := by rw [← ey4, hy]; exact hc j hjl 4 _ rfl
          have T := ofTomb_any y
          rw [ey3, ey4] at T
          have T := Lib.hid (fun W => T.below W)
          have HY := Lib.hid hy
          have HYE := Lib.hid (And.intro ey3 ey4)
          clear ey3 ey4 fy3 fy4
          clear hc hy hgl
          obtain ⟨W3, hW3⟩ : ∃ W3, W3 = wr.alloc (.cells #[.int .i64 y.t.node, .int .i64 y.t.n, .string y.t.id, .slice yp3 yl3 ym3, .slice yp4 yl4 ym4] 43) := ⟨_, rfl⟩
          have k3 : BlkIs W3 wr.heap.size 43 #[.int .i64 y.t.node, .int .i64 y.t.n, .string y.t.id, .slice yp3 yl3 ym3, .slice yp4 yl4 ym4] := by rw [hW3]; exact BlkIs.new _ _ _
          have HL3 := Lib.hid (show nn = o.length ∧ JnB a b j o ∧ JStB kv2 w (posF kB a) (.slice ao' nn c) o W3 ∧ BlkIs W3 wr.heap.size 43 #[.int .i64 y.t.node, .int .i64 y.t.n, .string y.t.id, .slice yp3 yl3 ym3, .slice yp4 yl4 ym4] from ⟨HL.out.1, HL.out.2.1, HL.out.2.2.later (by rw [hW3]; exact (Below.refl _ _).alloc (Nat.le_refl _) _), k3⟩)
          have d0 : W3.cell? ⟨wr.heap.size, 0, none⟩ = some (.int .i64 y.t.node) := k3.cell 0
          have d1 : W3.cell? ⟨wr.heap.size, 1, none⟩ = some (.int .i64 y.t.n) := k3.cell 1
          have d2 : W3.cell? ⟨wr.heap.size, 2, none⟩ = some (.string y.t.id) := k3.cell 2
          have d3 : W3.cell? ⟨wr.heap.size, 3, none⟩ = some (.slice yp3 yl3 ym3) := k3.cell 3
          have d4 : W3.cell? ⟨wr.heap.size, 4, none⟩ = some (.slice yp4 yl4 ym4) := k3.cell 4
          have HW3 := Lib.hid hW3
          obtain ⟨B3, hB3⟩ : ∃ B3, B3 = wr.heap.size := ⟨_, rfl⟩
          clear hW3 k3
          go_upto_region 11 with (fail)
          rw [← HW3.out]
          rw [← hB3] at HL3 d0 d1 d2 d3 d4 ⊢
          clear hc0 hc1 hc2 hc3 hc4 HL HW3 hB3
          go_wp2_with fail
          refine (T.out _).mono ?_
          rintro e w4 ⟨rfl, hb4⟩
          have HL4 := Lib.hid (show nn = o.length ∧ JnB a b j o ∧ JStB kv2 w (posF kB a) (.slice ao' nn c) o w4 ∧ BlkIs w4 B3 43 #[.int .i64 y.t.node, .int .i64 y.t.n, .string y.t.id, .slice yp3 yl3 ym3, .slice yp4 yl4 ym4] from ⟨HL3.out.1, HL3.out.2.1, HL3.out.2.2.1.later hb4, HL3.out.2.2.2.below hb4 HL3.out.2.2.2.lt⟩)
          clear d0 d1 d2 d3 d4 hb4 HL3
          have k4 := HL4.out.2.2.2
          have d0 : w4.cell? ⟨B3, 0, none⟩ = some (.int .i64 y.t.node) := k4.cell 0
          have d1 : w4.cell? ⟨B3, 1, none⟩ = some (.int .i64 y.t.n) := k4.cell 1
          have d2 : w4.cell? ⟨B3, 2, none⟩ = some (.string y.t.id) := k4.cell 2
          have d3 : w4.cell? ⟨B3, 3, none⟩ = some (.slice yp3 yl3 ym3) := k4.cell 3
          have d4 : w4.cell? ⟨B3, 4, none⟩ = some (.slice yp4 yl4 ym4) := k4.cell 4
          clear k4
          cases hpos : posF kB a (kB y) with
          | none =>
            have lk : (Instr.lookup 117 (.map (some w.heap.size)) (.agg #[.int .i64 y.t.node, .int .i64 y.t.n]) true).run Tryz.prog w4 = _ := HL4.out.2.2.1.map.lookup_none key_key (kB y) hpos
            have HP := Lib.hid hpos
            clear hpos
            have Hsl := Lib.hid (show SlIs w4 (w.heap.size + 1) 43 5 (.slice ao' nn c) nn (rowCells vTb o) from by
              have h1 := HL4.out.2.2.1.sl
              rwa [← HL4.out.1] at h1)
            go_wp2_with (refine wpList_append_sl rfl _ _ _ 24 (by rfl) el_tb (base := w.heap.size + 1) (.slice ao' nn c) nn (rowCells vTb o) (by rfl) (Hsl.out.alloc _) _ 1 [.int .i64 y.t.node, .int .i64 y.t.n, .string y.t.id, .slice yp3 yl3 ym3, .slice yp4 yl4 ym4] (by rfl) (SrcIs.own Tryz.underlying24 (SlIs.made (base := 0) (BlkIs.new _ _ _) (Nat.zero_le _) rfl (by decide))) (by intro u hu; simp at hu; rcases hu with rfl | rfl | rfl | rfl | rfl <;> rfl) (by unfold maxLen; omega) (by omega) (by have := HL4.out.2.2.1.lt; simp; omega) ?_)
            intro v5 w5 hs5 hg5 hat5
            have hN : JStB kv2 w (posF kB a) v5 (o ++ [y]) w5 := (HL4.out.2.2.1.later ((Below.refl _ _).alloc (Nat.le_refl _) _)).grown hg5 (by
              rw [List.length_append, List.length_singleton, ← HL4.out.1, rowCells_app, rowCells_one]
              unfold vTb
              rw [HYE.out.1, HYE.out.2]
              exact hs5) (fun z hz => (List.mem_append.1 hz).imp id fun h => by rw [List.mem_singleton.1 h]; exact Kept.old HYR.out)
            have HN5 := Lib.hid (show nn + 1 = (o ++ [y]).length ∧ JnB a b (j + 1) (o ++ [y]) ∧ JStB kv2 w (posF kB a) v5 (o ++ [y]) w5 from
              ⟨by rw [List.length_append, List.length_singleton, ← HL4.out.1], by rw [HY.out]; exact HL4.out.2.1.new HR.out.2.2 hjl (by rw [← HY.out]; exact posF_none.1 HP.out), hN⟩)
            obtain ⟨ao5, c5, rfl, -, -, -⟩ := hs5.form
            clear hN hs5 hg5 hat5
            go_wp2_with fail
            exact ⟨⟨j + 1, nn + 1, c5, ao5, o ++ [y], rfl, by simp, by omega, by omega, HN5⟩, by simp [intOf]; omega⟩
          | some ii =>
            obtain ⟨i, hi, rfl, he⟩ := posF_some hpos
            have lk : (Instr.lookup 117 (.map (some w.heap.size)) (.agg #[.int .i64 y.t.node, .int .i64 y.t.n]) true).run Tryz.prog w4 = _ := HL4.out.2.2.1.map.lookup_some key_key (kB y) _ hpos
            clear hpos
            have hio : i < o.length := Nat.lt_of_lt_of_le hi HL4.out.2.1.len'
            have hin : (i : Int) < nn := by have := HL4.out.1; omega
            obtain ⟨x, hx⟩ : ∃ x, x = o[i] := ⟨_, rfl⟩
            have heY : kB a[i] = kB b[j] := by rw [he, HY.out]
            have hsm : Sm x := by
              have h1 := HL4.out.2.1.same HR.out.2.1 HR.out.2.2 hjl hi heY hio
              rw [← hx] at h1
              unfold Sm
              rw [h1]
              exact HSM.out.1 _ (List.getElem_mem hi)
            have hsy : Sm y := by rw [HY.out]; exact HSM.out.2 _ (List.getElem_mem hjl)
            have hrx : x.Reads w4 := by rw [hx]; exact (HL4.out.2.2.1.kept _ (List.getElem_mem hio)).reads HL4.out.2.2.1.below
            have hry : y.Reads w4 := ⟨HYR.out.1.later HL4.out.2.2.1.below, HYR.out.2.later HL4.out.2.2.1.below⟩
            obtain ⟨xp3, xm3, ex3, -, -⟩ := hrx.1.form
            obtain ⟨xp4, xm4, ex4, -, -⟩ := hrx.2.form
            obtain ⟨xl3, fx3⟩ : ∃ q, q = x.t.cov.length := ⟨_, rfl⟩
            obtain ⟨xl4, fx4⟩ : ∃ q, q = x.t.acks.length := ⟨_, rfl⟩
            rw [← fx3] at ex3
            rw [← fx4] at ex4
            have HXE := Lib.hid (And.intro ex3 ex4)
            obtain ⟨g2, off2, c2, hv, hg2, hlt2, hc2, hm2, hx2, hf2⟩ := HL4.out.2.2.1.sl.at_ (by omega)
            injection hv with e1 e2 e3
            subst e1
            have hl2 := rowCells_len (k := 5) (enc := vTb) (fun _ => rfl) o
            have q0 : w4.cell? ⟨g2, off2 + i * 5, none⟩ = some (.int .i64 x.t.node) := by rw [hx2 (i * 5) (by omega), hx]; exact rowCells_get (k := 5) (enc := vTb) (fun _ => rfl) o i hio 0 (by decide)
            have q1 : w4.cell? ⟨g2, off2 + i * 5 + 1, none⟩ = some (.int .i64 x.t.n) := by rw [Nat.add_assoc, hx2 (i * 5 + 1) (by omega), hx]; exact rowCells_get (k := 5) (enc := vTb) (fun _ => rfl) o i hio 1 (by decide)
            have q2 : w4.cell? ⟨g2, off2 + i * 5 + 2, none⟩ = some (.string x.t.id) := by rw [Nat.add_assoc, hx2 (i * 5 + 2) (by omega), hx]; exact rowCells_get (k := 5) (enc := vTb) (fun _ => rfl) o i hio 2 (by decide)
            have q3 : w4.cell? ⟨g2, off2 + i * 5 + 3, none⟩ = some (.slice xp3 xl3 xm3) := by rw [← ex3, Nat.add_assoc, hx2 (i * 5 + 3) (by omega), hx]; exact rowCells_get (k := 5) (enc := vTb) (fun _ => rfl) o i hio 3 (by decide)
            have q4 : w4.cell? ⟨g2, off2 + i * 5 + 4, none⟩ = some (.slice xp4 xl4 xm4) := by rw [← ex4, Nat.add_assoc, hx2 (i * 5 + 4) (by omega), hx]; exact rowCells_get (k := 5) (enc := vTb) (fun _ => rfl) o i hio 4 (by decide)
            have HK := Lib.hid (show ∀ W, Below w4.heap.size w4 W → W.cell? ⟨g2, off2 + i * 5, none⟩ = some (.int .i64 x.t.node) ∧ W.cell? ⟨g2, off2 + i * 5 + 1, none⟩ = some (.int .i64 x.t.n) ∧ W.cell? ⟨g2, off2 + i * 5 + 2, none⟩ = some (.string x.t.id) ∧ W.cell? ⟨g2, off2 + i * 5 + 3, none⟩ = some (.slice xp3 xl3 xm3) ∧ W.cell? ⟨g2, off2 + i * 5 + 4, none⟩ = some (.slice xp4 xl4 xm4) ∧ W.cell? ⟨B3, 0, none⟩ = some (.int .i64 y.t.node) ∧ W.cell? ⟨B3, 1, none⟩ = some (.int .i64 y.t.n) ∧ W.cell? ⟨B3, 2, none⟩ = some (.string y.t.id) ∧ W.cell? ⟨B3, 3, none⟩ = some (.slice yp3 yl3 ym3) ∧ W.cell? ⟨B3, 4, none⟩ = some (.slice yp4 yl4 ym4) from fun W hb =>
              ⟨by rw [hb.cell hlt2]; exact q0, by rw [hb.cell hlt2]; exact q1, by rw [hb.cell hlt2]; exact q2, by rw [hb.cell hlt2]; exact q3, by rw [hb.cell hlt2]; exact q4, by rw [hb.cell HL4.out.2.2.2.lt]; exact d0, by rw [hb.cell HL4.out.2.2.2.lt]; exact d1, by rw [hb.cell HL4.out.2.2.2.lt]; exact d2, by rw [hb.cell HL4.out.2.2.2.lt]; exact d3, by rw [hb.cell HL4.out.2.2.2.lt]; exact d4⟩)
            have HX := Lib.hid (And.intro hx (And.intro heY hi))
            have HG2 := Lib.hid (And.intro hg2 hlt2)
            obtain ⟨zt, hzt⟩ : ∃ zt, zt = plus x.t y.t.acks := ⟨_, rfl⟩
            obtain ⟨q, hq⟩ : ∃ q, q = sameB x.t y.t := ⟨_, rfl⟩
            have T2 := Lib.hid (show ∀ W, Below w4.heap.size w4 W → Calls Tryz.prog 45 #[.agg #[.int .i64 x.t.node, .int .i64 x.t.n, .string x.t.id, .slice xp3 xl3 xm3, .slice xp4 xl4 xm4], .agg #[.int .i64 y.t.node, .int .i64 y.t.n, .string y.t.id, .slice yp3 yl3 ym3, .slice yp4 yl4 ym4]] W fun e w' => ∃ (z : TbR) (zp3 : Option Addr) (zl3 zm3 : Nat) (zp4 : Option Addr) (zl4 zm4 : Nat), e = .returned (.tuple #[.agg #[.int .i64 z.t.node, .int .i64 z.t.n, .string z.t.id, .slice zp3 zl3 zm3, .slice zp4 zl4 zm4], .bool q]) ∧ (z.t = zt ∧ (z.cv = .slice zp3 zl3 zm3 ∧ z.av = .slice zp4 zl4 zm4) ∧ SlIs w' (w.heap.size + 1) 45 3 z.cv z.t.cov.length (rowCells vTok z.t.cov) ∧ SlIs w' (w.heap.size + 1) 3 1 z.av z.t.acks.length (rowCells vInt z.t.acks)) ∧ Below W.heap.size W w' from fun W hW => by
              have h0 := meets_any x y W ⟨hrx.1.later hW, hrx.2.later hW⟩ ⟨hry.1.later hW, hry.2.later hW⟩ hsm hsy
              have e1 : aTb x = .agg #[.int .i64 x.t.node, .int .i64 x.t.n, .string x.t.id, .slice xp3 xl3 xm3, .slice xp4 xl4 xm4] := by unfold aTb; rw [ex3, ex4]
              have e2 : aTb y = .agg #[.int .i64 y.t.node, .int .i64 y.t.n, .string y.t.id, .slice yp3 yl3 ym3, .slice yp4 yl4 ym4] := by unfold aTb; rw [HYE.out.1, HYE.out.2]
              rw [e1, e2] at h0
              refine h0.mono ?_
              rintro e w' ⟨cv, av, rfl, ⟨h1, h2⟩, h3⟩
              obtain ⟨zp3, zm3, rfl, -, -, -⟩ := h1.form
              obtain ⟨zp4, zm4, rfl, -, -, -⟩ := h2.form
              have hsz : w.heap.size + 1 ≤ W.heap.size := Nat.le_trans HL4.out.2.2.1.lt hW.size
              exact ⟨⟨plus x.t y.t.acks, _, _⟩, _, _, _, _, _, _, by rw [hq]; rfl, ⟨hzt.symm, ⟨rfl, rfl⟩, h1.mono hsz, h2.mono hsz⟩, h3⟩)
            have HZ := Lib.hid (And.intro hzt hq)
            have hbd : Below w4.heap.size w4 w4.drew := ⟨rfl, rfl, rfl, Nat.le_refl _, fun _ _ => rfl⟩
            have hba : Below w4.heap.size w4 (w4.drew.alloc (.cells #[.int .i64 0, .int .i64 0, .string ⟨#[]⟩, .slice none 0 0, .slice none 0 0] 43)) := hbd.alloc (Nat.le_refl _) _
            clear hx he heY hg2 hlt2 hc2 hm2 hx2 hf2 hl2 hzt hq hsm hsy hrx hry ex3 ex4 fx3 fx4 e2 e3
            go_upto_region 14 with (fail)
            clear lk
            refine wp_region_held_drew (S := fun W => W.cell? ⟨g2, off2 + i * 5, none⟩ = some (.int .i64 x.t.node) ∧ W.cell? ⟨g2, off2 + i * 5 + 1, none⟩ = some (.int .i64 x.t.n) ∧ W.cell? ⟨g2, off2 + i * 5 + 2, none⟩ = some (.string x.t.id) ∧ W.cell? ⟨g2, off2 + i * 5 + 3, none⟩ = some (.slice xp3 xl3 xm3) ∧ W.cell? ⟨g2, off2 + i * 5 + 4, none⟩ = some (.slice xp4 xl4 xm4) ∧ W.cell? ⟨B3, 0, none⟩ = some (.int .i64 y.t.node) ∧ W.cell? ⟨B3, 1, none⟩ = some (.int .i64 y.t.n) ∧ W.cell? ⟨B3, 2, none⟩ = some (.string y.t.id) ∧ W.cell? ⟨B3, 3, none⟩ = some (.slice yp3 yl3 ym3) ∧ W.cell? ⟨B3, 4, none⟩ = some (.slice yp4 yl4 ym4)) (by kernel_rfl) (HK.out _ hbd) (fun hHeld => ?_)
            refine wpAnyH_take (i := 0) (v := .func (.func 45) #[] #[]) rfl (by kernel_rfl) (by kernel_rfl) (by kernel_rfl) (fun _ _ _ h => h) (Or.inl ⟨by kernel_rfl, fun w hSw => ?_⟩) (by assumption) ?_
            · dsimp only at hSw
              go_simp
            simp only [Act.put, List.setIfInBounds_toArray, List.set_cons_zero, List.set_cons_succ]
            refine wpAnyH_take (i := 1) (v := .slice (some ⟨g2, off2, none⟩) nn c) rfl (by kernel_rfl) (by kernel_rfl) (by kernel_rfl) (fun _ _ _ h => h) (Or.inl ⟨by kernel_rfl, fun w hSw => ?_⟩) (by assumption) ?_
            · dsimp only at hSw
              go_simp
            simp only [Act.put, List.setIfInBounds_toArray, List.set_cons_zero, List.set_cons_succ]
            refine wpAnyH_take (i := 2) (v := .int .i64 (i : Int)) rfl (by kernel_rfl) (by kernel_rfl) (by kernel_rfl) (fun _ _ _ h => h) (Or.inl ⟨by kernel_rfl, fun w hSw => ?_⟩) (by assumption) ?_
            · dsimp only at hSw
              go_simp
            simp only [Act.put, List.setIfInBounds_toArray, List.set_cons_zero, List.set_cons_succ]
            refine wpAnyH_take (i := 3) (v := .pointer (some ⟨g2, off2 + i * 5, none⟩)) rfl (by kernel_rfl) (by kernel_rfl) (by kernel_rfl) (fun _ _ _ h => h) (Or.inl ⟨by kernel_rfl, fun w hSw => ?_⟩) (by assumption) ?_
            · dsimp only at hSw
              go_simp
            simp only [Act.put, List.setIfInBounds_toArray, List.set_cons_zero, List.set_cons_succ]
            refine wpAnyH_take (i := 4) (v := .agg #[.int .i64 x.t.node, .int .i64 x.t.n, .string x.t.id, .slice xp3 xl3 xm3, .slice xp4 xl4 xm4]) rfl (by kernel_rfl) (by kernel_rfl) (by kernel_rfl) (fun _ _ _ h => h) (Or.inl ⟨by kernel_rfl, fun w hSw => ?_⟩) (by assumption) ?_
            · dsimp only at hSw
              go_simp
            simp only [Act.put, List.setIfInBounds_toArray, List.set_cons_zero, List.set_cons_succ]
            refine wpAnyH_take (i := 5) (v := .agg #[.int .i64 y.t.node, .int .i64 y.t.n, .string y.t.id, .slice yp3 yl3 ym3, .slice yp4 yl4 ym4]) rfl (by kernel_rfl) (by kernel_rfl) (by kernel_rfl) (fun _ _ _ h => h) (Or.inl ⟨by kernel_rfl, fun w hSw => ?_⟩) (by assumption) ?_
            · dsimp only at hSw
              go_simp
            simp only [Act.put, List.setIfInBounds_toArray, List.set_cons_zero, List.set_cons_succ]
            refine wpAnyH_ready (rs := [6, 10]) (by kernel_rfl) (by simp) ?_
            refine AllReadyH.cons rfl (fun K hK => ?_) (AllReadyH.cons rfl (fun K hK => ?_) AllReadyH.nil)
            · go_simp
              go_wp2_with (
                go_at_call 45
                refine (T2.out _ hbd).mono ?_
                rintro e w5 ⟨z, zp3, zl3, zm3, zp4, zl4, zm4, rfl, hz, hb⟩
                have H5 := Lib.hid hz
                clear hz)
              have hb5 : Below w4.heap.size w4 w5 := hbd.trans (hb.mono hbd.size)
              refine hK.out _ _ ?_ (fun hHeld2 => ?_)
              · exact HK.out _ hb5
              clear hK K hb
              refine wpAnyH_take (i := 7) (v := .tuple #[.agg #[.int .i64 z.t.node, .int .i64 z.t.n, .string z.t.id, .slice zp3 zl3 zm3, .slice zp4 zl4 zm4], .bool q]) rfl (by kernel_rfl) (by kernel_rfl) (by kernel_rfl) (fun _ _ _ h => h) (Or.inl ⟨by kernel_rfl, fun w hSw => ?_⟩) (by assumption) ?_
              · dsimp only at hSw
                go_simp
              simp only [Act.put, List.setIfInBounds_toArray, List.set_cons_zero, List.set_cons_succ]
              refine wpAnyH_take (i := 8) (v := .agg #[.int .i64 z.t.node, .int .i64 z.t.n, .string z.t.id, .slice zp3 zl3 zm3, .slice zp4 zl4 zm4]) rfl (by kernel_rfl) (by kernel_rfl) (by kernel_rfl) (fun _ _ _ h => h) (Or.inl ⟨by kernel_rfl, fun w hSw => ?_⟩) (by assumption) ?_
              · dsimp only at hSw
                go_simp
              simp only [Act.put, List.setIfInBounds_toArray, List.set_cons_zero, List.set_cons_succ]
              refine wpAnyH_take (i := 9) (v := .bool q) rfl (by kernel_rfl) (by kernel_rfl) (by kernel_rfl) (fun _ _ _ h => h) (Or.inl ⟨by kernel_rfl, fun w hSw => ?_⟩) (by assumption) ?_
              · dsimp only at hSw
                go_simp
              simp only [Act.put, List.setIfInBounds_toArray, List.set_cons_zero, List.set_cons_succ]
              refine wpAnyH_ready (rs := [10]) (by kernel_rfl) (by simp) ?_
              refine AllReadyH.cons rfl (fun K hK => ?_) AllReadyH.nil
              go_simp
              refine hK.out _ _ ?_ (fun hHeld3 => ?_)
              · exact HK.out _ (hb5.alloc hb5.size _)
              clear hK K
              refine wpAnyH_ready (rs := [11]) (by kernel_rfl) (by simp) ?_
              refine AllReadyH.cons rfl (fun K hK => ?_) AllReadyH.nil
              go_simp
              refine hK.out _ _ ?_ (fun hHeld4 => ?_)
              · exact HK.out _ (hb5.alloc hb5.size _)
              clear hK K
              refine wpAnyH_ready (rs := [12]) (by kernel_rfl) (by simp) ?_
              refine AllReadyH.cons rfl (fun K hK => ?_) AllReadyH.nil
              go_simp
              refine hK.out _ _ ?_ (fun hHeld5 => ?_)
              · exact HK.out _ (hb5.alloc hb5.size _)
              clear hK K
              refine wpAnyH_done (by kernel_rfl) ?_ _
              obtain ⟨W6, hW6⟩ : ∃ W6, W6 = w5.alloc (.cells #[.int .i64 z.t.node, .int .i64 z.t.n, .string z.t.id, .slice zp3 zl3 zm3, .slice zp4 zl4 zm4] 43) := ⟨_, rfl⟩
              obtain ⟨B6, hB6⟩ : ∃ B6, B6 = w5.heap.size := ⟨_, rfl⟩
              have L6 := Lib.hid (show BlkIs W6 B6 43 #[.int .i64 z.t.node, .int .i64 z.t.n, .string z.t.id, .slice zp3 zl3 zm3, .slice zp4 zl4 zm4] ∧ Below w4.heap.size w4 W6 ∧ Kept w W6 z from by
                rw [hW6, hB6]
                exact ⟨BlkIs.new _ _ _, hb5.alloc hb5.size _, ⟨.inr (H5.out.2.2.1.alloc _), .inr (H5.out.2.2.2.alloc _)⟩⟩)
              rw [← hW6, ← hB6]
              clear HK T2 hbd hba d0 d1 d2 d3 d4 q0 q1 q2 q3 q4 hW6 hB6 hb5
              have HJ6 := Lib.hid (HL4.out.2.2.1.later L6.out.2.1)
              have a0' : W6.cell? ⟨B6, 0, none⟩ = some (.int .i64 z.t.node) := L6.out.1.cell 0
              have a1' : W6.cell? ⟨B6, 1, none⟩ = some (.int .i64 z.t.n) := L6.out.1.cell 1
              have a2' : W6.cell? ⟨B6, 2, none⟩ = some (.string z.t.id) := L6.out.1.cell 2
              have a3' : W6.cell? ⟨B6, 3, none⟩ = some (.slice zp3 zl3 zm3) := L6.out.1.cell 3
              have a4' : W6.cell? ⟨B6, 4, none⟩ = some (.slice zp4 zl4 zm4) := L6.out.1.cell 4
              cases q with
              | true =>
                have HQ := Lib.hid HZ.out.2.symm
                have hi3 : i * 5 + 4 < nn * 5 := by omega
                obtain ⟨g3, off3, c3, hv, -, -, -, -, hx3, hf3⟩ := HJ6.out.sl.at_ (by have := HL4.out.1; omega)
                injection hv with e1 e2 e3
                injection e1 with e1
                injection e1 with e1 e4
                subst e1 e4
                have hl3 := rowCells_len (k := 5) (enc := vTb) (fun _ => rfl) o
                have hlo : nn = o.length := HL4.out.1
                have s0 : W6.cell? ⟨g2, off2 + i * 5, none⟩ = some (.int .i64 x.t.node) := by rw [hx3 (i * 5) (by omega), HX.out.1]; exact rowCells_get (k := 5) (enc := vTb) (fun _ => rfl) o i hio 0 (by decide)
                have s1 : W6.cell? ⟨g2, off2 + i * 5 + 1, none⟩ = some (.int .i64 x.t.n) := by rw [Nat.add_assoc, hx3 (i * 5 + 1) (by omega), HX.out.1]; exact rowCells_get (k := 5) (enc := vTb) (fun _ => rfl) o i hio 1 (by decide)
                have s2 : W6.cell? ⟨g2, off2 + i * 5 + 2, none⟩ = some (.string x.t.id) := by rw [Nat.add_assoc, hx3 (i * 5 + 2) (by omega), HX.out.1]; exact rowCells_get (k := 5) (enc := vTb) (fun _ => rfl) o i hio 2 (by decide)
                have s3 : W6.cell? ⟨g2, off2 + i * 5 + 3, none⟩ = some (.slice xp3 xl3 xm3) := by rw [← HXE.out.1, Nat.add_assoc, hx3 (i * 5 + 3) (by omega), HX.out.1]; exact rowCells_get (k := 5) (enc := vTb) (fun _ => rfl) o i hio 3 (by decide)
                have s4 : W6.cell? ⟨g2, off2 + i * 5 + 4, none⟩ = some (.slice xp4 xl4 xm4) := by rw [← HXE.out.2, Nat.add_assoc, hx3 (i * 5 + 4) (by omega), HX.out.1]; exact rowCells_get (k := 5) (enc := vTb) (fun _ => rfl) o i hio 4 (by decide)
                have r0 : W6.frozen? ⟨g2, off2 + i * 5, none⟩ = false := hf3 (i * 5) (by omega)
                have r1 : W6.frozen? ⟨g2, off2 + i * 5 + 1, none⟩ = false := by rw [Nat.add_assoc]; exact hf3 (i * 5 + 1) (by omega)
                have r2 : W6.frozen? ⟨g2, off2 + i * 5 + 2, none⟩ = false := by rw [Nat.add_assoc]; exact hf3 (i * 5 + 2) (by omega)
                have r3 : W6.frozen? ⟨g2, off2 + i * 5 + 3, none⟩ = false := by rw [Nat.add_assoc]; exact hf3 (i * 5 + 3) (by omega)
                have r4 : W6.frozen? ⟨g2, off2 + i * 5 + 4, none⟩ = false := by rw [Nat.add_assoc]; exact hf3 (i * 5 + 4) (by omega)
                have HN6 := Lib.hid (show nn = (o.set i z).length ∧ JnB a b (j + 1) (o.set i z) ∧ JStB kv2 w (posF kB a) (.slice (some ⟨g2, off2, none⟩) nn c) (o.set i z) (((((W6.setCell ⟨g2, off2 + i * 5, none⟩ (.int .i64 z.t.node)).setCell ⟨g2, off2 + i * 5 + 1, none⟩ (.int .i64 z.t.n)).setCell ⟨g2, off2 + i * 5 + 2, none⟩ (.string z.t.id)).setCell ⟨g2, off2 + i * 5 + 3, none⟩ (.slice zp3 zl3 zm3)).setCell ⟨g2, off2 + i * 5 + 4, none⟩ (.slice zp4 zl4 zm4)) from
                  ⟨by rw [List.length_set]; exact hlo, HL4.out.2.1.old HR.out.2.1 HR.out.2.2 hjl hi HX.out.2.1 hio (by
                    rw [← HX.out.1, ← HY.out, H5.out.1, HZ.out.1]
                    exact mTb_yes HQ.out), by
                    have h1 := JStB.setRow HJ6.out hlo i hio z L6.out.2.2
                    unfold vTb at h1
                    rw [H5.out.2.1.1, H5.out.2.1.2] at h1
                    exact h1⟩)
                clear hx3 hf3 hl3 hlo e2 e3
                go_wp2_with fail
                exact ⟨⟨j + 1, nn, c, _, o.set i z, rfl, by simp, by omega, by omega, HN6⟩, by simp [intOf]; omega⟩
              | false =>
                have HQ := Lib.hid HZ.out.2.symm
                have HE := Lib.hid (show Clash kTb mTb (a.map (·.t)) (b.map (·.t)) ∧ Below w.heap.size w W6 from
                  ⟨HL4.out.2.1.clash HR.out.2.1 HR.out.2.2 hjl hi HX.out.2.1 hio (by
                    rw [← HX.out.1, ← HY.out]
                    exact mTb_no HQ.out), HJ6.out.below⟩)
                go_wp2_with fail
                refine bodyPost_ret (v := .tuple #[.slice none 0 0, .bool false]) (by simp [results, Tryz.results70, go_sem]) rfl ?_
                exact .inr ⟨rfl, HE.out⟩
            · go_simp
              refine hK.out _ _ ?_ (fun hHeld3 => ?_)
              · exact HK.out _ (hba)
              clear hK K
              refine wpAnyH_ready (rs := [6]) (by kernel_rfl) (by simp) ?_
              refine AllReadyH.cons rfl (fun K hK => ?_) AllReadyH.nil
              go_simp
              go_wp2_with (
                go_at_call 45
                refine (T2.out _ hba).mono ?_
                rintro e w5 ⟨z, zp3, zl3, zm3, zp4, zl4, zm4, rfl, hz, hb⟩
                have H5 := Lib.hid hz
                clear hz)
              have hb5 : Below w4.heap.size w4 w5 := hba.trans (hb.mono hba.size)
              have B5 := Lib.hid (show BlkIs w5 w4.heap.size 43 #[.int .i64 0, .int .i64 0, .string ⟨#[]⟩, .slice none 0 0, .slice none 0 0] from BlkIs.below (BlkIs.new w4.drew _ _) hb (by simp))
              have e70 : w5.cell? ⟨w4.heap.size, 0, none⟩ = some (.int .i64 0) := B5.out.cell 0
              have e71 : w5.cell? ⟨w4.heap.size, 1, none⟩ = some (.int .i64 0) := B5.out.cell 1
              have e72 : w5.cell? ⟨w4.heap.size, 2, none⟩ = some (.string ⟨#[]⟩) := B5.out.cell 2
              have e73 : w5.cell? ⟨w4.heap.size, 3, none⟩ = some (.slice none 0 0) := B5.out.cell 3
              have e74 : w5.cell? ⟨w4.heap.size, 4, none⟩ = some (.slice none 0 0) := B5.out.cell 4
              have f7 : ∀ n, w5.frozen? ⟨w4.heap.size, n, none⟩ = false := fun n => B5.out.free n
              refine hK.out _ _ ?_ (fun hHeld2 => ?_)
              · exact HK.out _ hb5
              clear hK K hb
              refine wpAnyH_take (i := 7) (v := .tuple #[.agg #[.int .i64 z.t.node, .int .i64 z.t.n, .string z.t.id, .slice zp3 zl3 zm3, .slice zp4 zl4 zm4], .bool q]) rfl (by kernel_rfl) (by kernel_rfl) (by kernel_rfl) (fun _ _ _ h => h) (Or.inl ⟨by kernel_rfl, fun w hSw => ?_⟩) (by assumption) ?_
              · dsimp only at hSw
                go_simp
              simp only [Act.put, List.setIfInBounds_toArray, List.set_cons_zero, List.set_cons_succ]
              refine wpAnyH_take (i := 8) (v := .agg #[.int .i64 z.t.node, .int .i64 z.t.n, .string z.t.id, .slice zp3 zl3 zm3, .slice zp4 zl4 zm4]) rfl (by kernel_rfl) (by kernel_rfl) (by kernel_rfl) (fun _ _ _ h => h) (Or.inl ⟨by kernel_rfl, fun w hSw => ?_⟩) (by assumption) ?_
              · dsimp only at hSw
                go_simp
              simp only [Act.put, List.setIfInBounds_toArray, List.set_cons_zero, List.set_cons_succ]
              refine wpAnyH_take (i := 9) (v := .bool q) rfl (by kernel_rfl) (by kernel_rfl) (by kernel_rfl) (fun _ _ _ h => h) (Or.inl ⟨by kernel_rfl, fun w hSw => ?_⟩) (by assumption) ?_
              · dsimp only at hSw
                go_simp
              simp only [Act.put, List.setIfInBounds_toArray, List.set_cons_zero, List.set_cons_succ]
              refine wpAnyH_ready (rs := [11]) (by kernel_rfl) (by simp) ?_
              refine AllReadyH.cons rfl (fun K hK => ?_) AllReadyH.nil
              go_simp
              refine hK.out _ _ ?_ (fun hHeld4 => ?_)
              · exact HK.out _ ((((((hb5).setCell (Nat.le_refl _) _).setCell (Nat.le_refl _) _).setCell (Nat.le_refl _) _).setCell (Nat.le_refl _) _).setCell (Nat.le_refl _) _)
              clear hK K
              refine wpAnyH_ready (rs := [12]) (by kernel_rfl) (by simp) ?_
              refine AllReadyH.cons rfl (fun K hK => ?_) AllReadyH.nil
              go_simp
              refine hK.out _ _ ?_ (fun hHeld5 => ?_)
              · exact HK.out _ ((((((hb5).setCell (Nat.le_refl _) _).setCell (Nat.le_refl _) _).setCell (Nat.le_refl _) _).setCell (Nat.le_refl _) _).setCell (Nat.le_refl _) _)
              clear hK K
              refine wpAnyH_done (by kernel_rfl) ?_ _
              obtain ⟨W6, hW6⟩ : ∃ W6, W6 = ((((w5.setCell ⟨w4.heap.size, 0, none⟩ (.int .i64 z.t.node)).setCell ⟨w4.heap.size, 1, none⟩ (.int .i64 z.t.n)).setCell ⟨w4.heap.size, 2, none⟩ (.string z.t.id)).setCell ⟨w4.heap.size, 3, none⟩ (.slice zp3 zl3 zm3)).setCell ⟨w4.heap.size, 4, none⟩ (.slice zp4 zl4 zm4) := ⟨_, rfl⟩
              obtain ⟨B6, hB6⟩ : ∃ B6, B6 = w4.heap.size := ⟨_, rfl⟩
              have L6 := Lib.hid (show BlkIs W6 B6 43 #[.int .i64 z.t.node, .int .i64 z.t.n, .string z.t.id, .slice zp3 zl3 zm3, .slice zp4 zl4 zm4] ∧ Below w4.heap.size w4 W6 ∧ Kept w W6 z from by
                rw [hW6, hB6]
                exact ⟨tb_put _ _ _ _ _ B5.out ⟨_, _, _, _, _, rfl⟩, (((((hb5).setCell (Nat.le_refl _) _).setCell (Nat.le_refl _) _).setCell (Nat.le_refl _) _).setCell (Nat.le_refl _) _).setCell (Nat.le_refl _) _, ⟨.inr (sl_five H5.out.2.2.1 (H5.out.2.2.1.ne_blk B5.out (by decide))), .inr (sl_five H5.out.2.2.2 (H5.out.2.2.2.ne_blk B5.out (by decide)))⟩⟩)
              rw [← hW6, ← hB6]
              clear HK T2 hbd hba d0 d1 d2 d3 d4 q0 q1 q2 q3 q4 hW6 hB6 hb5 e70 e71 e72 e73 e74 f7 B5
              have HJ6 := Lib.hid (HL4.out.2.2.1.later L6.out.2.1)
              have a0' : W6.cell? ⟨B6, 0, none⟩ = some (.int .i64 z.t.node) := L6.out.1.cell 0
              have a1' : W6.cell? ⟨B6, 1, none⟩ = some (.int .i64 z.t.n) := L6.out.1.cell 1
              have a2' : W6.cell? ⟨B6, 2, none⟩ = some (.string z.t.id) := L6.out.1.cell 2
              have a3' : W6.cell? ⟨B6, 3, none⟩ = some (.slice zp3 zl3 zm3) := L6.out.1.cell 3
              have a4' : W6.cell? ⟨B6, 4, none⟩ = some (.slice zp4 zl4 zm4) := L6.out.1.cell 4
              cases q with
              | true =>
                have HQ := Lib.hid HZ.out.2.symm
                have hi3 : i * 5 + 4 < nn * 5 := by omega
                obtain ⟨g3, off3, c3, hv, -, -, -, -, hx3, hf3⟩ := HJ6.out.sl.at_ (by have := HL4.out.1; omega)
                injection hv with e1 e2 e3
                injection e1 with e1
                injection e1 with e1 e4
                subst e1 e4
                have hl3 := rowCells_len (k := 5) (enc := vTb) (fun _ => rfl) o
                have hlo : nn = o.length := HL4.out.1
                have s0 : W6.cell? ⟨g2, off2 + i * 5, none⟩ = some (.int .i64 x.t.node) := by rw [hx3 (i * 5) (by omega), HX.out.1]; exact rowCells_get (k := 5) (enc := vTb) (fun _ => rfl) o i hio 0 (by decide)
                have s1 : W6.cell? ⟨g2, off2 + i * 5 + 1, none⟩ = some (.int .i64 x.t.n) := by rw [Nat.add_assoc, hx3 (i * 5 + 1) (by omega), HX.out.1]; exact rowCells_get (k := 5) (enc := vTb) (fun _ => rfl) o i hio 1 (by decide)
                have s2 : W6.cell? ⟨g2, off2 + i * 5 + 2, none⟩ = some (.string x.t.id) := by rw [Nat.add_assoc, hx3 (i * 5 + 2) (by omega), HX.out.1]; exact rowCells_get (k := 5) (enc := vTb) (fun _ => rfl) o i hio 2 (by decide)
                have s3 : W6.cell? ⟨g2, off2 + i * 5 + 3, none⟩ = some (.slice xp3 xl3 xm3) := by rw [← HXE.out.1, Nat.add_assoc, hx3 (i * 5 + 3) (by omega), HX.out.1]; exact rowCells_get (k := 5) (enc := vTb) (fun _ => rfl) o i hio 3 (by decide)
                have s4 : W6.cell? ⟨g2, off2 + i * 5 + 4, none⟩ = some (.slice xp4 xl4 xm4) := by rw [← HXE.out.2, Nat.add_assoc, hx3 (i * 5 + 4) (by omega), HX.out.1]; exact rowCells_get (k := 5) (enc := vTb) (fun _ => rfl) o i hio 4 (by decide)
                have r0 : W6.frozen? ⟨g2, off2 + i * 5, none⟩ = false := hf3 (i * 5) (by omega)
                have r1 : W6.frozen? ⟨g2, off2 + i * 5 + 1, none⟩ = false := by rw [Nat.add_assoc]; exact hf3 (i * 5 + 1) (by omega)
                have r2 : W6.frozen? ⟨g2, off2 + i * 5 + 2, none⟩ = false := by rw [Nat.add_assoc]; exact hf3 (i * 5 + 2) (by omega)
                have r3 : W6.frozen? ⟨g2, off2 + i * 5 + 3, none⟩ = false := by rw [Nat.add_assoc]; exact hf3 (i * 5 + 3) (by omega)
                have r4 : W6.frozen? ⟨g2, off2 + i * 5 + 4, none⟩ = false := by rw [Nat.add_assoc]; exact hf3 (i * 5 + 4) (by omega)
                have HN6 := Lib.hid (show nn = (o.set i z).length ∧ JnB a b (j + 1) (o.set i z) ∧ JStB kv2 w (posF kB a) (.slice (some ⟨g2, off2, none⟩) nn c) (o.set i z) (((((W6.setCell ⟨g2, off2 + i * 5, none⟩ (.int .i64 z.t.node)).setCell ⟨g2, off2 + i * 5 + 1, none⟩ (.int .i64 z.t.n)).setCell ⟨g2, off2 + i * 5 + 2, none⟩ (.string z.t.id)).setCell ⟨g2, off2 + i * 5 + 3, none⟩ (.slice zp3 zl3 zm3)).setCell ⟨g2, off2 + i * 5 + 4, none⟩ (.slice zp4 zl4 zm4)) from
                  ⟨by rw [List.length_set]; exact hlo, HL4.out.2.1.old HR.out.2.1 HR.out.2.2 hjl hi HX.out.2.1 hio (by
                    rw [← HX.out.1, ← HY.out, H5.out.1, HZ.out.1]
                    exact mTb_yes HQ.out), by
                    have h1 := JStB.setRow HJ6.out hlo i hio z L6.out.2.2
                    unfold vTb at h1
                    rw [H5.out.2.1.1, H5.out.2.1.2] at h1
                    exact h1⟩)
                clear hx3 hf3 hl3 hlo e2 e3
                go_wp2_with fail
                exact ⟨⟨j + 1, nn, c, _, o.set i z, rfl, by simp, by omega, by omega, HN6⟩, by simp [intOf]; omega⟩
              | false =>
                have HQ := Lib.hid HZ.out.2.symm
                have HE := Lib.hid (show Clash kTb mTb (a.map (·.t)) (b.map (·.t)) ∧ Below w.heap.size w W6 from
                  ⟨HL4.out.2.1.clash HR.out.2.1 HR.out.2.2 hjl hi HX.out.2.1 hio (by
                    rw [← HX.out.1, ← HY.out]
                    exact mTb_no HQ.out), HJ6.out.below⟩)
                go_wp2_with fail
                refine bodyPost_ret (v := .tuple #[.slice none 0 0, .bool false]) (by simp [results, Tryz.results70, go_sem]) rfl ?_
                exact .inr ⟨rfl, HE.out⟩
        · have ki : ¬ ((j : Int) < m) := by omega
          have ki2 : decide ((j : Int) < m) = false := decide_eq_false ki
          obtain rfl : j = m := Nat.le_antisymm hjm hge
          have Hsl := Lib.hid (show SlIs wr (w.heap.size + 1) 43 5 (.slice ao' nn c) nn (rowCells vTb o) from by
            have h1 := HL.out.2.2.sl
            rwa [← HL.out.1] at h1)
          have S := Lib.hid (sort_tb (w.heap.size + 1) (.slice ao' nn c) o wr HL.out.2.2.sl HL.out.2.2.lt (by have := HL.out.1; omega) HL.out.2.1.ik fun z hz => (HL.out.2.2.kept z hz).one)
          clear ki
          go_wp2_with fail
          refine S.out.mono ?_
          rintro e w6 ⟨rfl, ⟨L, hp, hr, hrow⟩, hg6⟩
          have HE := Lib.hid (show JoinIs kTb mTb (a.map (·.t)) (b.map (·.t)) (L.map (·.t)) ∧ SlIs w6 (w.heap.size + 1) 43 5 (.slice ao' nn c) L.length (rowCells vTb L) ∧ (∀ z ∈ L, Kept w w6 z) ∧ Below w.heap.size w w6 from
            ⟨JnB.sorted HN.out.2 HL.out.2.1 hr hp, hrow, fun z hz => (HL.out.2.2.kept z (hp.mem_iff.1 hz)).grown HL.out.2.2.sl hg6, HL.out.2.2.below.trans ((grown_below hg6 HL.out.2.2.sl HL.out.2.2.lt).mono (Nat.le_succ _))⟩)
          clear hp hr hrow hg6
          go_wp2_with fail
          refine bodyPost_ret (v := .tuple #[.slice ao' nn c, .bool true]) (by simp [results, Tryz.results70, go_sem]) rfl ?_
          exact .inl ⟨_, L, rfl, HE.out⟩
end Go.Proofs.YtbmknmjcoeinkaaGreat.Mg
