/- merge.joined at tokens, walked. Printed by gen_joined.py. (Layer 13.) -/
import Derived.Test.YtbmknmjcoeinkaaGreatMg8
namespace Go.Proofs.YtbmknmjcoeinkaaGreat.Mg
set_option linter.unusedVariables false
open Go.RowKit Go.Lib
open Mk (Rf Tok Tb TbR aTb vRf vTok vTb eqB eqB_yes eqB_no)
open Oct (Moved)
open Set (El)
set_option maxRecDepth 100000 in
set_option maxHeartbeats 8000000 in
theorem joined_tok (av bv : Value) (a b : List Tok) (w : World) (ha : RowAt 3 vTok w av a) (hb : RowAt 3 vTok w bv b) (ra : Rk kTok a) (rb : Rk kTok b) (hn : a.length ≤ 1000000) (hm : b.length ≤ 1000000) :
    Calls Tryz.prog 65 #[av, bv, .func (.func 66) #[] #[], .func (.func 67) #[] #[], .func (.func 69) #[] #[]] w fun e w' =>
      (∃ v L, e = .returned (.tuple #[v, .bool true]) ∧ JoinIs kTok mTok a b L ∧ RowAt 3 vTok w' v L ∧ Below w.heap.size w w') ∨ (e = .returned (.tuple #[.slice none 0 0, .bool false]) ∧ Clash kTok mTok a b ∧ Below w.heap.size w w') := by
  have hC := fun W (hA : RowAt 3 vTok W av a) => clone_tok av a W hA hn
  obtain ⟨ao, ac, rfl, ha1, ha2⟩ := ha.form
  obtain ⟨bo, bc, rfl, hb1, hb2⟩ := hb.form
  obtain ⟨n, hnn⟩ : ∃ n, n = a.length := ⟨_, rfl⟩
  obtain ⟨m, hmm⟩ : ∃ m, m = b.length := ⟨_, rfl⟩
  rw [← hnn] at hn ha
  rw [← hmm] at hm hb
  have HA := Lib.hid ha
  have HB := Lib.hid hb
  have HN := Lib.hid (And.intro hnn hmm)
  rw [← hnn] at hC ⊢
  rw [← hmm]
  have HC := Lib.hid hC
  have HR := Lib.hid (And.intro ra rb)
  clear ha hb ha1 ha2 hb1 hb2 hnn hmm hC ra rb
  obtain ⟨W1, hW1⟩ : ∃ W1, W1 = w.alloc (.map #[] 0) := ⟨_, rfl⟩
  have hb1 : Below w.heap.size w W1 := by rw [hW1]; exact (Below.refl _ _).alloc (Nat.le_refl _) _
  have HM := Lib.hid (show KMap kv2 W1 w.heap.size (fun _ : K2 => none) ∧ W1.heap.size = w.heap.size + 1 ∧ Below w.heap.size w W1 from ⟨by rw [hW1]; exact KMap.fresh w, by rw [hW1]; simp, hb1⟩)
  have HW1 := Lib.hid hW1
  clear hW1 hb1
  have hmk := @run_makeMap Tryz.prog
  go_enter Tryz.func65, Tryz.ntmps65
  go_wp2_with fail
  rw [← HW1.out]
  clear hmk
  refine (HC.out _ (HA.out.later HM.out.2.2)).mono ?_
  rintro e W2 ⟨v0, rfl, hs0, hb2⟩
  obtain ⟨oo, oc, rfl, _, _, _⟩ := hs0.form
  have HS0 := Lib.hid (show JSt kv2 vTok 3 45 w (posF kTok (a.take 0)) (.slice oo n oc) a W2 from by
    have hlt : w.heap.size < W1.heap.size := by rw [HM.out.2.1]; exact Nat.lt_succ_self _
    refine ⟨HM.out.2.2.trans (hb2.mono HM.out.2.2.size), Nat.lt_of_lt_of_le hlt hb2.size, ?_, ?_⟩
    · exact (HM.out.1.below hb2 hlt).congr fun x => rfl
    · rw [← HM.out.2.1, ← HN.out.1]; exact hs0)
  clear hs0 hb2
  go_wp2_with fail
  go_loopw [27] (fun i wr => ∃ k : Nat, i = .int .i64 (k : Int) ∧ k ≤ n ∧ Hid (JSt kv2 vTok 3 45 w (posF kTok (a.take k)) (.slice oo n oc) a wr)) (fun i _ => ((n : Int) - intOf i).toNat)
  case atStart => exact ⟨0, rfl, Nat.zero_le _, HS0⟩
  case round =>
    obtain ⟨k, rfl, hkn, HL⟩ := hrel
    rcases Nat.lt_or_ge k n with hlt | hge
    · have ki : (k : Int) < n := by omega
      have kw : IntKind.i64.wrap ((k : Int) + 1) = ((k + 1 : Nat) : Int) := IntWalk.i64_in _ (by omega)
      have hkl : k < a.length := by have := HN.out.1; omega
      obtain ⟨g, off, hag, hgl, hc⟩ := (HA.out.later HL.out.below).at_ (by omega)
      subst hag
      obtain ⟨x, hx⟩ : ∃ x, x = a[k] := ⟨_, rfl⟩
      have hc0 : wr.cell? ⟨g, off + k * 3, none⟩ = some (.int .i64 x.node) := by rw [hx]; exact hc k hkl 0 _ rfl
      have hc1 : wr.cell? ⟨g, off + k * 3 + 1, none⟩ = some (.int .i64 x.n) := by rw [hx]; exact hc k hkl 1 _ rfl
      have hc2 : wr.cell? ⟨g, off + k * 3 + 2, none⟩ = some (.string x.id) := by rw [hx]; exact hc k hkl 2 _ rfl
      have T := Lib.hid (fun W => (ofToken_any x).below W)
      have HX := Lib.hid hx
      clear hc hx hgl
      obtain ⟨W3, hW3⟩ : ∃ W3, W3 = wr.alloc (.cells #[.int .i64 x.node, .int .i64 x.n, .string x.id] 45) := ⟨_, rfl⟩
      have k3 : BlkIs W3 wr.heap.size 45 #[.int .i64 x.node, .int .i64 x.n, .string x.id] := by rw [hW3]; exact BlkIs.new _ _ _
      have HL3 := Lib.hid (show JSt kv2 vTok 3 45 w (posF kTok (a.take k)) (.slice oo n oc) a W3 from HL.out.later (by rw [hW3]; exact (Below.refl _ _).alloc (Nat.le_refl _) _))
      have d0 : W3.cell? ⟨wr.heap.size, 0, none⟩ = some (.int .i64 x.node) := k3.cell 0
      have d1 : W3.cell? ⟨wr.heap.size, 1, none⟩ = some (.int .i64 x.n) := k3.cell 1
      have d2 : W3.cell? ⟨wr.heap.size, 2, none⟩ = some (.string x.id) := k3.cell 2
      have HW3 := Lib.hid hW3
      clear hW3 k3
      go_upto_region 6 with (fail)
      rw [← HW3.out]
      clear hc0 hc1 hc2
      go_wp2_with fail
      refine (T.out _).mono ?_
      rintro e w4 ⟨rfl, hb4⟩
      clear d0 d1 d2
      go_wp2_with (refine wpList_update_k key_key _ rfl _ _ _ rfl w.heap.size _ (by rfl) ((HL3.out.later hb4).map) (kTok x) (k : Int) (by rfl) (by rfl) ?_ ?_)
      · rw [HX.out]
        exact posF_none.2 (rk_fresh HR.out.1 k hkl)
      intro o' hT
      have hN : JSt kv2 vTok 3 45 w (posF kTok (a.take (k + 1))) (.slice oo n oc) a { w4 with heap := w4.heap.setIfInBounds w.heap.size o' } :=
        ((HL3.out.later hb4).update o' hT).congr fun y => by
          have h1 := posF_snoc (key := kTok) (z := a[k]) (rk_fresh HR.out.1 k hkl) y
          rw [List.length_take, Nat.min_eq_left (Nat.le_of_lt hkl)] at h1
          rw [Mk.take_snoc' hkl, ← h1, HX.out]
      obtain ⟨w5, hw5⟩ : ∃ w5 : World, w5 = { w4 with heap := w4.heap.setIfInBounds w.heap.size o' } := ⟨_, rfl⟩
      rw [← hw5] at hN ⊢
      have HN5 := Lib.hid hN
      clear hN hw5 hT
      go_wp2_with fail
      exact ⟨⟨k + 1, by simp, by omega, HN5⟩, by simp [intOf]; omega⟩
    · have ki : ¬ ((k : Int) < n) := by omega
      have ki2 : decide ((k : Int) < n) = false := decide_eq_false ki
      obtain rfl : k = n := Nat.le_antisymm hkn hge
      have HL2 := Lib.hid (show JSt kv2 vTok 3 45 w (posF kTok a) (.slice oo k oc) a wr from by
        have e1 : a.take k = a := by rw [HN.out.1, List.take_length]
        have h1 := HL.out
        rwa [e1] at h1)
      have HJ0 := Lib.hid (JnAt.start (mt := mTok) (b := b) HR.out.1)
      clear ki
      go_wp2_with fail
      go_loopw [13, 40] (fun ov i wr => ∃ (j nn c : Nat) (ao' : Option Addr) (o : List Tok), ov = .slice ao' nn c ∧ i = .int .i64 (j : Int) ∧ j ≤ m ∧ nn ≤ k + j ∧ Hid (nn = o.length ∧ JnAt kTok mTok a b j o ∧ JSt kv2 vTok 3 45 w (posF kTok a) (.slice ao' nn c) o wr)) (fun _ i _ => ((m : Int) - intOf i).toNat)
      case atStart => exact ⟨0, k, oc, oo, a, rfl, rfl, Nat.zero_le _, Nat.le_refl _, Lib.hid ⟨HN.out.1, HJ0.out, HL2.out⟩⟩
      case round =>
        obtain ⟨j, nn, c, ao', o, rfl, rfl, hjm, hnk, HL⟩ := hrel
        rcases Nat.lt_or_ge j m with hlt | hge
        · have ki : (j : Int) < m := by omega
          have kw : IntKind.i64.wrap ((j : Int) + 1) = ((j + 1 : Nat) : Int) := IntWalk.i64_in _ (by omega)
          have hjl : j < b.length := by have := HN.out.2; omega
          obtain ⟨g, off, hag, hgl, hc⟩ := (HB.out.later HL.out.2.2.below).at_ (by omega)
          subst hag
          obtain ⟨y, hy⟩ : ∃ y, y = b[j] := ⟨_, rfl⟩
          have hc0 : wr.cell? ⟨g, off + j * 3, none⟩ = some (.int .i64 y.node) := by rw [hy]; exact hc j hjl 0 _ rfl
          have hc1 : wr.cell? ⟨g, off + j * 3 + 1, none⟩ = some (.int .i64 y.n) := by rw [hy]; exact hc j hjl 1 _ rfl
          have hc2 : wr.cell? ⟨g, off + j * 3 + 2, none⟩ = some (.string y.id) := by rw [hy]; exact hc j hjl 2 _ rfl
          have T := Lib.hid (fun W => (ofToken_any y).below W)
          have HY := Lib.hid hy
          clear hc hy hgl
          obtain ⟨W3, hW3⟩ : ∃ W3, W3 = wr.alloc (.cells #[.int .i64 y.node, .int .i64 y.n, .string y.id] 45) := ⟨_, rfl⟩
          have k3 : BlkIs W3 wr.heap.size 45 #[.int .i64 y.node, .int .i64 y.n, .string y.id] := by rw [hW3]; exact BlkIs.new _ _ _
          have HL3 := Lib.hid (show nn = o.length ∧ JnAt kTok mTok a b j o ∧ JSt kv2 vTok 3 45 w (posF kTok a) (.slice ao' nn c) o W3 ∧ BlkIs W3 wr.heap.size 45 #[.int .i64 y.node, .int .i64 y.n, .string y.id] from ⟨HL.out.1, HL.out.2.1, HL.out.2.2.later (by rw [hW3]; exact (Below.refl _ _).alloc (Nat.le_refl _) _), k3⟩)
          have d0 : W3.cell? ⟨wr.heap.size, 0, none⟩ = some (.int .i64 y.node) := k3.cell 0
          have d1 : W3.cell? ⟨wr.heap.size, 1, none⟩ = some (.int .i64 y.n) := k3.cell 1
          have d2 : W3.cell? ⟨wr.heap.size, 2, none⟩ = some (.string y.id) := k3.cell 2
          have HW3 := Lib.hid hW3
          obtain ⟨B3, hB3⟩ : ∃ B3, B3 = wr.heap.size := ⟨_, rfl⟩
          clear hW3 k3
          go_upto_region 11 with (fail)
          rw [← HW3.out]
          rw [← hB3] at HL3 d0 d1 d2 ⊢
          clear hc0 hc1 hc2 HL HW3 hB3
          go_wp2_with fail
          refine (T.out _).mono ?_
          rintro e w4 ⟨rfl, hb4⟩
          have HL4 := Lib.hid (show nn = o.length ∧ JnAt kTok mTok a b j o ∧ JSt kv2 vTok 3 45 w (posF kTok a) (.slice ao' nn c) o w4 ∧ BlkIs w4 B3 45 #[.int .i64 y.node, .int .i64 y.n, .string y.id] from ⟨HL3.out.1, HL3.out.2.1, HL3.out.2.2.1.later hb4, HL3.out.2.2.2.below hb4 HL3.out.2.2.2.lt⟩)
          clear d0 d1 d2 hb4 HL3
          have k4 := HL4.out.2.2.2
          have d0 : w4.cell? ⟨B3, 0, none⟩ = some (.int .i64 y.node) := k4.cell 0
          have d1 : w4.cell? ⟨B3, 1, none⟩ = some (.int .i64 y.n) := k4.cell 1
          have d2 : w4.cell? ⟨B3, 2, none⟩ = some (.string y.id) := k4.cell 2
          clear k4
          cases hpos : posF kTok a (kTok y) with
          | none =>
            have lk : (Instr.lookup 117 (.map (some w.heap.size)) (.agg #[.int .i64 y.node, .int .i64 y.n]) true).run Tryz.prog w4 = _ := HL4.out.2.2.1.map.lookup_none key_key (kTok y) hpos
            have HP := Lib.hid hpos
            clear hpos
            have Hsl := Lib.hid (show SlIs w4 (w.heap.size + 1) 45 3 (.slice ao' nn c) nn (rowCells vTok o) from by
              have h1 := HL4.out.2.2.1.sl
              rwa [← HL4.out.1] at h1)
            go_wp2_with (refine wpList_append_sl rfl _ _ _ 23 (by rfl) el_tok (base := w.heap.size + 1) (.slice ao' nn c) nn (rowCells vTok o) (by rfl) (Hsl.out.alloc _) _ 1 [.int .i64 y.node, .int .i64 y.n, .string y.id] (by rfl) (SrcIs.own Tryz.underlying23 (SlIs.made (base := 0) (BlkIs.new _ _ _) (Nat.zero_le _) rfl (by decide))) (by intro u hu; simp at hu; rcases hu with rfl | rfl | rfl <;> rfl) (by unfold maxLen; omega) (by omega) (by have := HL4.out.2.2.1.lt; simp; omega) ?_)
            intro v5 w5 hs5 hg5 hat5
            have hN : JSt kv2 vTok 3 45 w (posF kTok a) v5 (o ++ [y]) w5 := (HL4.out.2.2.1.later ((Below.refl _ _).alloc (Nat.le_refl _) _)).grown hg5 (by
              rw [List.length_append, List.length_singleton, ← HL4.out.1, rowCells_app, rowCells_one]
              exact hs5)
            have HN5 := Lib.hid (show nn + 1 = (o ++ [y]).length ∧ JnAt kTok mTok a b (j + 1) (o ++ [y]) ∧ JSt kv2 vTok 3 45 w (posF kTok a) v5 (o ++ [y]) w5 from
              ⟨by rw [List.length_append, List.length_singleton, ← HL4.out.1], by rw [HY.out]; exact HL4.out.2.1.new HR.out.2 hjl (gk_none.2 (by rw [← HY.out]; exact posF_none.1 HP.out)), hN⟩)
            obtain ⟨ao5, c5, rfl, -, -, -⟩ := hs5.form
            clear hN hs5 hg5 hat5
            go_wp2_with fail
            exact ⟨⟨j + 1, nn + 1, c5, ao5, o ++ [y], rfl, by simp, by omega, by omega, HN5⟩, by simp [intOf]; omega⟩
          | some ii =>
            obtain ⟨i, hi, rfl, he⟩ := posF_some hpos
            have lk : (Instr.lookup 117 (.map (some w.heap.size)) (.agg #[.int .i64 y.node, .int .i64 y.n]) true).run Tryz.prog w4 = _ := HL4.out.2.2.1.map.lookup_some key_key (kTok y) _ hpos
            clear hpos
            have hio : i < o.length := Nat.lt_of_lt_of_le hi HL4.out.2.1.len
            have hin : (i : Int) < nn := by have := HL4.out.1; omega
            obtain ⟨x, hx⟩ : ∃ x, x = o[i] := ⟨_, rfl⟩
            obtain ⟨g2, off2, c2, hv, hg2, hlt2, hc2, hm2, hx2, hf2⟩ := HL4.out.2.2.1.sl.at_ (by omega)
            injection hv with e1 e2 e3
            subst e1
            have hl2 := rowCells_len (k := 3) (enc := vTok) (fun _ => rfl) o
            have q0 : w4.cell? ⟨g2, off2 + i * 3, none⟩ = some (.int .i64 x.node) := by rw [hx2 (i * 3) (by omega), hx]; exact rowCells_get (k := 3) (enc := vTok) (fun _ => rfl) o i hio 0 (by decide)
            have q1 : w4.cell? ⟨g2, off2 + i * 3 + 1, none⟩ = some (.int .i64 x.n) := by rw [Nat.add_assoc, hx2 (i * 3 + 1) (by omega), hx]; exact rowCells_get (k := 3) (enc := vTok) (fun _ => rfl) o i hio 1 (by decide)
            have q2 : w4.cell? ⟨g2, off2 + i * 3 + 2, none⟩ = some (.string x.id) := by rw [Nat.add_assoc, hx2 (i * 3 + 2) (by omega), hx]; exact rowCells_get (k := 3) (enc := vTok) (fun _ => rfl) o i hio 2 (by decide)
            have HK := Lib.hid (show ∀ W, Below w4.heap.size w4 W → W.cell? ⟨g2, off2 + i * 3, none⟩ = some (.int .i64 x.node) ∧ W.cell? ⟨g2, off2 + i * 3 + 1, none⟩ = some (.int .i64 x.n) ∧ W.cell? ⟨g2, off2 + i * 3 + 2, none⟩ = some (.string x.id) ∧ W.cell? ⟨B3, 0, none⟩ = some (.int .i64 y.node) ∧ W.cell? ⟨B3, 1, none⟩ = some (.int .i64 y.n) ∧ W.cell? ⟨B3, 2, none⟩ = some (.string y.id) from fun W hb =>
              ⟨by rw [hb.cell hlt2]; exact q0, by rw [hb.cell hlt2]; exact q1, by rw [hb.cell hlt2]; exact q2, by rw [hb.cell HL4.out.2.2.2.lt]; exact d0, by rw [hb.cell HL4.out.2.2.2.lt]; exact d1, by rw [hb.cell HL4.out.2.2.2.lt]; exact d2⟩)
            have HX := Lib.hid (And.intro hx (And.intro he hi))
            have HG2 := Lib.hid (And.intro hg2 hlt2)
            cases hq : eqB x y with
            | true =>
              have HQ := Lib.hid hq
              obtain ⟨z, hz⟩ : ∃ z, z = x := ⟨_, rfl⟩
              have T2 := Lib.hid (show ∀ W, Calls Tryz.prog 69 #[.agg #[.int .i64 x.node, .int .i64 x.n, .string x.id], .agg #[.int .i64 y.node, .int .i64 y.n, .string y.id]] W fun e w' => e = .returned (.tuple #[.agg #[.int .i64 z.node, .int .i64 z.n, .string z.id], .bool true]) ∧ Below W.heap.size W w' from fun W => by
                rw [hz]
                have h1 := tokens2_any x y W
                rw [hq] at h1
                exact h1)
              have HZ := Lib.hid hz
              have hbd : Below w4.heap.size w4 w4.drew := ⟨rfl, rfl, rfl, Nat.le_refl _, fun _ _ => rfl⟩
              have hba : Below w4.heap.size w4 (w4.drew.alloc (.cells #[.int .i64 0, .int .i64 0, .string ⟨#[]⟩] 45)) := hbd.alloc (Nat.le_refl _) _
              clear hx he hg2 hlt2 hc2 hm2 hx2 hf2 hl2 hz e2 e3
              go_upto_region 14 with (fail)
              clear lk
              go_region_held (fun W => W.cell? ⟨g2, off2 + i * 3, none⟩ = some (.int .i64 x.node) ∧ W.cell? ⟨g2, off2 + i * 3 + 1, none⟩ = some (.int .i64 x.n) ∧ W.cell? ⟨g2, off2 + i * 3 + 2, none⟩ = some (.string x.id) ∧ W.cell? ⟨B3, 0, none⟩ = some (.int .i64 y.node) ∧ W.cell? ⟨B3, 1, none⟩ = some (.int .i64 y.n) ∧ W.cell? ⟨B3, 2, none⟩ = some (.string y.id))
                ((refine HK.out _ ?_; first | assumption | exact hb5.alloc hb5.size _ | exact (((hb5.alloc hb5.size _).setCell hb5.size _).setCell hb5.size _).setCell hb5.size _ | exact ((hb5.setCell (Nat.le_refl _) _).setCell (Nat.le_refl _) _).setCell (Nat.le_refl _) _))
                (first
                  | (go_at_call 69
                     refine (T2.out _).mono ?_
                     rintro e w5 ⟨rfl, hb⟩
                     first
                       | (have hb5 : Below w4.heap.size w4 w5 := hba.trans (hb.mono hba.size)
                          have B5 := Lib.hid (show BlkIs w5 w4.heap.size 45 #[.int .i64 0, .int .i64 0, .string ⟨#[]⟩] from BlkIs.below (BlkIs.new w4.drew _ _) hb (by simp))
                          have e70 : w5.cell? ⟨w4.heap.size, 0, none⟩ = some (.int .i64 0) := B5.out.cell 0
                          have e71 : w5.cell? ⟨w4.heap.size, 1, none⟩ = some (.int .i64 0) := B5.out.cell 1
                          have e72 : w5.cell? ⟨w4.heap.size, 2, none⟩ = some (.string ⟨#[]⟩) := B5.out.cell 2
                          have f7 : ∀ n, w5.frozen? ⟨w4.heap.size, n, none⟩ = false := fun n => B5.out.free n)
                       | (have hb5 : Below w4.heap.size w4 w5 := hbd.trans (hb.mono hbd.size))
                     clear hb))
              · obtain ⟨W6, hW6⟩ : ∃ W6, W6 = w5.alloc (.cells #[.int .i64 z.node, .int .i64 z.n, .string z.id] 45) := ⟨_, rfl⟩
                obtain ⟨B6, hB6⟩ : ∃ B6, B6 = w5.heap.size := ⟨_, rfl⟩
                have L6 := Lib.hid (show BlkIs W6 B6 45 (tokC z) ∧ Below w4.heap.size w4 W6 from by
                  rw [hW6, hB6]
                  exact ⟨BlkIs.new _ _ _, hb5.alloc hb5.size _⟩)
                rw [← hW6, ← hB6]
                clear HK T2 hbd hba d0 d1 d2 q0 q1 q2 hW6 hB6 hb5
                have HJ6 := Lib.hid (HL4.out.2.2.1.later L6.out.2)
                have a0' : W6.cell? ⟨B6, 0, none⟩ = some (.int .i64 z.node) := L6.out.1.cell 0
                have a1' : W6.cell? ⟨B6, 1, none⟩ = some (.int .i64 z.n) := L6.out.1.cell 1
                have a2' : W6.cell? ⟨B6, 2, none⟩ = some (.string z.id) := L6.out.1.cell 2
                have hi3 : i * 3 + 2 < nn * 3 := by omega
                obtain ⟨g3, off3, c3, hv, -, -, -, -, hx3, hf3⟩ := HJ6.out.sl.at_ (by have := HL4.out.1; omega)
                injection hv with e1 e2 e3
                injection e1 with e1
                injection e1 with e1 e4
                subst e1 e4
                have hl3 := rowCells_len (k := 3) (enc := vTok) (fun _ => rfl) o
                have hlo : nn = o.length := HL4.out.1
                have s0 : W6.cell? ⟨g2, off2 + i * 3, none⟩ = some (.int .i64 x.node) := by rw [hx3 (i * 3) (by omega), HX.out.1]; exact rowCells_get (k := 3) (enc := vTok) (fun _ => rfl) o i hio 0 (by decide)
                have s1 : W6.cell? ⟨g2, off2 + i * 3 + 1, none⟩ = some (.int .i64 x.n) := by rw [Nat.add_assoc, hx3 (i * 3 + 1) (by omega), HX.out.1]; exact rowCells_get (k := 3) (enc := vTok) (fun _ => rfl) o i hio 1 (by decide)
                have s2 : W6.cell? ⟨g2, off2 + i * 3 + 2, none⟩ = some (.string x.id) := by rw [Nat.add_assoc, hx3 (i * 3 + 2) (by omega), HX.out.1]; exact rowCells_get (k := 3) (enc := vTok) (fun _ => rfl) o i hio 2 (by decide)
                have r0 : W6.frozen? ⟨g2, off2 + i * 3, none⟩ = false := hf3 (i * 3) (by omega)
                have r1 : W6.frozen? ⟨g2, off2 + i * 3 + 1, none⟩ = false := by rw [Nat.add_assoc]; exact hf3 (i * 3 + 1) (by omega)
                have r2 : W6.frozen? ⟨g2, off2 + i * 3 + 2, none⟩ = false := by rw [Nat.add_assoc]; exact hf3 (i * 3 + 2) (by omega)
                have HN6 := Lib.hid (show nn = (o.set i z).length ∧ JnAt kTok mTok a b (j + 1) (o.set i z) ∧ JSt kv2 vTok 3 45 w (posF kTok a) (.slice (some ⟨g2, off2, none⟩) nn c) (o.set i z) (((W6.setCell ⟨g2, off2 + i * 3, none⟩ (.int .i64 z.node)).setCell ⟨g2, off2 + i * 3 + 1, none⟩ (.int .i64 z.n)).setCell ⟨g2, off2 + i * 3 + 2, none⟩ (.string z.id)) from
                  ⟨by rw [List.length_set]; exact hlo, HL4.out.2.1.old mTok_key HR.out.1 HR.out.2 hjl hi (by rw [HX.out.2.1, HY.out]) hio (by
                    rw [← HX.out.1, ← HY.out, HZ.out]
                    exact if_pos (Mk.eqB_iff.1 HQ.out)), JSt.setRow (k := 3) (enc := vTok) (fun _ => rfl) (by decide) HJ6.out hlo i hio z⟩)
                clear hx3 hf3 hl3 hlo e2 e3
                go_wp2_with fail
                exact ⟨⟨j + 1, nn, c, _, o.set i z, rfl, by simp, by omega, by omega, HN6⟩, by simp [intOf]; omega⟩
              · obtain ⟨W6, hW6⟩ : ∃ W6, W6 = ((w5.setCell ⟨w4.heap.size, 0, none⟩ (.int .i64 z.node)).setCell ⟨w4.heap.size, 1, none⟩ (.int .i64 z.n)).setCell ⟨w4.heap.size, 2, none⟩ (.string z.id) := ⟨_, rfl⟩
                obtain ⟨B6, hB6⟩ : ∃ B6, B6 = w4.heap.size := ⟨_, rfl⟩
                have L6 := Lib.hid (show BlkIs W6 B6 45 (tokC z) ∧ Below w4.heap.size w4 W6 from by
                  rw [hW6, hB6]
                  exact ⟨tok_put B5.out ⟨_, _, _, rfl⟩, ((hb5.setCell (Nat.le_refl _) _).setCell (Nat.le_refl _) _).setCell (Nat.le_refl _) _⟩)
                rw [← hW6, ← hB6]
                clear HK T2 hbd hba d0 d1 d2 q0 q1 q2 e70 e71 e72 f7 B5 hW6 hB6 hb5
                have HJ6 := Lib.hid (HL4.out.2.2.1.later L6.out.2)
                have a0' : W6.cell? ⟨B6, 0, none⟩ = some (.int .i64 z.node) := L6.out.1.cell 0
                have a1' : W6.cell? ⟨B6, 1, none⟩ = some (.int .i64 z.n) := L6.out.1.cell 1
                have a2' : W6.cell? ⟨B6, 2, none⟩ = some (.string z.id) := L6.out.1.cell 2
                have hi3 : i * 3 + 2 < nn * 3 := by omega
                obtain ⟨g3, off3, c3, hv, -, -, -, -, hx3, hf3⟩ := HJ6.out.sl.at_ (by have := HL4.out.1; omega)
                injection hv with e1 e2 e3
                injection e1 with e1
                injection e1 with e1 e4
                subst e1 e4
                have hl3 := rowCells_len (k := 3) (enc := vTok) (fun _ => rfl) o
                have hlo : nn = o.length := HL4.out.1
                have s0 : W6.cell? ⟨g2, off2 + i * 3, none⟩ = some (.int .i64 x.node) := by rw [hx3 (i * 3) (by omega), HX.out.1]; exact rowCells_get (k := 3) (enc := vTok) (fun _ => rfl) o i hio 0 (by decide)
                have s1 : W6.cell? ⟨g2, off2 + i * 3 + 1, none⟩ = some (.int .i64 x.n) := by rw [Nat.add_assoc, hx3 (i * 3 + 1) (by omega), HX.out.1]; exact rowCells_get (k := 3) (enc := vTok) (fun _ => rfl) o i hio 1 (by decide)
                have s2 : W6.cell? ⟨g2, off2 + i * 3 + 2, none⟩ = some (.string x.id) := by rw [Nat.add_assoc, hx3 (i * 3 + 2) (by omega), HX.out.1]; exact rowCells_get (k := 3) (enc := vTok) (fun _ => rfl) o i hio 2 (by decide)
                have r0 : W6.frozen? ⟨g2, off2 + i * 3, none⟩ = false := hf3 (i * 3) (by omega)
                have r1 : W6.frozen? ⟨g2, off2 + i * 3 + 1, none⟩ = false := by rw [Nat.add_assoc]; exact hf3 (i * 3 + 1) (by omega)
                have r2 : W6.frozen? ⟨g2, off2 + i * 3 + 2, none⟩ = false := by rw [Nat.add_assoc]; exact hf3 (i * 3 + 2) (by omega)
                have HN6 := Lib.hid (show nn = (o.set i z).length ∧ JnAt kTok mTok a b (j + 1) (o.set i z) ∧ JSt kv2 vTok 3 45 w (posF kTok a) (.slice (some ⟨g2, off2, none⟩) nn c) (o.set i z) (((W6.setCell ⟨g2, off2 + i * 3, none⟩ (.int .i64 z.node)).setCell ⟨g2, off2 + i * 3 + 1, none⟩ (.int .i64 z.n)).setCell ⟨g2, off2 + i * 3 + 2, none⟩ (.string z.id)) from
                  ⟨by rw [List.length_set]; exact hlo, HL4.out.2.1.old mTok_key HR.out.1 HR.out.2 hjl hi (by rw [HX.out.2.1, HY.out]) hio (by
                    rw [← HX.out.1, ← HY.out, HZ.out]
                    exact if_pos (Mk.eqB_iff.1 HQ.out)), JSt.setRow (k := 3) (enc := vTok) (fun _ => rfl) (by decide) HJ6.out hlo i hio z⟩)
                clear hx3 hf3 hl3 hlo e2 e3
                go_wp2_with fail
                exact ⟨⟨j + 1, nn, c, _, o.set i z, rfl, by simp, by omega, by omega, HN6⟩, by simp [intOf]; omega⟩
            | false =>
              have HQ := Lib.hid hq
              obtain ⟨z, hz⟩ : ∃ z, z = x := ⟨_, rfl⟩
              have T2 := Lib.hid (show ∀ W, Calls Tryz.prog 69 #[.agg #[.int .i64 x.node, .int .i64 x.n, .string x.id], .agg #[.int .i64 y.node, .int .i64 y.n, .string y.id]] W fun e w' => e = .returned (.tuple #[.agg #[.int .i64 z.node, .int .i64 z.n, .string z.id], .bool false]) ∧ Below W.heap.size W w' from fun W => by
                rw [hz]
                have h1 := tokens2_any x y W
                rw [hq] at h1
                exact h1)
              have HZ := Lib.hid hz
              have hbd : Below w4.heap.size w4 w4.drew := ⟨rfl, rfl, rfl, Nat.le_refl _, fun _ _ => rfl⟩
              have hba : Below w4.heap.size w4 (w4.drew.alloc (.cells #[.int .i64 0, .int .i64 0, .string ⟨#[]⟩] 45)) := hbd.alloc (Nat.le_refl _) _
              clear hx he hg2 hlt2 hc2 hm2 hx2 hf2 hl2 hz e2 e3
              go_upto_region 14 with (fail)
              clear lk
              go_region_held (fun W => W.cell? ⟨g2, off2 + i * 3, none⟩ = some (.int .i64 x.node) ∧ W.cell? ⟨g2, off2 + i * 3 + 1, none⟩ = some (.int .i64 x.n) ∧ W.cell? ⟨g2, off2 + i * 3 + 2, none⟩ = some (.string x.id) ∧ W.cell? ⟨B3, 0, none⟩ = some (.int .i64 y.node) ∧ W.cell? ⟨B3, 1, none⟩ = some (.int .i64 y.n) ∧ W.cell? ⟨B3, 2, none⟩ = some (.string y.id))
                ((refine HK.out _ ?_; first | assumption | exact hb5.alloc hb5.size _ | exact (((hb5.alloc hb5.size _).setCell hb5.size _).setCell hb5.size _).setCell hb5.size _ | exact ((hb5.setCell (Nat.le_refl _) _).setCell (Nat.le_refl _) _).setCell (Nat.le_refl _) _))
                (first
                  | (go_at_call 69
                     refine (T2.out _).mono ?_
                     rintro e w5 ⟨rfl, hb⟩
                     first
                       | (have hb5 : Below w4.heap.size w4 w5 := hba.trans (hb.mono hba.size)
                          have B5 := Lib.hid (show BlkIs w5 w4.heap.size 45 #[.int .i64 0, .int .i64 0, .string ⟨#[]⟩] from BlkIs.below (BlkIs.new w4.drew _ _) hb (by simp))
                          have e70 : w5.cell? ⟨w4.heap.size, 0, none⟩ = some (.int .i64 0) := B5.out.cell 0
                          have e71 : w5.cell? ⟨w4.heap.size, 1, none⟩ = some (.int .i64 0) := B5.out.cell 1
                          have e72 : w5.cell? ⟨w4.heap.size, 2, none⟩ = some (.string ⟨#[]⟩) := B5.out.cell 2
                          have f7 : ∀ n, w5.frozen? ⟨w4.heap.size, n, none⟩ = false := fun n => B5.out.free n)
                       | (have hb5 : Below w4.heap.size w4 w5 := hbd.trans (hb.mono hbd.size))
                     clear hb))
              · obtain ⟨W6, hW6⟩ : ∃ W6, W6 = w5.alloc (.cells #[.int .i64 z.node, .int .i64 z.n, .string z.id] 45) := ⟨_, rfl⟩
                obtain ⟨B6, hB6⟩ : ∃ B6, B6 = w5.heap.size := ⟨_, rfl⟩
                have L6 := Lib.hid (show BlkIs W6 B6 45 (tokC z) ∧ Below w4.heap.size w4 W6 from by
                  rw [hW6, hB6]
                  exact ⟨BlkIs.new _ _ _, hb5.alloc hb5.size _⟩)
                rw [← hW6, ← hB6]
                clear HK T2 hbd hba d0 d1 d2 q0 q1 q2 hW6 hB6 hb5
                have HE := Lib.hid (show Clash kTok mTok a b ∧ Below w.heap.size w W6 from
                  ⟨HL4.out.2.1.clash HR.out.1 HR.out.2 hjl hi (by rw [HX.out.2.1, HY.out]) hio (by
                    rw [← HX.out.1, ← HY.out]
                    exact if_neg fun h => by have h1 := HQ.out; rw [Mk.eqB_iff.2 h] at h1; cases h1), (HL4.out.2.2.1.later L6.out.2).below⟩)
                have a0' : W6.cell? ⟨B6, 0, none⟩ = some (.int .i64 z.node) := L6.out.1.cell 0
                have a1' : W6.cell? ⟨B6, 1, none⟩ = some (.int .i64 z.n) := L6.out.1.cell 1
                have a2' : W6.cell? ⟨B6, 2, none⟩ = some (.string z.id) := L6.out.1.cell 2
                go_wp2_with fail
                refine bodyPost_ret (v := .tuple #[.slice none 0 0, .bool false]) (by simp [results, Tryz.results65, go_sem]) rfl ?_
                exact .inr ⟨rfl, HE.out⟩
              · obtain ⟨W6, hW6⟩ : ∃ W6, W6 = ((w5.setCell ⟨w4.heap.size, 0, none⟩ (.int .i64 z.node)).setCell ⟨w4.heap.size, 1, none⟩ (.int .i64 z.n)).setCell ⟨w4.heap.size, 2, none⟩ (.string z.id) := ⟨_, rfl⟩
                obtain ⟨B6, hB6⟩ : ∃ B6, B6 = w4.heap.size := ⟨_, rfl⟩
                have L6 := Lib.hid (show BlkIs W6 B6 45 (tokC z) ∧ Below w4.heap.size w4 W6 from by
                  rw [hW6, hB6]
                  exact ⟨tok_put B5.out ⟨_, _, _, rfl⟩, ((hb5.setCell (Nat.le_refl _) _).setCell (Nat.le_refl _) _).setCell (Nat.le_refl _) _⟩)
                rw [← hW6, ← hB6]
                clear HK T2 hbd hba d0 d1 d2 q0 q1 q2 e70 e71 e72 f7 B5 hW6 hB6 hb5
                have HE := Lib.hid (show Clash kTok mTok a b ∧ Below w.heap.size w W6 from
                  ⟨HL4.out.2.1.clash HR.out.1 HR.out.2 hjl hi (by rw [HX.out.2.1, HY.out]) hio (by
                    rw [← HX.out.1, ← HY.out]
                    exact if_neg fun h => by have h1 := HQ.out; rw [Mk.eqB_iff.2 h] at h1; cases h1), (HL4.out.2.2.1.later L6.out.2).below⟩)
                have a0' : W6.cell? ⟨B6, 0, none⟩ = some (.int .i64 z.node) := L6.out.1.cell 0
                have a1' : W6.cell? ⟨B6, 1, none⟩ = some (.int .i64 z.n) := L6.out.1.cell 1
                have a2' : W6.cell? ⟨B6, 2, none⟩ = some (.string z.id) := L6.out.1.cell 2
                go_wp2_with fail
                refine bodyPost_ret (v := .tuple #[.slice none 0 0, .bool false]) (by simp [results, Tryz.results65, go_sem]) rfl ?_
                exact .inr ⟨rfl, HE.out⟩
        · have ki : ¬ ((j : Int) < m) := by omega
          have ki2 : decide ((j : Int) < m) = false := decide_eq_false ki
          obtain rfl : j = m := Nat.le_antisymm hjm hge
          have Hsl := Lib.hid (show SlIs wr (w.heap.size + 1) 45 3 (.slice ao' nn c) nn (rowCells vTok o) from by
            have h1 := HL.out.2.2.sl
            rwa [← HL.out.1] at h1)
          have S := Lib.hid (show Calls Tryz.prog 105 #[.slice ao' nn c, .func (.func 67) #[] #[]] wr fun e' w' => e' = .returned (.tuple #[]) ∧ (∃ L : List Tok, L.Perm o ∧ Rk kTok L ∧ RowAt 3 vTok w' (.slice ao' nn c) L) ∧ Below (w.heap.size + 1) wr w' from
            sort_tok (w.heap.size + 1) (.slice ao' nn c) o wr HL.out.2.2.sl HL.out.2.2.lt (by have := HL.out.1; omega) HL.out.2.1.ik)
          clear ki
          go_wp2_with fail
          refine S.out.mono ?_
          rintro e w6 ⟨rfl, ⟨L, hp, hr, hrow⟩, hb6⟩
          have HE := Lib.hid (show JoinIs kTok mTok a b L ∧ RowAt 3 vTok w6 (.slice ao' nn c) L ∧ Below w.heap.size w w6 from
            ⟨JnAt.sorted (by rw [← HN.out.2]; exact HL.out.2.1) hr (fun x => hp.mem_iff), hrow, HL.out.2.2.below.trans (hb6.mono (Nat.le_succ _))⟩)
          clear hp hr hrow hb6
          go_wp2_with fail
          refine bodyPost_ret (v := .tuple #[.slice ao' nn c, .bool true]) (by simp [results, Tryz.results65, go_sem]) rfl ?_
          exact .inl ⟨_, L, rfl, HE.out⟩
end Go.Proofs.YtbmknmjcoeinkaaGreat.Mg
