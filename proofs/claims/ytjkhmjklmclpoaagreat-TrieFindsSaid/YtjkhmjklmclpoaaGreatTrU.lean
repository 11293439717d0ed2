/- alike: whether two sets have the same ids below a prefix, walked. (Layer 10.) -/
import Derived.Test.YtjkhmjklmclpoaaGreatTrV
namespace Go.Proofs.YtjkhmjklmclpoaaGreat.Tr
set_option linter.unusedVariables false
set_option linter.unusedSimpArgs false
open Go.RowKit Go.Lib
open Set (StrAt scells El Rise)
theorem within_is (la lb : List ByteArray) : (((la.filter (Set.partOf lb false)).length : Int) == 0) = holds (∀ x, x ∈ la → x ∈ lb) := by
  by_cases h : ∀ x, x ∈ la → x ∈ lb
  · rw [holds_true h]
    have : la.filter (Set.partOf lb false) = [] := by
      rw [List.filter_eq_nil_iff]
      intro x hx
      unfold Set.partOf
      rw [Set.has_true (h x hx)]
      decide
    rw [this]
    rfl
  · rw [holds_false h]
    have h2 : ∃ x, x ∈ la ∧ ¬ x ∈ lb := Classical.byContradiction fun hn => h fun x hx => Classical.byContradiction fun hy => hn ⟨x, hx, hy⟩
    obtain ⟨x, hx, hy⟩ := h2
    have h3 : x ∈ la.filter (Set.partOf lb false) := List.mem_filter.2 ⟨hx, by unfold Set.partOf; rw [Set.has_false hy]; rfl⟩
    have h4 : 0 < (la.filter (Set.partOf lb false)).length := List.length_pos_of_mem h3
    rw [beq_eq_false_iff_ne]
    omega
set_option maxRecDepth 100000 in
set_option maxHeartbeats 4000000 in
theorem alike_any (va vb : Value) (a b : List ByteArray) (p : ByteArray) (w : World) (hva : StrAt w va a) (hvb : StrAt w vb b) (hna : a.length ≤ 1000) (hnb : b.length ≤ 1000) (hp : (p.size : Int) ≤ 9223372036854775807) :
    Calls Tryz.prog 23 #[va, vb, .string p] w fun e w' => e = .returned (.bool (holds (AL a b p))) ∧ Below w.heap.size w w' := by
  have SA := Lib.hid hva
  have SB := Lib.hid hvb
  have HP := Lib.hid hp
  have OF := Lib.hid (fun W => Set.of_string (.slice none 0 0) [] W (strAt_nil W) (by decide))
  obtain ⟨oa, ca, rfl, -, -, -⟩ := hva
  obtain ⟨ob, cb, rfl, -, -, -⟩ := hvb
  obtain ⟨na, hna2⟩ : ∃ n, n = a.length := ⟨_, rfl⟩
  obtain ⟨nb, hnb2⟩ : ∃ n, n = b.length := ⟨_, rfl⟩
  rw [← hna2] at SA hna ⊢
  rw [← hnb2] at SB hnb ⊢
  have HN := Lib.hid (And.intro hna2 hnb2)
  clear hna2 hnb2 hp
  go_enter Tryz.func23, Tryz.ntmps23
  go_wp2_with fail
  refine (OF.out w).mono ?_
  rintro e w1 ⟨gx, kx, vx, l0, rfl, hl0, hsx, hb1⟩
  obtain rfl : l0 = [] := by
    cases l0 with
    | nil => rfl
    | cons x r => exact absurd ((hl0.2 x).1 (List.mem_cons_self)) (by simp)
  have HX := Lib.hid hsx
  have B1 := Lib.hid hb1
  clear hl0 hsx hb1
  go_wp2_with fail
  refine (OF.out w1).mono ?_
  rintro e w2 ⟨gy, ky, vy, l0, rfl, hl0, hsy, hb2⟩
  obtain rfl : l0 = [] := by
    cases l0 with
    | nil => rfl
    | cons x r => exact absurd ((hl0.2 x).1 (List.mem_cons_self)) (by simp)
  have HY := Lib.hid hsy
  have B2 := Lib.hid (B1.out.trans (hb2.mono B1.out.size))
  have HX2 := Lib.hid (And.intro (HX.out.later hb2) (And.intro hb2.size (fun k hk => (HX.out.own (k := k) hk).2)))
  clear hl0 hsy hb2 OF
  go_wp2_with fail
  go_loopw [9] (fun c wr => ∃ (k : Nat) (kv vv : Value) (l : List ByteArray), c = .int .i64 (k : Int) ∧ k ≤ na ∧ Hid (Set.StrSet wr w.heap.size gx kv vv l ∧ (∀ x, x ∈ l ↔ x ∈ belowL (a.take k) p) ∧ l.length ≤ k ∧ Set.StrSet wr w1.heap.size gy ky vy [] ∧ (∀ k, Set.Own_ gx kv vv k → k < w1.heap.size ∨ w2.heap.size ≤ k) ∧ Below w.heap.size w wr ∧ w2.heap.size ≤ wr.heap.size)) (fun c _ => ((na : Int) - intOf c).toNat)
  case atStart => exact ⟨0, kx, vx, [], rfl, by omega, Lib.hid ⟨HX2.out.1, fun x => by simp [belowL], by simp, HY.out, fun k hk => Or.inl (HX2.out.2.2 k hk), B2.out, Nat.le_refl _⟩⟩
  case round =>
    obtain ⟨k, kv, vv, l, rfl, hk, HK⟩ := hrel
    have hlk := HK.out.2.2.1
    rcases Nat.lt_or_ge k na with h3 | h3
    · have k1 : (k : Int) < na := by omega
      have kw : IntKind.i64.wrap ((k : Int) + 1) = ((k + 1 : Nat) : Int) := IntWalk.i64_in _ (by omega)
      obtain ⟨b', off, hao, hlt, hc⟩ := strAt_at SA.out (by omega)
      subst hao
      have c0 := hc k h3
      rw [← HK.out.2.2.2.2.2.1.cell hlt] at c0
      obtain ⟨x, hx⟩ : ∃ x, x = a[k]! := ⟨_, rfl⟩
      rw [← hx] at c0
      have AA := Lib.hid (has_any x p HP.out wr)
      have ht := below_take (l := a) (p := p) (k := k) (by rw [← HN.out.1]; exact h3)
      rw [← hx] at ht
      have HT := Lib.hid ht
      have HC := Lib.hid (show ∀ W, Below wr.heap.size wr W → W.cell? ⟨b', off + k, none⟩ = some (.string x) from fun W hb => by rw [hb.cell (Nat.lt_of_lt_of_le hlt HK.out.2.2.2.2.2.1.size)]; exact c0)
      obtain ⟨q, hq⟩ : ∃ q, q = hasB x p := ⟨_, rfl⟩
      rw [← hq] at AA
      have HQ := Lib.hid hq
      clear hc hx ht hq
      cases q with
      | false =>
        go_wp2_with fail
        refine AA.out.mono ?_
        rintro e w3 ⟨rfl, hb⟩
        have H3 := Lib.hid (show Set.StrSet w3 w.heap.size gx kv vv l ∧ (∀ y, y ∈ l ↔ y ∈ belowL (a.take (k + 1)) p) ∧ l.length ≤ k + 1 ∧ Set.StrSet w3 w1.heap.size gy ky vy [] ∧ (∀ k, Set.Own_ gx kv vv k → k < w1.heap.size ∨ w2.heap.size ≤ k) ∧ Below w.heap.size w w3 ∧ w2.heap.size ≤ w3.heap.size from
          ⟨HK.out.1.later hb, fun y => by rw [HT.out, ← HQ.out, HK.out.2.1 y]; simp, by omega, HK.out.2.2.2.1.later hb, HK.out.2.2.2.2.1, HK.out.2.2.2.2.2.1.trans (hb.mono HK.out.2.2.2.2.2.1.size), Nat.le_trans HK.out.2.2.2.2.2.2 hb.size⟩)
        clear AA hb c0
        go_wp2_with fail
        refine ⟨⟨k + 1, kv, vv, l, by simp, by omega, H3⟩, ?_⟩
        simp [intOf]
        omega
      | true =>
        go_wp2_with fail
        refine AA.out.mono ?_
        rintro e w3 ⟨rfl, hb⟩
        have AD := Lib.hid (Set.add_string w.heap.size gx kv vv l x w3 (HK.out.1.later hb) (by omega))
        clear c0
        have c0 := HC.out w3 hb
        have H3 := Lib.hid hb
        clear AA hb
        go_wp2_with fail
        refine AD.out.mono ?_
        rintro e w4 ⟨kv', vv', rfl, hset4, hchg, hown⟩
        have H4 := Lib.hid (show Set.StrSet w4 w.heap.size gx kv' vv' (Set.ins x l) ∧ (∀ y, y ∈ Set.ins x l ↔ y ∈ belowL (a.take (k + 1)) p) ∧ (Set.ins x l).length ≤ k + 1 ∧ Set.StrSet w4 w1.heap.size gy ky vy [] ∧ (∀ k, Set.Own_ gx kv' vv' k → k < w1.heap.size ∨ w2.heap.size ≤ k) ∧ Below w.heap.size w w4 ∧ w2.heap.size ≤ w4.heap.size from by
          have hbw := HK.out.2.2.2.2.2.1
          have hb3 := hbw.trans (H3.out.mono hbw.size)
          have hsz3 : w2.heap.size ≤ w3.heap.size := Nat.le_trans HK.out.2.2.2.2.2.2 H3.out.size
          refine ⟨hset4, fun y => ?_, ?_, ?_, fun j hj => ?_, hb3.trans (hchg.below hb3.size fun j hj => ((HK.out.1.later H3.out).own hj).1), Nat.le_trans hsz3 hchg.size⟩
          · rw [HT.out, ← HQ.out, Set.mem_ins, HK.out.2.1 y]
            simp
            exact Or.comm
          · by_cases hm : x ∈ l
            · rw [Set.ins_of hm]; omega
            · rw [Set.ins_length hm]; omega
          · refine (HK.out.2.2.2.1.later H3.out).chg hchg fun j hj hj2 => ?_
            have h5 := HY.out.own hj
            rcases HK.out.2.2.2.2.1 j hj2 with h6 | h6 <;> omega
          · rcases hown j hj with h5 | h5
            · exact HK.out.2.2.2.2.1 j h5
            · right; omega)
        clear AD hset4 hchg hown
        go_wp2_with fail
        refine ⟨⟨k + 1, kv', vv', _, by simp, by omega, H4⟩, ?_⟩
        simp [intOf]
        omega
    · have k1 : decide ((k : Int) < na) = false := decide_eq_false (by omega)
      have k2 : ¬ ((k : Int) < na) := by omega
      obtain rfl : k = na := by omega
      have hmx : ∀ x, x ∈ l ↔ x ∈ belowL a p := by
        have := HK.out.2.1
        rw [HN.out.1, List.take_length] at this
        exact this
      have HX3 := Lib.hid (And.intro HK.out.1 (And.intro hmx HK.out.2.2))
      have hwx : ∀ j, Set.Own_ gx kv vv j → (j < w1.heap.size ∨ w2.heap.size ≤ j) ∧ j < wr.heap.size := fun j hj => ⟨HK.out.2.2.2.2.1 j hj, (HK.out.1.own hj).2⟩
      have HWX := Lib.hid hwx
      obtain ⟨w3, hw3⟩ : ∃ w3, w3 = wr := ⟨_, rfl⟩
      rw [← hw3] at HX3 HWX ⊢
      clear hmx hwx HK hw3 hk h3
      go_wp2_with fail
      go_loopw [10] (fun c wr => ∃ (k : Nat) (kv2 vv2 : Value) (l2 : List ByteArray), c = .int .i64 (k : Int) ∧ k ≤ nb ∧ Hid (Set.StrSet wr w1.heap.size gy kv2 vv2 l2 ∧ (∀ x, x ∈ l2 ↔ x ∈ belowL (b.take k) p) ∧ l2.length ≤ k ∧ Set.StrSet wr w.heap.size gx kv vv l ∧ (∀ k, Set.Own_ gy kv2 vv2 k → (w1.heap.size ≤ k ∧ k < w2.heap.size) ∨ w3.heap.size ≤ k) ∧ Below w.heap.size w wr ∧ w3.heap.size ≤ wr.heap.size)) (fun c _ => ((nb : Int) - intOf c).toNat)
      case atStart => exact ⟨0, ky, vy, [], rfl, by omega, Lib.hid ⟨HX3.out.2.2.2.1, fun x => by simp [belowL], by simp, HX3.out.1, fun j hj => Or.inl (HY.out.own hj), HX3.out.2.2.2.2.2.1, Nat.le_refl _⟩⟩
      case round =>
        obtain ⟨j, kv2, vv2, l2, rfl, hj, HJ⟩ := hrel
        have hlj := HJ.out.2.2.1
        rcases Nat.lt_or_ge j nb with h4 | h4
        · have k1 : (j : Int) < nb := by omega
          have kw : IntKind.i64.wrap ((j : Int) + 1) = ((j + 1 : Nat) : Int) := IntWalk.i64_in _ (by omega)
          obtain ⟨b', off, hao, hlt, hc⟩ := strAt_at SB.out (by omega)
          subst hao
          have c0 := hc j h4
          rw [← HJ.out.2.2.2.2.2.1.cell hlt] at c0
          obtain ⟨x, hx⟩ : ∃ x, x = b[j]! := ⟨_, rfl⟩
          rw [← hx] at c0
          have AA := Lib.hid (has_any x p HP.out wr)
          have ht := below_take (l := b) (p := p) (k := j) (by rw [← HN.out.2]; exact h4)
          rw [← hx] at ht
          have HT := Lib.hid ht
          have HC := Lib.hid (show ∀ W, Below wr.heap.size wr W → W.cell? ⟨b', off + j, none⟩ = some (.string x) from fun W hb => by rw [hb.cell (Nat.lt_of_lt_of_le hlt HJ.out.2.2.2.2.2.1.size)]; exact c0)
          obtain ⟨q, hq⟩ : ∃ q, q = hasB x p := ⟨_, rfl⟩
          rw [← hq] at AA
          have HQ := Lib.hid hq
          clear hc hx ht hq
          cases q with
          | false =>
            go_wp2_with fail
            refine AA.out.mono ?_
            rintro e w4 ⟨rfl, hb⟩
            have H3 := Lib.hid (show Set.StrSet w4 w1.heap.size gy kv2 vv2 l2 ∧ (∀ y, y ∈ l2 ↔ y ∈ belowL (b.take (j + 1)) p) ∧ l2.length ≤ j + 1 ∧ Set.StrSet w4 w.heap.size gx kv vv l ∧ (∀ k, Set.Own_ gy kv2 vv2 k → (w1.heap.size ≤ k ∧ k < w2.heap.size) ∨ w3.heap.size ≤ k) ∧ Below w.heap.size w w4 ∧ w3.heap.size ≤ w4.heap.size from
              ⟨HJ.out.1.later hb, fun y => by rw [HT.out, ← HQ.out, HJ.out.2.1 y]; simp, by omega, HJ.out.2.2.2.1.later hb, HJ.out.2.2.2.2.1, HJ.out.2.2.2.2.2.1.trans (hb.mono HJ.out.2.2.2.2.2.1.size), Nat.le_trans HJ.out.2.2.2.2.2.2 hb.size⟩)
            clear AA hb c0
            go_wp2_with fail
            refine ⟨⟨j + 1, kv2, vv2, l2, by simp, by omega, H3⟩, ?_⟩
            simp [intOf]
            omega
          | true =>
            go_wp2_with fail
            refine AA.out.mono ?_
            rintro e w4 ⟨rfl, hb⟩
            have AD := Lib.hid (Set.add_string w1.heap.size gy kv2 vv2 l2 x w4 (HJ.out.1.later hb) (by omega))
            clear c0
            have c0 := HC.out w4 hb
            have H3 := Lib.hid hb
            clear AA hb
            go_wp2_with fail
            refine AD.out.mono ?_
            rintro e w5 ⟨kv', vv', rfl, hset4, hchg, hown⟩
            have H4 := Lib.hid (show Set.StrSet w5 w1.heap.size gy kv' vv' (Set.ins x l2) ∧ (∀ y, y ∈ Set.ins x l2 ↔ y ∈ belowL (b.take (j + 1)) p) ∧ (Set.ins x l2).length ≤ j + 1 ∧ Set.StrSet w5 w.heap.size gx kv vv l ∧ (∀ k, Set.Own_ gy kv' vv' k → (w1.heap.size ≤ k ∧ k < w2.heap.size) ∨ w3.heap.size ≤ k) ∧ Below w.heap.size w w5 ∧ w3.heap.size ≤ w5.heap.size from by
              have hbw := HJ.out.2.2.2.2.2.1
              have hb3 := hbw.trans (H3.out.mono hbw.size)
              have hsz3 : w3.heap.size ≤ w4.heap.size := Nat.le_trans HJ.out.2.2.2.2.2.2 H3.out.size
              refine ⟨hset4, fun y => ?_, ?_, ?_, fun i hi => ?_, hb3.trans (hchg.below hb3.size fun i hi => Nat.le_trans B1.out.size ((HJ.out.1.later H3.out).own hi).1), Nat.le_trans hsz3 hchg.size⟩
              · rw [HT.out, ← HQ.out, Set.mem_ins, HJ.out.2.1 y]
                simp
                exact Or.comm
              · by_cases hm : x ∈ l2
                · rw [Set.ins_of hm]; omega
                · rw [Set.ins_length hm]; omega
              · refine (HJ.out.2.2.2.1.later H3.out).chg hchg fun i hi hi2 => ?_
                have h5 := HWX.out i hi
                rcases HJ.out.2.2.2.2.1 i hi2 with h6 | h6 <;> omega
              · rcases hown i hi with h5 | h5
                · exact HJ.out.2.2.2.2.1 i h5
                · right; omega)
            clear AD hset4 hchg hown
            go_wp2_with fail
            refine ⟨⟨j + 1, kv', vv', _, by simp, by omega, H4⟩, ?_⟩
            simp [intOf]
            omega
        · have k1 : decide ((j : Int) < nb) = false := decide_eq_false (by omega)
          have k2 : ¬ ((j : Int) < nb) := by omega
          obtain rfl : j = nb := by omega
          have hmy : ∀ x, x ∈ l2 ↔ x ∈ belowL b p := by
            have := HJ.out.2.1
            rw [HN.out.2, List.take_length] at this
            exact this
          have hlx : l.length ≤ 1000 := by have := HX3.out.2.2.1; omega
          have hly : l2.length ≤ 1000 := by omega
          have W1 := Lib.hid (Set.within_string _ gx _ gy _ _ _ _ l l2 wr HJ.out.2.2.2.1 HJ.out.1 (by omega) (by omega))
          have hal : AL a b p ↔ (∀ x, x ∈ l → x ∈ l2) ∧ (∀ x, x ∈ l2 → x ∈ l) := by
            have m1 : ∀ x, (x ∈ a ∧ hasB x p = true) ↔ x ∈ l := fun x => by rw [HX3.out.2.1 x]; exact (List.mem_filter (p := fun x => hasB x p)).symm
            have m2 : ∀ x, (x ∈ b ∧ hasB x p = true) ↔ x ∈ l2 := fun x => by rw [hmy x]; exact (List.mem_filter (p := fun x => hasB x p)).symm
            unfold AL
            constructor
            · intro h
              exact ⟨fun x hx => (m2 x).1 ((h x).1 ((m1 x).2 hx)), fun x hx => (m1 x).1 ((h x).2 ((m2 x).2 hx))⟩
            · rintro ⟨h5, h6⟩ x
              rw [m1, m2]
              exact ⟨h5 x, h6 x⟩
          have HAL := Lib.hid hal
          have HJ1 := Lib.hid (And.intro HJ.out.1 (And.intro HJ.out.2.2.2.1 (And.intro hlx (And.intro hly HJ.out.2.2.2.2.2.1))))
          rw [within_is] at W1
          obtain ⟨r1, hr1⟩ : ∃ r, r = holds (∀ x, x ∈ l → x ∈ l2) := ⟨_, rfl⟩
          rw [← hr1] at W1
          have HR1 := Lib.hid hr1
          clear hmy hal HJ HX3 hlj hlx hly hr1 hj h4
          cases r1 with
          | false =>
            go_wp2_with fail
            refine W1.out.mono ?_
            rintro e w5 ⟨rfl, hb⟩
            have B5 := Lib.hid (HJ1.out.2.2.2.2.trans (hb.mono HJ1.out.2.2.2.2.size))
            clear W1 hb
            go_wp2_with fail
            go_ret
            refine ⟨?_, B5.out⟩
            rw [holds_false (p := AL a b p)]
            · rfl
            · intro h
              have h7 := HR1.out
              rw [holds_true (HAL.out.1 h).1] at h7
              cases h7
          | true =>
            go_wp2_with fail
            refine W1.out.mono ?_
            rintro e w5 ⟨rfl, hb⟩
            have B5 := Lib.hid (HJ1.out.2.2.2.2.trans (hb.mono HJ1.out.2.2.2.2.size))
            have W2 := Lib.hid (Set.within_string _ gy _ gx _ _ _ _ l2 l w5 (HJ1.out.1.later hb) (HJ1.out.2.1.later hb) (by have := HJ1.out.2.2.2.1; omega) (by have := HJ1.out.2.2.1; omega))
            rw [within_is] at W2
            obtain ⟨r2, hr2⟩ : ∃ r, r = holds (∀ x, x ∈ l2 → x ∈ l) := ⟨_, rfl⟩
            rw [← hr2] at W2
            have HR2 := Lib.hid hr2
            clear W1 hb hr2
            go_wp2_with fail
            refine W2.out.mono ?_
            rintro e w6 ⟨rfl, hb⟩
            have B6 := Lib.hid (B5.out.trans (hb.mono B5.out.size))
            clear W2 hb
            go_wp2_with fail
            go_ret
            refine ⟨?_, B6.out⟩
            have h7 := HR1.out
            have h8 := HR2.out
            by_cases h9 : ∀ x, x ∈ l2 → x ∈ l
            · rw [holds_true (p := AL a b p) (HAL.out.2 ⟨holds_iff.1 h7.symm, h9⟩)]
              rw [holds_true h9] at h8
              rw [h8]
              rfl
            · rw [holds_false (p := AL a b p) (fun h => h9 (HAL.out.1 h).2)]
              rw [holds_false h9] at h8
              rw [h8]
              rfl
end Go.Proofs.YtjkhmjklmclpoaaGreat.Tr
