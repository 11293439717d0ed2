/- reliquarylaw08.SetRises, walked: true. (Layer 08.) -/
import Derived.Test.YtckhekkdidfefaaGreatSetAw
import Derived.Test.YtckhekkdidfefaaGreatSetS7
import Derived.Test.YtckhekkdidfefaaGreatSetAlg
import Derived.Test.YtckhekkdidfefaaGreatStrs
import Derived.Deep.QuietTactic
import Derived.BigQuiet
namespace Go.Proofs.YtckhekkdidfefaaGreat.Set
set_option linter.unusedVariables false
open Go.RowKit Go.Sort Go.Lib
set_option maxRecDepth 100000 in
set_option maxHeartbeats 8000000 in
theorem set_rises (va : Value) (a : List ByteArray) (w : World) (ha : StrAt w va a) :
    Calls Tryz.prog 3 #[va] w fun e w' => e = .returned (.bool true) ∧ Below w.heap.size w w' := by
  have HA := Lib.hid ha
  obtain ⟨na, hna⟩ : ∃ na, na = a.length := ⟨_, rfl⟩
  obtain ⟨aoa, capa, rfl, -, -, -⟩ := ha
  rw [← hna] at HA ⊢
  have HN := Lib.hid hna
  have hmx : Tryz.prog.follows .mixedOrders = true := by kernel_rfl
  clear hna
  go_enter Tryz.func3, Tryz.ntmps3
  go_wp2_with fail
  refine (awake_ w).mono ?_
  rintro e W1 ⟨rfl, hb1⟩
  have H1 := Lib.hid (And.intro (HA.out.later hb1) hb1)
  clear hb1 HA
  cases d1 : decide (300 < (na : Int))
  case true =>
    go_wp2_with fail
    go_ret
    exact ⟨rfl, H1.out.2⟩
  case false =>
  have hna : a.length ≤ 300 := by rw [← HN.out]; have := of_decide_eq_false d1; omega
  have HNN := Lib.hid hna
  clear hna
  go_wp2_with fail
  refine (of_string _ a W1 H1.out.1 (by have := HNN.out; omega)).mono ?_
  rintro e W2 ⟨gs, kvs, vvs, m, rfl, hm, hs, hb⟩
  have H2 := Lib.hid (And.intro (hs.mono (Nat.zero_le _)) (And.intro (H1.out.1.later hb) (H1.out.2.trans (hb.mono H1.out.2.size))))
  have hml : m.length ≤ 300 := Nat.le_trans (isOf_len hm) HNN.out
  have HM := Lib.hid (And.intro hm hml)
  clear hs hb hm H1 hml
  go_wp2_with fail
  refine (list_string 0 gs kvs vvs m W2 H2.out.1 (by have := HM.out.2; omega)).mono ?_
  rintro e W3 ⟨v1, rfl, hs, hb⟩
  obtain ⟨n, hn⟩ : ∃ n, n = m.length := ⟨_, rfl⟩
  rw [← hn] at hs
  have HL := Lib.hid hn
  have H3 := Lib.hid (And.intro (H2.out.1.later hb) (And.intro (H2.out.2.1.later hb) (And.intro (H2.out.2.2.trans (hb.mono H2.out.2.2.size)) (hs.mono (Nat.zero_le _)))))
  have hn3 : n ≤ 300 := by rw [hn]; exact HM.out.2
  obtain ⟨ao1, cap1, rfl, -, -, -⟩ := hs.form
  clear hs hb H2 hn
  go_wp2_with fail
  go_loopw [5] (fun i wr => ∃ k : Nat, i = .int .i64 (k : Int) ∧ k ≤ n ∧ Hid (DrawsOf W3 wr)) (fun i _ => n - (intOf i).toNat)
  case atStart => exact ⟨0, rfl, Nat.zero_le _, Lib.hid (DrawsOf.refl _)⟩
  case round =>
    obtain ⟨k, rfl, hkn, HD⟩ := hrel
    rcases Nat.lt_or_ge k n with hlt | hge
    · have ki : (k : Int) < n := by omega
      rcases H3.out.2.2.2.parts with ⟨_, h0⟩ | ⟨b1, off1, cap1', hv, -, hblt, -, -, hx, -⟩
      · omega
      injection hv with e1 e2 e3
      subst e1
      have hkm : k < m.length := by rw [← HL.out]; exact hlt
      obtain ⟨y, hy⟩ : ∃ y, y = m[k] := ⟨_, rfl⟩
      have ck : wr.cell? ⟨b1, off1 + k, none⟩ = some (.string y) := by rw [HD.out.cell, hx k hlt, scells_get m k hkm, hy]
      have hym : y ∈ m := by rw [hy]; exact List.getElem_mem hkm
      have HY := Lib.hid (And.intro hy hym)
      have hhas : has m y = true := has_true hym
      have HS := Lib.hid (show ∀ q, Calls Tryz.prog 8 #[.pointer (some ⟨gs, 0, none⟩), .string y] (wr.drewN q) fun e w' => e = .returned (.bool true) ∧ ∃ m, w' = wr.drewN m from fun q => by
        have hd : DrawsOf wr (wr.drewN q) := ⟨q, rfl⟩
        have := has_string 0 gs kvs vvs m y (wr.drewN q) (H3.out.1.later ((DrawsOf.trans HD.out hd).below _)) (by have := HM.out.2; omega)
        rw [hhas] at this
        exact this.mono fun e w' h => ⟨h.1, DrawsOf.trans hd h.2⟩)
      clear e2 e3
      have HX := Lib.hid (show W3.cell? ⟨b1, off1 + k, none⟩ = some (.string y) by rw [← HD.out.cell]; exact ck)
      have HJ := Lib.hid (show 0 < k → ∃ (j : Nat) (z : ByteArray), j + 1 = k ∧ wr.cell? ⟨b1, off1 + j, none⟩ = some (.string z) ∧ Op.bytesLess z.toList y.toList = true from fun hk0 => by
        obtain ⟨j, rfl⟩ : ∃ j, k = j + 1 := ⟨k - 1, by omega⟩
        have hjm : j < m.length := by omega
        refine ⟨j, m[j], rfl, by rw [HD.out.cell, hx j (by omega), scells_get m j hjm], ?_⟩
        rw [less_lt]
        refine decide_eq_true ?_
        rw [hy]
        exact List.pairwise_iff_getElem.1 HM.out.1.1 j (j + 1) hjm hkm (by omega))
      clear hx hhas hy hym
      have hgo : ∀ (P : Prop), (decide (0 < k) = false → P) → (∀ j : Nat, decide (0 < k) = true → (j : Int) < n → IntKind.i64.wrap ((k : Int) - 1) = (j : Int) → (∃ z, wr.cell? ⟨b1, off1 + j, none⟩ = some (.string z) ∧ Op.bytesLess z.toList y.toList = true) → P) → P := fun P h1 h2 => by
        rcases Nat.eq_zero_or_pos k with hk0 | hk0
        · exact h1 (decide_eq_false (by omega))
        · obtain ⟨j, z, hjk, hc, hl⟩ := HJ.out hk0
          exact h2 j (decide_eq_true hk0) (by omega) (by rw [show (k : Int) - 1 = (j : Int) by omega]; exact IntWalk.i64_in _ (by omega)) ⟨z, hc, hl⟩
      refine hgo _ (fun d0 => ?_) (fun j d0 kj q2 hz => ?_)
      · clear hgo HJ
        go_wp2_with fail
        go_quiet ((go_at_call 8; with_reducible exact HS.out _))
        obtain ⟨WQ, hWQ⟩ : ∃ WQ, WQ = wr.drewN nq := ⟨_, rfl⟩
        have hdq : DrawsOf W3 WQ := by rw [hWQ]; exact DrawsOf.drewN HD.out nq
        rw [← hWQ]
        have HQ := Lib.hid hdq
        clear hWQ hdq HS ck HD d0
        go_wp2_with fail
        go_loopw [6, 7] (fun q i wr => ∃ (t : Nat) (b : Bool), q = .bool b ∧ i = .int .i64 (t : Int) ∧ t ≤ na ∧ Hid (b = true ↔ y ∈ a.take t) ∧ Hid (DrawsOf W3 wr)) (fun _ i _ => na - (intOf i).toNat)
        case atStart => exact ⟨0, false, rfl, rfl, Nat.zero_le _, Lib.hid (by simp), HQ⟩
        case round =>
          obtain ⟨t, b, rfl, rfl, htn, HB, HD⟩ := hrel
          rcases Nat.lt_or_ge t na with htl | htg
          · have ti : (t : Int) < na := by omega
            have hta : t < a.length := by rw [← HN.out]; exact htl
            obtain ⟨aoa', capa', hva, -, -, hca⟩ := H3.out.2.1
            injection hva with e1 e2 e3
            subst e1
            obtain ⟨ba, offa, rfl, hbal, hcell⟩ := hca (by omega)
            obtain ⟨u, hu⟩ : ∃ u, u = a[t] := ⟨_, rfl⟩
            have ct : wr.cell? ⟨ba, offa + t, none⟩ = some (.string u) := by rw [HD.out.cell, hcell t hta, hu]
            have ck : wr.cell? ⟨b1, off1 + k, none⟩ = some (.string y) := by rw [HD.out.cell]; exact HX.out
            have HU := Lib.hid hu
            have hna3 : na ≤ 300 := by rw [HN.out]; exact HNN.out
            clear hcell hca hu e2 e3 HQ
            cases b
            · obtain ⟨c, hc⟩ : ∃ c, c = (u.toList == y.toList) := ⟨_, rfl⟩
              have hcc := hc.symm
              have HC := Lib.hid hc
              clear hc
              go_wp2_with fail
              go_quiet (fail)
              go_wp2_with fail
              refine ⟨⟨t + 1, c, rfl, by simp, by omega, Lib.hid ?_, Lib.hid (DrawsOf.drewN HD.out nq)⟩, by simp [intOf]; omega⟩
              have h1 : ¬ y ∈ a.take t := fun h => by have := HB.out.2 h; cases this
              have hcu : (u.toList == y.toList) = true ↔ u = y := by rw [beq_iff_eq, ByteArray.toList_eq, ByteArray.toList_eq]; exact ⟨bytes_inj, fun h => by rw [h]⟩
              rw [take_snoc hta, List.mem_append, List.mem_singleton, ← HU.out, HC.out, hcu]
              exact ⟨fun h => Or.inr h.symm, fun h => h.elim (fun h => (h1 h).elim) fun h => h.symm⟩
            · clear ct ck
              go_wp2_with fail
              go_region
              go_wp2_with fail
              refine ⟨⟨t + 1, true, rfl, by simp, by omega, Lib.hid ?_, Lib.hid (DrawsOf.drew HD.out)⟩, by simp [intOf]; omega⟩
              rw [take_snoc hta, List.mem_append]
              exact ⟨fun _ => Or.inl (HB.out.1 (by simp)), fun _ => rfl⟩
          · have ti : decide ((t : Int) < na) = false := decide_eq_false (by omega)
            obtain rfl : t = na := by omega
            have hbt : b = true := HB.out.2 (by rw [HN.out, List.take_length]; exact (HM.out.1.2 y).1 HY.out.2)
            subst hbt
            have T := Lib.hid (show Calls Tryz.prog 9 #[.pointer (some ⟨gs, 0, none⟩), .int .i64 (k : Int)] wr fun e w' => e = .returned (.tuple #[.string y, .bool true]) ∧ wr = w' from by
              rw [HY.out.1]
              exact at_string 0 gs kvs vvs m k hkm wr (H3.out.1.later (HD.out.below _)))
            have ck : wr.cell? ⟨b1, off1 + k, none⟩ = some (.string y) := by rw [HD.out.cell]; exact HX.out
            clear HQ HB
            go_wp2_with fail
            refine T.out.mono ?_
            rintro e W ⟨rfl, rfl⟩
            clear T
            go_wp2_with fail
            refine ⟨⟨k + 1, by simp, by omega, HD⟩, by simp [intOf]; omega⟩
      · obtain ⟨z, cj, hzy⟩ := hz
        clear hgo HJ
        go_wp2_with fail
        go_quiet ((go_at_call 8; with_reducible exact HS.out _))
        clear cj hzy q2 kj
        obtain ⟨WQ, hWQ⟩ : ∃ WQ, WQ = wr.drewN nq := ⟨_, rfl⟩
        have hdq : DrawsOf W3 WQ := by rw [hWQ]; exact DrawsOf.drewN HD.out nq
        rw [← hWQ]
        have HQ := Lib.hid hdq
        clear hWQ hdq HS ck HD d0
        go_wp2_with fail
        go_loopw [6, 7] (fun q i wr => ∃ (t : Nat) (b : Bool), q = .bool b ∧ i = .int .i64 (t : Int) ∧ t ≤ na ∧ Hid (b = true ↔ y ∈ a.take t) ∧ Hid (DrawsOf W3 wr)) (fun _ i _ => na - (intOf i).toNat)
        case atStart => exact ⟨0, false, rfl, rfl, Nat.zero_le _, Lib.hid (by simp), HQ⟩
        case round =>
          obtain ⟨t, b, rfl, rfl, htn, HB, HD⟩ := hrel
          rcases Nat.lt_or_ge t na with htl | htg
          · have ti : (t : Int) < na := by omega
            have hta : t < a.length := by rw [← HN.out]; exact htl
            obtain ⟨aoa', capa', hva, -, -, hca⟩ := H3.out.2.1
            injection hva with e1 e2 e3
            subst e1
            obtain ⟨ba, offa, rfl, hbal, hcell⟩ := hca (by omega)
            obtain ⟨u, hu⟩ : ∃ u, u = a[t] := ⟨_, rfl⟩
            have ct : wr.cell? ⟨ba, offa + t, none⟩ = some (.string u) := by rw [HD.out.cell, hcell t hta, hu]
            have ck : wr.cell? ⟨b1, off1 + k, none⟩ = some (.string y) := by rw [HD.out.cell]; exact HX.out
            have HU := Lib.hid hu
            have hna3 : na ≤ 300 := by rw [HN.out]; exact HNN.out
            clear hcell hca hu e2 e3 HQ
            cases b
            · obtain ⟨c, hc⟩ : ∃ c, c = (u.toList == y.toList) := ⟨_, rfl⟩
              have hcc := hc.symm
              have HC := Lib.hid hc
              clear hc
              go_wp2_with fail
              go_quiet (fail)
              go_wp2_with fail
              refine ⟨⟨t + 1, c, rfl, by simp, by omega, Lib.hid ?_, Lib.hid (DrawsOf.drewN HD.out nq)⟩, by simp [intOf]; omega⟩
              have h1 : ¬ y ∈ a.take t := fun h => by have := HB.out.2 h; cases this
              have hcu : (u.toList == y.toList) = true ↔ u = y := by rw [beq_iff_eq, ByteArray.toList_eq, ByteArray.toList_eq]; exact ⟨bytes_inj, fun h => by rw [h]⟩
              rw [take_snoc hta, List.mem_append, List.mem_singleton, ← HU.out, HC.out, hcu]
              exact ⟨fun h => Or.inr h.symm, fun h => h.elim (fun h => (h1 h).elim) fun h => h.symm⟩
            · clear ct ck
              go_wp2_with fail
              go_region
              go_wp2_with fail
              refine ⟨⟨t + 1, true, rfl, by simp, by omega, Lib.hid ?_, Lib.hid (DrawsOf.drew HD.out)⟩, by simp [intOf]; omega⟩
              rw [take_snoc hta, List.mem_append]
              exact ⟨fun _ => Or.inl (HB.out.1 (by simp)), fun _ => rfl⟩
          · have ti : decide ((t : Int) < na) = false := decide_eq_false (by omega)
            obtain rfl : t = na := by omega
            have hbt : b = true := HB.out.2 (by rw [HN.out, List.take_length]; exact (HM.out.1.2 y).1 HY.out.2)
            subst hbt
            have T := Lib.hid (show Calls Tryz.prog 9 #[.pointer (some ⟨gs, 0, none⟩), .int .i64 (k : Int)] wr fun e w' => e = .returned (.tuple #[.string y, .bool true]) ∧ wr = w' from by
              rw [HY.out.1]
              exact at_string 0 gs kvs vvs m k hkm wr (H3.out.1.later (HD.out.below _)))
            have ck : wr.cell? ⟨b1, off1 + k, none⟩ = some (.string y) := by rw [HD.out.cell]; exact HX.out
            clear HQ HB
            go_wp2_with fail
            refine T.out.mono ?_
            rintro e W ⟨rfl, rfl⟩
            clear T
            go_wp2_with fail
            refine ⟨⟨k + 1, by simp, by omega, HD⟩, by simp [intOf]; omega⟩
    · have ki : decide ((k : Int) < n) = false := decide_eq_false (by omega)
      obtain rfl : k = n := by omega
      have hna3 : na ≤ 300 := by rw [HN.out]; exact HNN.out
      go_wp2_with fail
      go_loopw [10] (fun i wr => ∃ t : Nat, i = .int .i64 (t : Int) ∧ t ≤ na ∧ Hid (DrawsOf W3 wr)) (fun i _ => na - (intOf i).toNat)
      case atStart => exact ⟨0, rfl, Nat.zero_le _, HD⟩
      case round =>
        obtain ⟨t, rfl, htn, HE⟩ := hrel
        rcases Nat.lt_or_ge t na with htl | htg
        · have ti : (t : Int) < na := by omega
          have hta : t < a.length := by rw [← HN.out]; exact htl
          obtain ⟨aoa', capa', hva, -, -, hca⟩ := H3.out.2.1
          injection hva with e1 e2 e3
          subst e1
          obtain ⟨ba, offa, rfl, hbal, hcell⟩ := hca (by omega)
          obtain ⟨u, hu⟩ : ∃ u, u = a[t] := ⟨_, rfl⟩
          have ct : wr.cell? ⟨ba, offa + t, none⟩ = some (.string u) := by rw [HE.out.cell, hcell t hta, hu]
          have hum : has m u = true := has_true ((HM.out.1.2 u).2 (by rw [hu]; exact List.getElem_mem hta))
          have S := has_string 0 gs kvs vvs m u wr (H3.out.1.later (HE.out.below _)) (by have := HM.out.2; omega)
          rw [hum] at S
          have S := Lib.hid S
          clear hcell hca hu e2 e3 hum HD
          go_wp2_with fail
          refine S.out.mono ?_
          rintro e w4 ⟨rfl, hd4⟩
          have HF := Lib.hid (DrawsOf.trans HE.out hd4)
          clear hd4 S ct
          go_wp2_with fail
          exact ⟨⟨t + 1, by simp, by omega, HF⟩, by simp [intOf]; omega⟩
        · have ti : decide ((t : Int) < na) = false := decide_eq_false (by omega)
          obtain rfl : t = na := by omega
          have L := len_string 0 gs kvs vvs m wr (H3.out.1.later (HE.out.below _))
          rw [← HL.out] at L
          have L := Lib.hid L
          go_wp2_with fail
          refine L.out.mono ?_
          rintro e W ⟨rfl, rfl⟩
          clear L
          go_wp2_with fail
          go_ret
          exact ⟨by simp, H3.out.2.2.1.trans ((HE.out.below _).mono H3.out.2.2.1.size)⟩
theorem StrAt.of_row {w : World} {ao : Option Addr} {n cap : Nat} {ss : List ByteArray} (h : StrRow w ao n ss) (hc : n ≤ cap ∧ cap ≤ maxLen) : StrAt w (.slice ao n cap) ss := by
  obtain ⟨rfl, h1, h2, h3⟩ := h
  refine ⟨ao, cap, rfl, hc.1, hc.2, fun hn => ?_⟩
  obtain ⟨b, off, ha, hlt, hcell⟩ := h3 hn
  exact ⟨b, off, ha, hlt, fun i hi => by rw [hcell i hi, List.getD_eq_getElem?_getD, List.getElem?_eq_getElem hi]; rfl⟩
theorem rises_any (a0 : Option Addr) (n0 c0 : Nat) (s0 : List ByteArray) (w : World) (h0 : StrRow w a0 n0 s0) (k0 : n0 ≤ c0 ∧ c0 ≤ maxLen) :
    Calls Tryz.prog 3 #[.slice a0 n0 c0] w fun e w' => e = .returned (.bool true) ∧ Below w.heap.size w w' :=
  set_rises _ _ w (StrAt.of_row h0 k0)
end Go.Proofs.YtckhekkdidfefaaGreat.Set
