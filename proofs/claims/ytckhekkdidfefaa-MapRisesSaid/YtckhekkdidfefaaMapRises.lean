/- reliquarylaw08.MapRises, walked: true. (Layer 08.). -/
import Derived.Test.YtckhekkdidfefaaSetAw
import Derived.Test.YtckhekkdidfefaaSetMC
import Derived.Deep.QuietTactic
import Derived.BigQuiet
namespace Go.Proofs.Ytckhekkdidfefaa.Set
set_option linter.unusedVariables false
open Go.RowKit Go.Sort Go.Lib
/-- A map, wherever its parts lie, all of them from base on. -/
def HasMap (base g : Nat) (L : Row) (W : World) : Prop := ∃ kv vv, SMap W base g kv vv L
theorem HasMap.later {base g : Nat} {L : Row} {W W' : World} (h : HasMap base g L W) (hb : Below W.heap.size W W') : HasMap base g L W' := by
  obtain ⟨kv, vv, hs⟩ := h
  exact ⟨kv, vv, hs.later hb⟩
theorem hm_put {base B g : Nat} {L : Row} {x : ByteArray} {y : Int} {w : World} (h : HasMap base g L w) (hB : B ≤ base) (hBw : B ≤ w.heap.size) (hn : L.length < 1000000) :
    Calls Try.prog 22 #[.pointer (some ⟨g, 0, none⟩), .string x, .int .i64 y] w fun e w' => ∃ b, e = .returned (.bool b) ∧ HasMap base g (mput x y L) w' ∧ Below B w w' := by
  obtain ⟨kv, vv, hs⟩ := h
  refine (map_put base g kv vv L x y w hs hn).mono ?_
  rintro e w' ⟨kv', vv', rfl, hs', hch, -⟩
  exact ⟨_, rfl, ⟨kv', vv', hs'⟩, hch.below hBw fun k hk => Nat.le_trans hB (hs.own hk).1⟩
theorem hm_del {base B g : Nat} {L : Row} {x : ByteArray} {w : World} (h : HasMap base g L w) (hB : B ≤ base) (hBw : B ≤ w.heap.size) (hn : L.length ≤ 1000000) :
    Calls Try.prog 25 #[.pointer (some ⟨g, 0, none⟩), .string x] w fun e w' => ∃ b, e = .returned (.bool b) ∧ HasMap base g (mdel x L) w' ∧ Below B w w' := by
  obtain ⟨kv, vv, hs⟩ := h
  refine (map_del base g kv vv L x w hs hn).mono ?_
  rintro e w' ⟨kv', vv', rfl, hs', hch, -⟩
  exact ⟨_, rfl, ⟨kv', vv', hs'⟩, hch.below hBw fun k hk => Nat.le_trans hB (hs.own hk).1⟩
set_option maxRecDepth 100000 in
set_option maxHeartbeats 8000000 in
theorem map_rises (ao : Option Addr) (n cap : Nat) (f : Nat → Cl) (w : World) (h : CallsAt w ao n f) :
    Calls Try.prog 5 #[.slice ao n cap] w fun e w' => e = .returned (.bool true) ∧ Below w.heap.size w w' := by
  have HA := Lib.hid h
  have hmx : Try.prog.follows .mixedOrders = true := by kernel_rfl
  clear h
  go_enter Try.func5, Try.ntmps5
  go_wp2_with fail
  refine (awake_ w).mono ?_
  rintro e W1 ⟨rfl, hb1⟩
  have H1 := Lib.hid (And.intro (HA.out.later hb1) hb1)
  clear hb1
  cases d1 : decide (200 < (n : Int))
  case true =>
    go_wp2_with fail
    go_ret
    exact ⟨rfl, H1.out.2⟩
  case false =>
  have hn2 : n ≤ 200 := by have := of_decide_eq_false d1; omega
  go_wp2_with fail
  refine (map_new W1).mono ?_
  rintro e W2 ⟨g, kv, vv, rfl, hs, hb⟩
  have H2 := Lib.hid (show HasMap W1.heap.size g (play f 0) W2 ∧ CallsAt W2 ao n f ∧ Below w.heap.size w W2 ∧ Below W1.heap.size W1 W2 from ⟨⟨kv, vv, hs⟩, H1.out.1.later hb, H1.out.2.trans (hb.mono H1.out.2.size), hb⟩)
  have HZ := Lib.hid (And.intro H1.out.2.size hb.size)
  clear hs hb
  go_wp2_with fail
  go_loopw [4] (fun i wr => ∃ k : Nat, i = .int .i64 (k : Int) ∧ k ≤ n ∧ Hid (HasMap W1.heap.size g (play f k) wr ∧ Below W1.heap.size W1 wr)) (fun i _ => n - (intOf i).toNat)
  case atStart => exact ⟨0, rfl, Nat.zero_le _, Lib.hid ⟨H2.out.1, H2.out.2.2.2⟩⟩
  case round =>
    obtain ⟨k, rfl, hkn, HK⟩ := hrel
    rcases Nat.lt_or_ge k n with hlt | hge
    · have ki : (k : Int) < n := by omega
      obtain ⟨b, off, rfl, hblt, hcell⟩ := H1.out.1.2 (by omega)
      obtain ⟨c0, c1, c2⟩ := hcell k hlt
      rw [← HK.out.2.cell hblt] at c0 c1 c2
      obtain ⟨kd, hkd⟩ : ∃ kd, kd = (f k).kind := ⟨_, rfl⟩
      obtain ⟨ky, hky⟩ : ∃ ky, ky = (f k).key := ⟨_, rfl⟩
      obtain ⟨vl, hvl⟩ : ∃ vl, vl = (f k).val := ⟨_, rfl⟩
      rw [← hkd] at c0
      rw [← hky] at c1
      rw [← hvl] at c2
      have HF := Lib.hid (And.intro hkd (And.intro hky hvl))
      have hpl := play_len f k
      clear hcell hkd hky hvl
      cases d3 : (kd == 3)
      · have hbd := ((DrawsOf.refl wr).drew).below wr.heap.size
        have HP := Lib.hid (hm_put (x := ky) (y := vl) (HK.out.1.later hbd) (Nat.le_refl _) HK.out.2.size (by omega))
        have HD := Lib.hid hbd
        clear hbd
        go_wp2_with fail
        go_region_law (first
          | (go_simp; go_at_call 22; refine HP.out.mono ?_
             rintro e w4 ⟨bb, rfl, hm4, hb4⟩
             have H4 := Lib.hid (And.intro hm4 (HK.out.2.trans ((HD.out.mono HK.out.2.size).trans hb4)))
             clear hm4 hb4))
        all_goals
          clear c0 c1 c2
          go_wp2_with fail
          refine ⟨⟨k + 1, by simp, by omega, Lib.hid ?_⟩, by simp [intOf]; omega⟩
          rw [play, if_neg (by rw [← HF.out.1]; simpa using d3), ← HF.out.2.1, ← HF.out.2.2]
          exact H4.out
      · go_wp2_with fail
        refine (hm_del HK.out.1 (Nat.le_refl _) HK.out.2.size (by omega)).mono ?_
        rintro e w4 ⟨bb, rfl, hm4, hb4⟩
        have H4 := Lib.hid (And.intro hm4 (HK.out.2.trans hb4))
        clear hm4 hb4 c0 c1 c2
        go_wp2_with fail
        refine ⟨⟨k + 1, by simp, by omega, Lib.hid ?_⟩, by simp [intOf]; omega⟩
        rw [play, if_pos (by rw [← HF.out.1]; simpa using d3), ← HF.out.2.1]
        exact H4.out
    · have ki : decide ((k : Int) < n) = false := decide_eq_false (by omega)
      obtain rfl : k = n := by omega
      obtain ⟨WA, hWA⟩ : ∃ WA, WA = wr := ⟨_, rfl⟩
      subst hWA
      go_wp2_with fail
      go_loopw [5, 6] (fun c i wr => ∃ k2 : Nat, c = .int .i64 ((cnt f k k2 : Nat) : Int) ∧ i = .int .i64 (k2 : Int) ∧ k2 ≤ k ∧ Hid (DrawsOf WA wr)) (fun _ i _ => k - (intOf i).toNat)
      case atStart => exact ⟨0, rfl, rfl, Nat.zero_le _, Lib.hid (DrawsOf.refl _)⟩
      case round =>
        obtain ⟨k2, rfl, rfl, hk2, HD⟩ := hrel
        obtain ⟨W0, hW0⟩ : ∃ W0, W0 = wr := ⟨_, rfl⟩
        subst hW0
        rcases Nat.lt_or_ge k2 k with hlt | hge
        · have ki2 : (k2 : Int) < k := by omega
          obtain ⟨b, off, rfl, hblt, hcell⟩ := H1.out.1.2 (by omega)
          have HC := Lib.hid (fun W (hd : DrawsOf WA W) j (hj : j < k) => show W.cell? ⟨b, off + j * 3, none⟩ = some (.int .i64 (f j).kind) ∧ W.cell? ⟨b, off + j * 3 + 1, none⟩ = some (.string (f j).key) ∧ W.cell? ⟨b, off + j * 3 + 2, none⟩ = some (.int .i64 (f j).val) from by
            rw [hd.cell, hd.cell, hd.cell, HK.out.2.cell hblt, HK.out.2.cell hblt, HK.out.2.cell hblt]; exact hcell j hj)
          have hcl : cnt f k k2 ≤ k2 := cnt_le f k k2
          obtain ⟨cn, hcn⟩ : ∃ cn, cn = cnt f k k2 := ⟨_, rfl⟩
          obtain ⟨ky, hky⟩ : ∃ ky, ky = (f k2).key := ⟨_, rfl⟩
          rw [← hcn] at hcl ⊢
          have HN := Lib.hid (And.intro hcn hky)
          clear hcell hcn hky
          go_wp2_with fail
          go_loopw [7, 8] (fun q i wr => ∃ (t : Nat) (bl : Bool), q = .bool bl ∧ i = .int .i64 (t : Int) ∧ t ≤ k ∧ k2 + 1 ≤ t ∧ Hid (bl = true ↔ ∃ j, k2 < j ∧ j < t ∧ (f j).key = ky) ∧ Hid (DrawsOf WA wr)) (fun _ i _ => k - (intOf i).toNat)
          case atStart => exact ⟨k2 + 1, false, rfl, by simp, by omega, by omega, Lib.hid (by simp; intro j h1 h2; omega), HD⟩
          case round =>
            obtain ⟨t, bl, rfl, rfl, htk, htk2, HB, HE⟩ := hrel
            rcases Nat.lt_or_ge t k with htl | htg
            · have ti : (t : Int) < k := by omega
              cases bl
              · obtain ⟨-, ct, -⟩ := HC.out _ HE.out t htl
                obtain ⟨-, ck, -⟩ := HC.out _ HE.out k2 hlt
                rw [← HN.out.2] at ck
                obtain ⟨u, hu⟩ : ∃ u, u = (f t).key := ⟨_, rfl⟩
                rw [← hu] at ct
                have HU := Lib.hid hu
                obtain ⟨c, hc⟩ : ∃ c, c = (u.toList == ky.toList) := ⟨_, rfl⟩
                have hcc := hc.symm
                have HCc := Lib.hid hc
                clear hu hc
                go_wp2_with fail
                go_quiet (fail)
                go_wp2_with fail
                refine ⟨⟨t + 1, c, rfl, by simp, by omega, by omega, Lib.hid ?_, Lib.hid (DrawsOf.drewN HE.out nq)⟩, by simp [intOf]; omega⟩
                have hcu : (u.toList == ky.toList) = true ↔ u = ky := by rw [beq_iff_eq, ByteArray.toList_eq, ByteArray.toList_eq]; exact ⟨bytes_inj, fun h => by rw [h]⟩
                rw [HCc.out, hcu]
                constructor
                · intro h
                  exact ⟨t, by omega, by omega, by rw [← HU.out]; exact h⟩
                · rintro ⟨j, h1, h2, h3⟩
                  rcases Nat.lt_or_ge j t with hj | hj
                  · have := HB.out.2 ⟨j, h1, hj, h3⟩
                    cases this
                  · obtain rfl : j = t := by omega
                    rw [HU.out]; exact h3
              · go_wp2_with fail
                go_region
                go_wp2_with fail
                refine ⟨⟨t + 1, true, rfl, by simp, by omega, by omega, Lib.hid ?_, Lib.hid (DrawsOf.drew HE.out)⟩, by simp [intOf]; omega⟩
                obtain ⟨j, h1, h2, h3⟩ := HB.out.1 (by simp)
                exact ⟨fun _ => ⟨j, h1, by omega, h3⟩, fun _ => rfl⟩
            · have ti : decide ((t : Int) < k) = false := decide_eq_false (by omega)
              obtain rfl : k = t := by omega
              cases bl
              · have hl : lastOf f k k2 := fun j h1 h2 e => by
                  have := HB.out.2 ⟨j, h1, h2, e.trans HN.out.2.symm⟩
                  cases this
                have HG := Lib.hid (last_get hlt hl)
                have HLt := Lib.hid hl
                obtain ⟨kv1, vv1, hs⟩ := HK.out.1
                have hpl := play_len f k
                have S := map_get _ g kv1 vv1 (play f k) ky wr (hs.later (HE.out.below _)) (by omega)
                obtain ⟨kd, hkd⟩ : ∃ kd, kd = (f k2).kind := ⟨_, rfl⟩
                obtain ⟨vl, hvl⟩ : ∃ vl, vl = (f k2).val := ⟨_, rfl⟩
                have HF := Lib.hid (And.intro hkd hvl)
                obtain ⟨-, ck, -⟩ := HC.out _ HE.out k2 hlt
                rw [← HN.out.2] at ck
                clear hl hs hpl hkd hvl
                cases d4 : (kd == 3)
                · have hk3 : (f k2).kind ≠ 3 := by rw [← HF.out.1]; exact fun e => by simp [e] at d4
                  rw [has_true (by rw [HN.out.2]; exact HG.out.1.2 hk3), show mget (play f k) ky = vl by rw [HN.out.2, HF.out.2]; exact HG.out.2 hk3] at S
                  have S := Lib.hid S
                  have HA3 := Lib.hid hk3
                  clear hk3
                  go_wp2_with fail
                  refine S.out.mono ?_
                  rintro e w5 ⟨rfl, hd5⟩
                  have hd6 := DrawsOf.trans HE.out hd5
                  obtain ⟨e0, e1, e2⟩ := HC.out _ hd6 k2 hlt
                  rw [← HF.out.1] at e0
                  rw [← HF.out.2] at e2
                  have H6 := Lib.hid hd6
                  clear S hd5 hd6 ck e1
                  have hcn2 : cn ≤ 200 := by omega
                  have d5 : (kd != 3) = true := by rw [bne, d4]; rfl
                  have d6 : (vl != vl) = false := by simp
                  go_wp2_with fail
                  refine ⟨⟨k2 + 1, ?_, by simp, by omega, H6⟩, by simp [intOf]; omega⟩
                  rw [cnt_succ, if_pos (alive_iff.2 ⟨HLt.out, HA3.out⟩), ← HN.out.1]
                  simp
                · have hk3 : (f k2).kind = 3 := by rw [← HF.out.1]; simpa using d4
                  have hno : ¬ ky ∈ ks (play f k) := fun h => (HG.out.1.1 (by rw [← HN.out.2]; exact h)) hk3
                  rw [has_false hno, mget_out hno] at S
                  have S := Lib.hid S
                  have HA3 := Lib.hid hk3
                  clear hk3 hno
                  go_wp2_with fail
                  refine S.out.mono ?_
                  rintro e w5 ⟨rfl, hd5⟩
                  have hd6 := DrawsOf.trans HE.out hd5
                  obtain ⟨e0, e1, e2⟩ := HC.out _ hd6 k2 hlt
                  rw [← HF.out.1] at e0
                  rw [← HF.out.2] at e2
                  have H6 := Lib.hid hd6
                  clear S hd5 hd6 ck e1
                  have d5 : (kd != 3) = false := by rw [bne, d4]; rfl
                  go_wp2_with fail
                  refine ⟨⟨k2 + 1, ?_, by simp, by omega, H6⟩, by simp [intOf]; omega⟩
                  rw [cnt_succ, if_neg (fun h => (alive_iff.1 h).2 HA3.out), ← HN.out.1]
                  rfl
              · go_wp2_with fail
                refine ⟨⟨k2 + 1, ?_, by simp, by omega, HE⟩, by simp [intOf]; omega⟩
                obtain ⟨j, h1, h2, h3⟩ := HB.out.1 (by simp)
                rw [cnt_succ, if_neg (fun h => (alive_iff.1 h).1 j h1 h2 (h3.trans HN.out.2)), ← HN.out.1]
                rfl
        · have ki2 : decide ((k2 : Int) < k) = false := decide_eq_false (by omega)
          obtain rfl : k = k2 := by omega
          obtain ⟨kv1, vv1, hs⟩ := HK.out.1
          have hpl := play_len f k
          have hm0 := hs.later (HD.out.below _)
          have K := map_keys _ g kv1 vv1 (play f k) W0 hm0 (by omega)
          have hca := cnt_all f k
          obtain ⟨n0, hn0⟩ : ∃ n0, n0 = (play f k).length := ⟨_, rfl⟩
          rw [hca, ← hn0]
          rw [← hn0] at K hpl
          have K := Lib.hid K
          have HM := Lib.hid (And.intro hm0 hn0)
          clear hs hm0 hca hn0
          go_wp2_with fail
          refine K.out.mono ?_
          rintro e w5 ⟨v5, rfl, hs5, hb5⟩
          obtain ⟨ao5, cap5, rfl, -, -, -⟩ := hs5.form
          have H5 := Lib.hid (And.intro hs5 (And.intro (HM.out.1.later hb5) (H1.out.2.trans ((HK.out.2.trans ((HD.out.below _).mono HK.out.2.size)).trans (hb5.mono (by have := HK.out.2.size; have := (HD.out.below WA.heap.size).size; omega)) |>.mono H1.out.2.size))))
          clear K hs5 hb5
          go_wp2_with fail
          go_loopw [12] (fun i wr => ∃ t : Nat, i = .int .i64 ((t : Int) + 1) ∧ t ≤ n0 ∧ Hid (DrawsOf w5 wr)) (fun i _ => n0 + 1 - (intOf i).toNat)
          case atStart => exact ⟨0, rfl, Nat.zero_le _, Lib.hid (DrawsOf.refl _)⟩
          case round =>
            obtain ⟨t, rfl, htn, HE⟩ := hrel
            rcases Nat.lt_or_ge (t + 1) n0 with htl | htg
            · have ti : (t : Int) + 1 < n0 := by omega
              rcases H5.out.1.parts with ⟨_, h0⟩ | ⟨b1, off1, cap1', hv, -, hblt1, -, -, hx, -⟩
              · omega
              injection hv with e1 e2 e3
              subst e1
              have hk1 : t < (ks (play f k)).length := by rw [ks_len, ← HM.out.2]; omega
              have hk2' : t + 1 < (ks (play f k)).length := by rw [ks_len, ← HM.out.2]; omega
              obtain ⟨y0, hy0⟩ : ∃ y0, y0 = (ks (play f k))[t] := ⟨_, rfl⟩
              obtain ⟨y1, hy1⟩ : ∃ y1, y1 = (ks (play f k))[t + 1] := ⟨_, rfl⟩
              have c0 : wr.cell? ⟨b1, off1 + t, none⟩ = some (.string y0) := by rw [HE.out.cell, hx t (by omega), scells_get _ t hk1, hy0]
              have c1 : wr.cell? ⟨b1, off1 + (t + 1), none⟩ = some (.string y1) := by rw [HE.out.cell, hx (t + 1) htl, scells_get _ (t + 1) hk2', hy1]
              have hzy : Op.bytesLess y0.toList y1.toList = true := by
                rw [less_lt]
                refine decide_eq_true ?_
                rw [hy0, hy1]
                exact List.pairwise_iff_getElem.1 (play_rise f k) t (t + 1) hk1 hk2' (by omega)
              have tk : (t : Int) < n0 := by omega
              have hwr : IntKind.i64.wrap (t : Int) = (t : Int) := IntWalk.i64_in _ (by omega)
              clear hx hy0 hy1 hk1 hk2' e2 e3
              go_wp2_with fail
              go_quiet (fail)
              go_wp2_with fail
              exact ⟨⟨t + 1, by simp, by omega, Lib.hid (DrawsOf.drewN HE.out nq)⟩, by simp [intOf]; omega⟩
            · have ti : decide ((t : Int) + 1 < n0) = false := decide_eq_false (by omega)
              have L := map_len _ g kv1 vv1 (play f k) wr (H5.out.2.1.later (HE.out.below _))
              rw [← HM.out.2] at L
              have L := Lib.hid L
              go_wp2_with fail
              refine L.out.mono ?_
              rintro e W ⟨rfl, rfl⟩
              clear L
              go_wp2_with fail
              go_ret
              exact ⟨by simp, H5.out.2.2.trans ((HE.out.below _).mono H5.out.2.2.size)⟩
end Go.Proofs.Ytckhekkdidfefaa.Set
