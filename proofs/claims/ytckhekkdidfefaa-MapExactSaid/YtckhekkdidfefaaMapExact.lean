/- reliquarylaw08.MapExact, walked: true. (Layer 08.) -/
import Derived.Test.YtckhekkdidfefaaSetAw
import Derived.Test.YtckhekkdidfefaaSetP7
import Derived.Deep.QuietTactic
import Derived.BigQuiet
namespace Go.Proofs.Ytckhekkdidfefaa.Set
set_option linter.unusedVariables false
open Go.RowKit Go.Sort Go.Lib
/-- Where the going stands. -/
def ExSt (W1 : World) (g : Nat) (ao : Option Addr) (m c : Nat) (wr : World) : Prop := ∃ L, L.length = m ∧ Both W1.heap.size g (.slice ao m c) L wr ∧ Below W1.heap.size W1 wr
theorem mput_len {x : ByteArray} {y : Int} {L : Row} (hr : Rise (ks L)) : (mput x y L).length ≤ L.length + 1 := by
  rw [← ks_len, ks_put hr]
  have := ins_le x (ks L)
  rwa [ks_len] at this
theorem mdel_len {x : ByteArray} {L : Row} : (mdel x L).length ≤ L.length := by
  by_cases hx : x ∈ ks L
  · rw [mdel_in hx]; exact List.length_eraseIdx_le _ _
  · rw [mdel_out hx]; exact Nat.le_refl _
set_option maxRecDepth 100000 in
set_option maxHeartbeats 8000000 in
theorem map_exact (ao : Option Addr) (n cap : Nat) (f : Nat → Cl) (w : World) (h : CallsAt w ao n f) :
    Calls Try.prog 4 #[.slice ao n cap] w fun e w' => e = .returned (.bool true) ∧ Below w.heap.size w w' := by
  have HA := Lib.hid h
  clear h
  go_enter Try.func4, Try.ntmps4
  go_wp2_with fail
  refine (awake_ w).mono ?_
  rintro e W1 ⟨rfl, hb1⟩
  have H1 := Lib.hid (And.intro (HA.out.later hb1) hb1)
  clear hb1
  go_wp2_with fail
  refine (map_new W1).mono ?_
  rintro e W2 ⟨g, kv, vv, rfl, hs, hb⟩
  have hz0 : PairOff (Own_ g kv vv) (W2.alloc (.cells #[] 50)) (.slice (some ⟨W2.heap.size, 0, none⟩) 0 0) [] := ⟨_, _, rfl, Nat.le_refl _, by decide, fun h => absurd h (Nat.lt_irrefl _)⟩
  have H2 := Lib.hid (show ExSt W1 g (some ⟨W2.heap.size, 0, none⟩) 0 0 (W2.alloc (.cells #[] 50)) from ⟨[], rfl, ⟨kv, vv, hs.later ((Below.refl _ _).alloc (Nat.le_refl _) _), hz0⟩, hb.alloc hb.size _⟩)
  have HS1 := Lib.hid H1.out.2.size
  clear hs hb hz0
  go_wp2_with fail
  go_loopw [4, 5] (fun p i wr => ∃ (k m c : Nat) (ao1 : Option Addr), p = .slice ao1 m c ∧ i = .int .i64 (k : Int) ∧ k ≤ n ∧ k ≤ 200 ∧ m ≤ k ∧ Hid (ExSt W1 g ao1 m c wr)) (fun _ i _ => n - (intOf i).toNat)
  case atStart => exact ⟨0, 0, 0, _, rfl, rfl, Nat.zero_le _, Nat.zero_le _, Nat.zero_le _, H2⟩
  case round =>
    obtain ⟨k, m, c, ao1, rfl, rfl, hkn, hk2, hmk, HK⟩ := hrel
    clear H2
    by_cases hgo : k < n ∧ k < 200
    · obtain ⟨hlt, hl2⟩ := hgo
      have ki : (k : Int) < n := by omega
      have kj : (k : Int) < 200 := by omega
      obtain ⟨b, off, rfl, hblt, hcell⟩ := H1.out.1.2 (by omega)
      obtain ⟨c0, c1, c2⟩ := hcell k hlt
      obtain ⟨L, hL, hB, hW⟩ := HK.out
      rw [← hW.cell hblt] at c0 c1 c2
      obtain ⟨kd, hkd⟩ : ∃ kd, kd = (f k).kind := ⟨_, rfl⟩
      obtain ⟨ky, hky⟩ : ∃ ky, ky = (f k).key := ⟨_, rfl⟩
      obtain ⟨vl, hvl⟩ : ∃ vl, vl = (f k).val := ⟨_, rfl⟩
      rw [← hkd] at c0
      rw [← hky] at c1
      rw [← hvl] at c2
      obtain ⟨W3, hW3⟩ : ∃ W3, W3 = wr.alloc (.cells #[.int .i64 kd, .string ky, .int .i64 vl] 37) := ⟨_, rfl⟩
      have hb3 : Below wr.heap.size wr W3 := by rw [hW3]; exact (Below.refl _ _).alloc (Nat.le_refl _) _
      have k3 : BlkIs W3 wr.heap.size 37 #[.int .i64 kd, .string ky, .int .i64 vl] := by rw [hW3]; exact BlkIs.new _ _ _
      have B3 := hB.below hb3 (Nat.le_refl _)
      have G := ref_get (.slice ao1 m c) L ky W3 B3.pairs B3.rise (by omega)
      obtain ⟨mv, hmv⟩ : ∃ mv, mv = mget L ky := ⟨_, rfl⟩
      obtain ⟨hv, hhv⟩ : ∃ hv, hv = has (ks L) ky := ⟨_, rfl⟩
      rw [← hmv, ← hhv] at G
      have G := Lib.hid G
      have HX := Lib.hid (show L.length = m ∧ Both W1.heap.size g (.slice ao1 m c) L wr ∧ Below W1.heap.size W1 wr ∧ Below wr.heap.size wr W3 ∧ BlkIs W3 wr.heap.size 37 #[.int .i64 kd, .string ky, .int .i64 vl] ∧ Both W1.heap.size g (.slice ao1 m c) L W3 from ⟨hL, hB, hW, hb3, k3, B3⟩)
      have HV := Lib.hid (And.intro hmv hhv)
      have d0 : W3.cell? ⟨wr.heap.size, 0, none⟩ = some (.int .i64 kd) := k3.cell 0
      have d1 : W3.cell? ⟨wr.heap.size, 1, none⟩ = some (.string ky) := k3.cell 1
      have d2 : W3.cell? ⟨wr.heap.size, 2, none⟩ = some (.int .i64 vl) := k3.cell 2
      have HW3 := Lib.hid hW3
      clear hcell hkd hky hvl hb3 k3 B3 hmv hhv hL hB hW hW3
      obtain ⟨g3, hg3⟩ : ∃ g3, g3 = wr.heap.size := ⟨_, rfl⟩
      have HG3 := Lib.hid hg3
      rw [← hg3] at d0 d1 d2
      have e0 : (mv != mv) = false := by simp
      have e1 : (hv != hv) = false := by simp
      have e2 : ((!hv) == hv) = false := by cases hv <;> rfl
      go_wp2_with fail
      rw [← HW3.out, ← HG3.out]
      clear hg3
      refine G.out.mono ?_
      rintro e w' ⟨rfl, rfl⟩
      clear G c0 c1 c2
      cases t1 : (kd == 1)
      case true =>
        obtain rfl : kd = 1 := by simpa using t1
        have P := both_put (x := ky) (y := vl) HX.out.2.1 HX.out.2.2.2.1 (by rw [HX.out.1]; omega) HX.out.2.2.2.2.1 (Nat.le_refl _)
        rw [← HV.out.2, ← HG3.out] at P
        have P := Lib.hid P
        go_wp2_with fail
        refine P.out.mono ?_
        rintro e W4 ⟨rfl, hp4, hb4, k4⟩
        have q1 : W4.cell? ⟨g3, 1, none⟩ = some (.string ky) := k4.cell 1
        have q2 : W4.cell? ⟨g3, 2, none⟩ = some (.int .i64 vl) := k4.cell 2
        have H4 := Lib.hid (show Part W1.heap.size g (.slice ao1 m c) L (mput ky vl L) W4 ∧ Below W1.heap.size W1 W4 from ⟨hp4, (HX.out.2.2.1.trans (HX.out.2.2.2.1.mono HX.out.2.2.1.size)).trans hb4⟩)
        have S := Lib.hid (ref_set (.slice ao1 m c) L ky vl W4 hp4.pairs HX.out.2.1.rise (by rw [HX.out.1]; omega))
        clear hp4 hb4 k4 P d0 d1 d2
        go_wp2_with fail
        refine S.out.mono ?_
        rintro e W5 ⟨v5, rfl, ho5, hb5⟩
        have B5 : Both W1.heap.size g v5 (mput ky vl L) W5 := H4.out.1.join hb5 ho5
        obtain ⟨ao5, c5, rfl⟩ := B5.form
        have hlen := mput_len (x := ky) (y := vl) HX.out.2.1.rise
        rw [HX.out.1] at hlen
        obtain ⟨m5, hm5⟩ : ∃ m5, m5 = (mput ky vl L).length := ⟨_, rfl⟩
        rw [← hm5] at hlen ⊢
        have HM5 := Lib.hid hm5
        have HB5 := Lib.hid B5
        have HW5 := Lib.hid (H4.out.2.trans (hb5.mono H4.out.2.size))
        clear S q1 q2 ho5 hb5 B5 hm5
        go_wp2_with fail
        refine (both_len HB5.out).mono ?_
        rintro e w9 ⟨rfl, rfl⟩
        rw [← HM5.out]
        go_wp2_with fail
        exact ⟨⟨k + 1, m5, c5, ao5, rfl, by simp, by omega, by omega, by omega, Lib.hid ⟨_, HM5.out.symm, by rw [HM5.out]; exact HB5.out, HW5.out⟩⟩, by simp [intOf]; omega⟩
      case false =>
      cases t2 : (kd == 2)
      case true =>
        obtain rfl : kd = 2 := by simpa using t2
        have P := both_get (x := ky) HX.out.2.2.2.2.2 (by rw [HX.out.1]; omega)
        rw [← HV.out.1, ← HV.out.2] at P
        have P := Lib.hid P
        go_wp2_with fail
        refine P.out.mono ?_
        rintro e W5 ⟨rfl, hd⟩
        have HB5 := Lib.hid (HX.out.2.2.2.2.2.below (hd.below W3.heap.size) (Nat.le_refl _))
        have HW5 := Lib.hid ((HX.out.2.2.1.trans (HX.out.2.2.2.1.mono HX.out.2.2.1.size)).trans (hd.below W1.heap.size))
        clear P hd d0 d1 d2
        go_wp2_with fail
        refine (both_len HB5.out).mono ?_
        rintro e w9 ⟨rfl, rfl⟩
        rw [HX.out.1]
        go_wp2_with fail
        exact ⟨⟨k + 1, m, c, ao1, rfl, by simp, by omega, by omega, by omega, Lib.hid ⟨L, HX.out.1, HB5.out, HW5.out⟩⟩, by simp [intOf]; omega⟩
      case false =>
      cases t3 : (kd == 3)
      case true =>
        obtain rfl : kd = 3 := by simpa using t3
        have P := both_del (x := ky) HX.out.2.1 HX.out.2.2.2.1 (by rw [HX.out.1]; omega) HX.out.2.2.2.2.1 (Nat.le_refl _)
        rw [← HV.out.2, ← HG3.out] at P
        have P := Lib.hid P
        go_wp2_with fail
        refine P.out.mono ?_
        rintro e W4 ⟨rfl, hp4, hb4, k4⟩
        have q1 : W4.cell? ⟨g3, 1, none⟩ = some (.string ky) := k4.cell 1
        have H4 := Lib.hid (show Part W1.heap.size g (.slice ao1 m c) L (mdel ky L) W4 ∧ Below W1.heap.size W1 W4 from ⟨hp4, (HX.out.2.2.1.trans (HX.out.2.2.2.1.mono HX.out.2.2.1.size)).trans hb4⟩)
        have S := ref_cut (.slice ao1 m c) L ky W4 hp4.pairs (by rw [HX.out.1]; omega)
        rw [cutL_is HX.out.2.1.rise] at S
        have S := Lib.hid S
        clear hp4 hb4 k4 P d0 d1 d2
        go_wp2_with fail
        refine S.out.mono ?_
        rintro e W5 ⟨v5, rfl, ho5, hb5⟩
        have B5 : Both W1.heap.size g v5 (mdel ky L) W5 := H4.out.1.join hb5 ho5
        obtain ⟨ao5, c5, rfl⟩ := B5.form
        have hlen := mdel_len (x := ky) (L := L)
        rw [HX.out.1] at hlen
        obtain ⟨m5, hm5⟩ : ∃ m5, m5 = (mdel ky L).length := ⟨_, rfl⟩
        rw [← hm5] at hlen ⊢
        have HM5 := Lib.hid hm5
        have HB5 := Lib.hid B5
        have HW5 := Lib.hid (H4.out.2.trans (hb5.mono H4.out.2.size))
        clear S q1 ho5 hb5 B5 hm5
        go_wp2_with fail
        refine (both_len HB5.out).mono ?_
        rintro e w9 ⟨rfl, rfl⟩
        rw [← HM5.out]
        go_wp2_with fail
        exact ⟨⟨k + 1, m5, c5, ao5, rfl, by simp, by omega, by omega, by omega, Lib.hid ⟨_, HM5.out.symm, by rw [HM5.out]; exact HB5.out, HW5.out⟩⟩, by simp [intOf]; omega⟩
      case false =>
      cases t4 : (kd == 4)
      case true =>
        obtain rfl : kd = 4 := by simpa using t4
        have P := Lib.hid (both_goes HX.out.2.2.2.2.2 (by rw [HX.out.1]; omega))
        go_wp2_with fail
        refine P.out.mono ?_
        rintro e W5 ⟨rfl, hb5⟩
        have HB5 := Lib.hid (HX.out.2.2.2.2.2.below hb5 (Nat.le_refl _))
        have HW5 := Lib.hid ((HX.out.2.2.1.trans (HX.out.2.2.2.1.mono HX.out.2.2.1.size)).trans (hb5.mono (Nat.le_trans HX.out.2.2.1.size HX.out.2.2.2.1.size)))
        clear P hb5 d0 d1 d2
        go_wp2_with fail
        refine (both_len HB5.out).mono ?_
        rintro e w9 ⟨rfl, rfl⟩
        rw [HX.out.1]
        go_wp2_with fail
        exact ⟨⟨k + 1, m, c, ao1, rfl, by simp, by omega, by omega, by omega, Lib.hid ⟨L, HX.out.1, HB5.out, HW5.out⟩⟩, by simp [intOf]; omega⟩
      case false =>
        have HB5 := Lib.hid HX.out.2.2.2.2.2
        have HW5 := Lib.hid (HX.out.2.2.1.trans (HX.out.2.2.2.1.mono HX.out.2.2.1.size))
        clear d1 d2
        go_wp2_with fail
        refine (both_len HB5.out).mono ?_
        rintro e w9 ⟨rfl, rfl⟩
        rw [HX.out.1]
        go_wp2_with fail
        exact ⟨⟨k + 1, m, c, ao1, rfl, by simp, by omega, by omega, by omega, Lib.hid ⟨L, HX.out.1, HB5.out, HW5.out⟩⟩, by simp [intOf]; omega⟩
    · obtain ⟨L, hL, hB, hW⟩ := HK.out
      have hB0 := hB
      obtain ⟨kv1, vv1, hs, hp⟩ := hB
      have K := map_keys _ g kv1 vv1 L wr hs (by omega)
      rw [hL] at K
      have K := Lib.hid K
      have HX := Lib.hid (And.intro hL (And.intro hB0 hW))
      clear hL hB0 hW hs hp
      have hks : (decide (k < n) = false) ∨ ((k : Int) < n ∧ (200 : Int) ≤ (k : Int) ∧ ¬ ((k : Int) < 200)) := by
        cases h : decide (k < n)
        · exact Or.inl rfl
        · have := of_decide_eq_true h
          exact Or.inr ⟨by omega, by omega, by omega⟩
      clear hgo
      rcases hks with k1 | ⟨k1, k2, k3⟩
      all_goals
        go_wp2_with fail
        refine K.out.mono ?_
        rintro e W5 ⟨v5, rfl, hs5, hb5⟩
        obtain ⟨ao5, c5, rfl, -, -, -⟩ := hs5.form
        have H5 := Lib.hid (show SlIs W5 wr.heap.size 9 1 (.slice ao5 m c5) m (scells (ks L)) ∧ Both W1.heap.size g (.slice ao1 m c) L W5 ∧ Below W1.heap.size W1 W5 from ⟨hs5, HX.out.2.1.below hb5 (Nat.le_refl _), HX.out.2.2.trans (hb5.mono HX.out.2.2.size)⟩)
        clear K hs5 hb5
        go_wp2_with fail
        go_loopw [12] (fun i wq => ∃ t : Nat, i = .int .i64 (t : Int) ∧ t ≤ m ∧ Hid (DrawsOf W5 wq)) (fun i _ => m - (intOf i).toNat)
        case atStart => exact ⟨0, rfl, Nat.zero_le _, Lib.hid (DrawsOf.refl _)⟩
        case round =>
          obtain ⟨t, rfl, htm, HE⟩ := hrel
          rcases Nat.lt_or_ge t m with htl | htg
          · have ti : (t : Int) < m := by omega
            rcases H5.out.1.parts with ⟨_, h0⟩ | ⟨b1, off1, cap1', hv, -, hblt1, -, -, hx, -⟩
            · omega
            injection hv with a1 a2 a3
            subst a1
            obtain ⟨ao2, cap2, hv2, -, -, hp2⟩ := H5.out.2.1.pairs
            injection hv2 with a4 a5 a6
            subst a4
            obtain ⟨b2, off2, rfl, hblt2, hx2⟩ := hp2 (by rw [HX.out.1]; omega)
            have htL : t < L.length := by rw [HX.out.1]; exact htl
            obtain ⟨y, hy⟩ : ∃ y, y = L[t].1 := ⟨_, rfl⟩
            have c0 : wr.cell? ⟨b1, off1 + t, none⟩ = some (.string y) := by rw [HE.out.cell, hx t htl, scells_get _ t (by rw [ks_len]; exact htL), hy, List.getElem_map]
            have c1 : wr.cell? ⟨b2, off2 + t * 2, none⟩ = some (.string y) := by rw [HE.out.cell, (hx2 t htL).1, hy]
            have e3 : (y.toList != y.toList) = false := by simp
            have e4 : (y.toList == y.toList) = true := by simp
            have hwr : IntKind.i64.wrap (t : Int) = (t : Int) := IntWalk.i64_in _ (by omega)
            clear hx hx2 hy a2 a3 a5 a6 htL
            go_wp2_with fail
            go_quiet (fail)
            go_wp2_with fail
            exact ⟨⟨t + 1, by simp, by omega, Lib.hid (DrawsOf.drewN HE.out nq)⟩, by simp [intOf]; omega⟩
          · have ti : decide ((t : Int) < m) = false := decide_eq_false (by omega)
            have P := Lib.hid (both_goes (H5.out.2.1.below (HE.out.below W5.heap.size) (Nat.le_refl _)) (by rw [HX.out.1]; omega))
            go_wp2_with fail
            refine P.out.mono ?_
            rintro e W6 ⟨rfl, hb6⟩
            have hz := HE.out.below W5.heap.size
            have H6 := Lib.hid (H1.out.2.trans (((H5.out.2.2.trans (hz.mono H5.out.2.2.size)).trans (hb6.mono (Nat.le_trans H5.out.2.2.size hz.size))).mono H1.out.2.size))
            clear P hb6 hz
            go_wp2_with fail
            go_ret
            exact ⟨rfl, H6.out⟩
end Go.Proofs.Ytckhekkdidfefaa.Set
