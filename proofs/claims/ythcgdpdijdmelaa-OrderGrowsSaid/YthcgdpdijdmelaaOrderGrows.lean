/- THE LAW OrderGrows, walked: commits that come later change no log. (Layer 11.) -/
import Derived.Test.YthcgdpdijdmelaaOrdG1
import Derived.Test.YthcgdpdijdmelaaOrd18
namespace Go.Proofs.Ythcgdpdijdmelaa.Ord
set_option linter.unusedVariables false
set_option linter.unusedSimpArgs false
open Go.RowKit Go.Sort Go.Lib
theorem FactsAt.fewer {w : World} {ao : Option Addr} {n m : Nat} {f : Nat → Fv} (h : FactsAt w ao n f) (hm : m ≤ n) : FactsAt w ao m f := by
  refine ⟨by have := h.1; omega, fun h0 => ?_, fun i hi => h.2.2 i (by omega)⟩
  obtain ⟨b, off, ha, hl, hc⟩ := h.2.1 (by omega)
  exact ⟨b, off, ha, hl, fun i hi => hc i (by omega)⟩
/-- Both logs are one. -/
theorem grows_same {n m : Nat} {f : Nat → Fv} (h : Grown n f) (hm : m ≤ n) {a : Nat} (ha : a < m) {c d : Int} {L M : List ByteArray} (h1 : LogIs m f (f a).id c L) (h2 : LogIs n f (f a).id d M) : c = 0 ∧ d = 0 ∧ M = L := by
  obtain ⟨rfl, L', rfl, g1⟩ := (h.less hm).log ha h1
  obtain ⟨rfl, M', rfl, g2⟩ := h.log (by omega) h2
  exact ⟨rfl, rfl, by rw [g1.same h hm ha g2]⟩
set_option maxRecDepth 100000 in
set_option maxHeartbeats 4000000 in
theorem grows_any (ao : Option Addr) (n cap : Nat) (f : Nat → Iv) (at_ first : Int) (w : World) (h : IntssAt w ao n f) :
    Calls Try.prog 6 #[.slice ao n cap, .int .i64 at_, .int .i64 first] w fun e w' => e = .returned (.bool true) ∧ Below w.heap.size w w' := by
  have A := Lib.hid (awake w)
  have HI := Lib.hid h
  clear h
  go_enter Try.func6, Try.ntmps6
  go_wp2_with fail
  refine A.out.mono ?_
  rintro e w1 ⟨rfl, hb1⟩
  have HB1 := Lib.hid hb1
  have G := Lib.hid (grown_any ao n cap f w1 (HI.out.later hb1))
  clear A hb1 HI
  go_wp2_with fail
  refine G.out.mono ?_
  rintro e w2 ⟨bo, m, cap2, F, rfl, hmc, hF, hG, hb2⟩
  have HB2 := Lib.hid (HB1.out.trans (hb2.mono HB1.out.size))
  have hm40 := hG.few
  have HF := Lib.hid hF
  have HG := Lib.hid hG
  clear hb2 hF hG G
  rcases Nat.eq_zero_or_pos m with m0 | m0
  · subst m0
    go_wp2_with fail
    go_ret
    exact ⟨rfl, HB2.out⟩
  · have j0 : decide ((m : Int) = 0) = false := decide_eq_false (by omega)
    have j1 : (m : Int) ≠ 0 := by omega
    have ku : IntKind.u64.wrap (m : Int) = (m : Int) := u64_small (by omega)
    obtain ⟨q, hq, hqw⟩ := idx_in first m0 hm40
    obtain ⟨k, hk⟩ : ∃ k, k = q + 1 := ⟨_, rfl⟩
    have kw : IntKind.i64.wrap (1 + (q : Int)) = (k : Int) := by rw [IntWalk.i64_in _ (by omega)]; omega
    have ku2 : IntKind.u64.wrap (k : Int) = (k : Int) := u64_small (by omega)
    have j2 : (k : Int) ≠ 0 := by omega
    have hkm : k ≤ m := by omega
    have j3 : (k : Int) ≤ m := by omega
    have j4 : (k : Int) ≤ cap2 := by omega
    obtain ⟨a, ha, haw⟩ := idx_in at_ (show 0 < k by omega) (by omega)
    have j5 : (a : Int) < m := by omega
    obtain ⟨b, off, hbo, hlt, hcell⟩ := HF.out.2.1 m0
    obtain ⟨s, hs⟩ : ∃ s, s = (F a).id := ⟨_, rfl⟩
    have c0 : w2.cell? ⟨b, off + a * 3, none⟩ = some (.string s) := by rw [hs]; exact (hcell a (by omega)).1
    subst hbo
    have L1 := Lib.hid (log_any (some ⟨b, off, none⟩) k cap2 F s w2 (HF.out.fewer hkm) (by omega) fun i hi => by have := HG.out.np i (by omega); omega)
    have L2 := Lib.hid (fun W (h : FactsAt W (some ⟨b, off, none⟩) m F) => log_any (some ⟨b, off, none⟩) m cap2 F s W h (by omega) fun i hi => by have := HG.out.np i (by omega); omega)
    have HS := Lib.hid (And.intro hs ha)
    clear hq hs ha hcell hk
    go_wp2_with fail
    refine L1.out.mono ?_
    rintro e w3 ⟨c1, P1, ao1, cap3, rfl, hl1, hr1, hb3⟩
    have HB3 := Lib.hid (HB2.out.trans (hb3.mono HB2.out.size))
    have HF3 := Lib.hid (HF.out.later hb3)
    have HR := Lib.hid (And.intro hr1 hl1)
    clear L1 hr1 hl1 hb3 c0
    go_wp2_with fail
    refine (L2.out w3 HF3.out).mono ?_
    rintro e w4 ⟨c2, P2, ao2, cap4, rfl, hl2, hr2, hb4⟩
    have HB4 := Lib.hid (HB3.out.trans (hb4.mono HB3.out.size))
    have h1 := HR.out.2
    rw [HS.out.1] at h1 hl2
    obtain ⟨rfl, rfl, rfl⟩ := grows_same HG.out hkm HS.out.2 h1 hl2
    have HR1 := Lib.hid (HR.out.1.later hb4)
    have HR2 := Lib.hid hr2
    have hp63 := hr2.1
    clear HR h1 hl2 hr2 hb4 L2
    go_wp2_with fail
    go_loopw [14] (fun c wr => ∃ k : Nat, c = .int .i64 (k : Int) ∧ k ≤ P2.length ∧ Hid (Below w4.heap.size w4 wr)) (fun c _ => ((P2.length : Int) - intOf c).toNat)
    case atStart => exact ⟨0, rfl, Nat.zero_le _, Lib.hid (Below.refl _ _)⟩
    case round =>
      obtain ⟨k, rfl, hk, HW⟩ := hrel
      rcases Nat.lt_or_ge k P2.length with h1 | h1
      · have k1 : (k : Int) < P2.length := by omega
        have kw : IntKind.i64.wrap ((k : Int) + 1) = ((k + 1 : Nat) : Int) := IntWalk.i64_in _ (by omega)
        obtain ⟨b1, o1, rfl, lt1, cl1⟩ := HR1.out.2 (by omega)
        obtain ⟨b2, o2, rfl, lt2, cl2⟩ := HR2.out.2 (by omega)
        have d1 := cl1 k h1
        have d2 := cl2 k h1
        obtain ⟨y, hy⟩ : ∃ y, y = P2[k]! := ⟨_, rfl⟩
        dsimp only at d1 d2
        rw [← hy, ← HW.out.cell lt1] at d1
        rw [← hy, ← HW.out.cell lt2] at d2
        have z' : (y.toList == y.toList) = true := by simp
        clear cl1 cl2 hy
        go_wp2_with fail
        go_quiet (fail)
        go_wp2_with fail
        refine ⟨⟨k + 1, by simp, by omega, Lib.hid (below_drewN HW.out _)⟩, ?_⟩
        simp [intOf]
        omega
      · have k1 : decide ((k : Int) < P2.length) = false := decide_eq_false (by omega)
        have k2 : ¬ ((k : Int) < P2.length) := by omega
        go_wp2_with fail
        go_ret
        exact ⟨rfl, HB4.out.trans (HW.out.mono HB4.out.size)⟩
end Go.Proofs.Ythcgdpdijdmelaa.Ord
