/- The reference's digits, walked: Good, value, Digit, Digits, Has. (Layer 10.) -/
import Derived.Test.YtjkhmjklmclpoaaGreatTrC
namespace Go.Proofs.YtjkhmjklmclpoaaGreat.Tr
set_option linter.unusedVariables false
set_option linter.unusedSimpArgs false
open Go.RowKit Go.Lib
/-- The worth of a digit; -1: it is none. -/
def wth (n : Nat) : Int := if 48 ≤ n ∧ n ≤ 57 then (n : Int) - 48 else if 97 ≤ n ∧ n ≤ 102 then (n : Int) - 87 else -1
theorem wth_neg (n : Nat) : decide (wth n < 0) = !(isDg n) := by
  unfold wth isDg
  by_cases h1 : 48 ≤ n ∧ n ≤ 57
  · rw [if_pos h1]
    simp [h1]
    omega
  · rw [if_neg h1]
    by_cases h2 : 97 ≤ n ∧ n ≤ 102
    · rw [if_pos h2]
      simp [h2]
      omega
    · rw [if_neg h2]
      simp
      omega
theorem wth_sgn : ∀ n : Fin 16, wth (sgn n.val).toNat = (n.val : Int) := by decide
theorem wth_inj {a b : Nat} (ha : isDg a = true) (h : wth a = wth b) : a = b := by
  have hb : isDg b = true := by
    have h1 := wth_neg a
    have h2 := wth_neg b
    rw [ha, h] at h1
    rw [h2] at h1
    simpa using h1
  unfold wth at h
  unfold isDg at ha hb
  simp only [Bool.or_eq_true, Bool.and_eq_true, decide_eq_true_eq] at ha hb
  rcases ha with ha | ha <;> rcases hb with hb | hb
  · rw [if_pos ha, if_pos hb] at h; omega
  · rw [if_pos ha, if_neg (by omega), if_pos hb] at h; omega
  · rw [if_neg (by omega), if_pos ha, if_pos hb] at h; omega
  · rw [if_neg (by omega), if_pos ha, if_neg (by omega), if_pos hb] at h; omega
theorem rgood3_any (s : ByteArray) (w : World) : Calls Tryz.prog 90 #[.string s] w fun e w' => e = .returned (.bool ((s.size : Int) == 32)) ∧ w = w' := by
  go_enter Tryz.func90, Tryz.ntmps90
  go_wp2_with fail
  go_ret
  exact ⟨rfl, rfl⟩
theorem value_any (n : Nat) (hn : n < 256) (w : World) : Calls Tryz.prog 64 #[.int .u8 (n : Int)] w fun e w' => e = .returned (.int .i64 (wth n)) ∧ w = w' := by
  unfold wth
  by_cases h1 : 48 ≤ n
  · have a1 : (48 : Int) ≤ (n : Int) := by omega
    by_cases h2 : n ≤ 57
    · have a2 : (n : Int) ≤ 57 := by omega
      rw [if_pos ⟨h1, h2⟩]
      have a3 : IntKind.u8.wrap ((n : Int) - 48) = (n : Int) - 48 := IntWalk.u8_in _ (by omega)
      have a4 : IntKind.i64.wrap ((n : Int) - 48) = (n : Int) - 48 := IntWalk.i64_in _ (by omega)
      clear h1 h2 hn
      go_enter Tryz.func64, Tryz.ntmps64
      go_wp2_with fail
      go_ret
      exact ⟨rfl, rfl⟩
    · have a2 : ¬ (n : Int) ≤ 57 := by omega
      have a2' : decide ((n : Int) ≤ 57) = false := decide_eq_false a2
      rw [if_neg (by omega)]
      by_cases h3 : 97 ≤ n
      · have a5 : (97 : Int) ≤ (n : Int) := by omega
        by_cases h4 : n ≤ 102
        · have a6 : (n : Int) ≤ 102 := by omega
          rw [if_pos ⟨h3, h4⟩]
          have a3 : IntKind.u8.wrap ((n : Int) - 97) = (n : Int) - 97 := IntWalk.u8_in _ (by omega)
          have a4 : IntKind.i64.wrap ((n : Int) - 97) = (n : Int) - 97 := IntWalk.i64_in _ (by omega)
          have a7 : IntKind.i64.wrap ((n : Int) - 97 + 10) = (n : Int) - 87 := by rw [IntWalk.i64_in _ (by omega)]; omega
          clear h1 h2 h3 h4 hn
          go_enter Tryz.func64, Tryz.ntmps64
          go_wp2_with fail
          go_ret
          exact ⟨rfl, rfl⟩
        · have a6 : ¬ (n : Int) ≤ 102 := by omega
          have a6' : decide ((n : Int) ≤ 102) = false := decide_eq_false a6
          rw [if_neg (by omega)]
          clear h1 h2 h3 h4 hn
          go_enter Tryz.func64, Tryz.ntmps64
          go_wp2_with fail
          go_ret
          exact ⟨rfl, rfl⟩
      · have a5 : ¬ (97 : Int) ≤ (n : Int) := by omega
        have a5' : decide ((97 : Int) ≤ (n : Int)) = false := decide_eq_false a5
        rw [if_neg (by omega)]
        clear h1 h2 h3 hn
        go_enter Tryz.func64, Tryz.ntmps64
        go_wp2_with fail
        go_ret
        exact ⟨rfl, rfl⟩
  · have a1 : ¬ (48 : Int) ≤ (n : Int) := by omega
    have a1' : decide ((48 : Int) ≤ (n : Int)) = false := decide_eq_false a1
    have a5 : ¬ (97 : Int) ≤ (n : Int) := by omega
    have a5' : decide ((97 : Int) ≤ (n : Int)) = false := decide_eq_false a5
    rw [if_neg (by omega), if_neg (by omega)]
    clear h1 hn
    go_enter Tryz.func64, Tryz.ntmps64
    go_wp2_with fail
    go_ret
    exact ⟨rfl, rfl⟩
theorem rdigit_any (id : ByteArray) (i : Nat) (hi : i < 64) (h1 : id.size = 32) (w : World) : Calls Tryz.prog 91 #[.string id, .int .i64 (i : Int)] w fun e w' => e = .returned (.int .i64 (nib id i : Int)) ∧ w = w' := by
  have G := Lib.hid (rgood3_any id w)
  have g : ((id.size : Int) == 32) = true := by simp; omega
  rw [g] at G
  have k0 : decide ((i : Int) < 0) = false := decide_eq_false (by omega)
  have k0' : ¬ ((i : Int) < 0) := by omega
  have k1 : decide ((63 : Int) < (i : Int)) = false := decide_eq_false (by omega)
  have k1' : ¬ ((63 : Int) < (i : Int)) := by omega
  obtain ⟨k, hk⟩ : ∃ k, k = i / 2 := ⟨_, rfl⟩
  have kd : (i : Int).tdiv 2 = (k : Int) := by rw [Int.tdiv_eq_ediv_of_nonneg (by omega)]; omega
  have l3 : k < id.size := by omega
  obtain ⟨c, hc⟩ : ∃ c, c = id[k]'l3 := ⟨_, rfl⟩
  have x1 := hc.symm
  have x2 := c.toNat_lt
  have hn : nib id i = if i % 2 = 0 then c.toNat / 16 else c.toNat % 16 := by
    unfold nib
    rw [← hk, getElem!_pos id k l3, hc]
  rw [hn]
  have x8 : wrap64 (k : Int) = (k : Int) := IntWalk.wrap64_in _ (by omega)
  have x3 : wrap64 (c.toNat : Int) = (c.toNat : Int) := IntWalk.wrap64_in _ (by omega)
  have x4 : IntKind.i64.wrap (c.toNat : Int) = (c.toNat : Int) := IntWalk.i64_in _ (by omega)
  have x5 : wrap64 ((c.toNat : Int) / 16) = (c.toNat : Int) / 16 := IntWalk.wrap64_in _ (by omega)
  have x6 : IntKind.i64.wrap ((c.toNat : Int).tdiv 16) = ((c.toNat / 16 : Nat) : Int) := by rw [Int.tdiv_eq_ediv_of_nonneg (by omega), IntWalk.i64_in _ (by omega)]; omega
  have x7 : (c.toNat : Int).tmod 16 = ((c.toNat % 16 : Nat) : Int) := by rw [Int.tmod_eq_emod_of_nonneg (by omega)]; omega
  rcases Nat.mod_two_eq_zero_or_one i with h3 | h3
  · rw [if_pos h3]
    have km : (i : Int).tmod 2 = 0 := by rw [Int.tmod_eq_emod_of_nonneg (by omega)]; omega
    clear hn hc hk h3 h1 hi x2
    go_enter Tryz.func91, Tryz.ntmps91
    go_wp2_with fail
    refine G.out.mono ?_
    rintro e w1 ⟨rfl, rfl⟩
    clear G
    go_wp2_with fail
    go_ret
    exact ⟨by first | rfl | (simp; done) | (simp [x5]; done), rfl⟩
  · rw [if_neg (by omega)]
    have km : (i : Int).tmod 2 = 1 := by rw [Int.tmod_eq_emod_of_nonneg (by omega)]; omega
    clear hn hc hk h3 h1 hi x2
    go_enter Tryz.func91, Tryz.ntmps91
    go_wp2_with fail
    refine G.out.mono ?_
    rintro e w1 ⟨rfl, rfl⟩
    clear G
    go_wp2_with fail
    go_ret
    exact ⟨by first | rfl | (simp; done) | (simp [x5]; done), rfl⟩
theorem pfx_of (p : ByteArray) (h : p.size ≤ 64) : pfxB p = dgOk p := by unfold pfxB; rw [decide_eq_true h, Bool.true_and]
theorem rdigits_any (p : ByteArray) (hp : (p.size : Int) ≤ 9223372036854775807) (w : World) : Calls Tryz.prog 33 #[.string p] w fun e w' => e = .returned (.bool (pfxB p)) ∧ w = w' := by
  by_cases h64 : p.size ≤ 64
  · have k0 : ¬ ((64 : Int) < (p.size : Int)) := by omega
    have k0' : decide ((64 : Int) < (p.size : Int)) = false := decide_eq_false k0
    rw [pfx_of p h64]
    go_enter Tryz.func33, Tryz.ntmps33
    go_wp2_with fail
    clear k0 k0'
    go_loopw [3] (fun c wr => ∃ k : Nat, c = .int .i64 (k : Int) ∧ k ≤ p.size ∧ Hid (∀ j (h : j < p.size), j < k → isDg (p[j]'h).toNat = true) ∧ w = wr) (fun c _ => ((p.size : Int) - intOf c).toNat)
    case atStart => exact ⟨0, rfl, by omega, Lib.hid fun j _ h => absurd h (by omega), rfl⟩
    case round =>
      obtain ⟨k, rfl, hk, HK, rfl⟩ := hrel
      rcases Nat.lt_or_ge k p.size with h3 | h3
      · have k1 : (k : Int) < p.size := by omega
        have k1' : decide ((k : Int) < p.size) = true := decide_eq_true k1
        have kw : IntKind.i64.wrap ((k : Int) + 1) = ((k + 1 : Nat) : Int) := IntWalk.i64_in _ (by omega)
        obtain ⟨c, hc⟩ : ∃ c, c = p[k]'h3 := ⟨_, rfl⟩
        have x1 := hc.symm
        have V := Lib.hid (value_any c.toNat c.toNat_lt w)
        have hw := wth_neg c.toNat
        have HC := Lib.hid hc
        obtain ⟨q, hq⟩ : ∃ q, q = isDg c.toNat := ⟨_, rfl⟩
        rw [← hq] at hw
        have HQ := Lib.hid hq
        obtain ⟨z, hz⟩ : ∃ z, z = wth c.toNat := ⟨_, rfl⟩
        rw [← hz] at V hw
        clear hz hq hc
        cases q with
        | true =>
          have z1 : decide (z < 0) = false := hw
          have z2 : ¬ z < 0 := of_decide_eq_false z1
          clear hw
          go_wp2_with fail
          refine V.out.mono ?_
          rintro e w1 ⟨rfl, rfl⟩
          clear V
          go_wp2_with fail
          refine ⟨⟨k + 1, by simp, by omega, Lib.hid fun j h hj => ?_, by first | rfl | trivial⟩, ?_⟩
          · rcases Nat.lt_or_ge j k with h4 | h4
            · exact HK.out j h h4
            · obtain rfl : j = k := by omega
              rw [← HC.out, ← HQ.out]
          · simp [intOf]
            omega
        | false =>
          have z1 : decide (z < 0) = true := hw
          have z2 : z < 0 := of_decide_eq_true z1
          clear hw
          go_wp2_with fail
          refine V.out.mono ?_
          rintro e w1 ⟨rfl, rfl⟩
          clear V
          go_wp2_with fail
          go_ret
          refine ⟨?_, rfl⟩
          congr 2
          cases hh : dgOk p with
          | false => rfl
          | true =>
            have := dgOk_iff.1 hh k h3
            rw [← HC.out, ← HQ.out] at this
            cases this
      · have k1 : decide ((k : Int) < p.size) = false := decide_eq_false (by omega)
        have k2 : ¬ ((k : Int) < p.size) := by omega
        go_wp2_with fail
        go_ret
        refine ⟨?_, rfl⟩
        rw [show dgOk p = true from dgOk_iff.2 fun j h => HK.out j h (by omega)]
        rfl
  · have k0 : (64 : Int) < (p.size : Int) := by omega
    have k0' : decide ((64 : Int) < (p.size : Int)) = true := decide_eq_true k0
    have e : pfxB p = false := by unfold pfxB; rw [decide_eq_false h64, Bool.false_and]
    rw [e]
    clear e h64 hp
    go_enter Tryz.func33, Tryz.ntmps33
    go_wp2_with fail
    go_ret
    exact ⟨rfl, rfl⟩
theorem rhas_any (id p : ByteArray) (hp : (p.size : Int) ≤ 9223372036854775807) (w : World) : Calls Tryz.prog 65 #[.string id, .string p] w fun e w' => e = .returned (.bool (hasB id p)) ∧ w = w' := by
  have G := Lib.hid (rgood3_any id w)
  have D := Lib.hid (rdigits_any p hp w)
  by_cases h1 : id.size = 32
  · have g : ((id.size : Int) == 32) = true := by simp; omega
    rw [g] at G
    cases hq : pfxB p with
    | false =>
      have e : hasB id p = false := by
        cases hh : hasB id p with
        | false => rfl
        | true =>
          have h2 := has_dg hh
          rw [pfx_of p (hasB_iff.1 hh).2.1] at hq
          rw [h2] at hq
          cases hq
      rw [e]
      rw [hq] at D
      clear g h1 hp hq e
      go_enter Tryz.func65, Tryz.ntmps65
      go_wp2_with fail
      refine G.out.mono ?_
      rintro e w1 ⟨rfl, rfl⟩
      clear G
      go_wp2_with fail
      refine D.out.mono ?_
      rintro e w1 ⟨rfl, rfl⟩
      clear D
      go_wp2_with fail
      go_ret
      exact ⟨rfl, rfl⟩
    | true =>
      rw [hq] at D
      have hpz : p.size ≤ 64 := by
        unfold pfxB at hq
        rw [Bool.and_eq_true] at hq
        exact of_decide_eq_true hq.1
      have HDG := Lib.hid (show dgOk p = true by rw [← pfx_of p hpz]; exact hq)
      have HS := Lib.hid h1
      clear g hp hq h1
      go_enter Tryz.func65, Tryz.ntmps65
      go_wp2_with fail
      refine G.out.mono ?_
      rintro e w1 ⟨rfl, rfl⟩
      clear G
      go_wp2_with fail
      refine D.out.mono ?_
      rintro e w1 ⟨rfl, rfl⟩
      clear D
      go_wp2_with fail
      go_loopw [5] (fun c wr => ∃ k : Nat, c = .int .i64 (k : Int) ∧ k ≤ p.size ∧ Hid (∀ j (h : j < p.size), j < k → p[j]'h = sgn (nib id j)) ∧ w = wr) (fun c _ => ((p.size : Int) - intOf c).toNat)
      case atStart => exact ⟨0, rfl, by omega, Lib.hid fun j _ h => absurd h (by omega), rfl⟩
      case round =>
        obtain ⟨k, rfl, hk, HK, rfl⟩ := hrel
        rcases Nat.lt_or_ge k p.size with h3 | h3
        · have k1 : (k : Int) < p.size := by omega
          have k1' : decide ((k : Int) < p.size) = true := decide_eq_true k1
          have kw : IntKind.i64.wrap ((k : Int) + 1) = ((k + 1 : Nat) : Int) := IntWalk.i64_in _ (by omega)
          obtain ⟨c, hc⟩ : ∃ c, c = p[k]'h3 := ⟨_, rfl⟩
          have x1 := hc.symm
          have V := Lib.hid (value_any c.toNat c.toNat_lt w)
          have DI := Lib.hid (rdigit_any id k (by omega) HS.out w)
          have HC := Lib.hid hc
          have hdg : isDg c.toNat = true := by rw [hc]; exact dgOk_iff.1 HDG.out k h3
          have hkey : wth c.toNat = (nib id k : Int) → c = sgn (nib id k) := fun h => by
            rw [← wth_sgn ⟨nib id k, nib_lt id k⟩] at h
            exact UInt8.toNat_inj.1 (wth_inj hdg h)
          have hkey2 : c = sgn (nib id k) → wth c.toNat = (nib id k : Int) := fun h => by
            rw [h]
            exact wth_sgn ⟨nib id k, nib_lt id k⟩
          obtain ⟨z, hz⟩ : ∃ z, z = wth c.toNat := ⟨_, rfl⟩
          rw [← hz] at V hkey hkey2
          obtain ⟨n, hn⟩ : ∃ n : Int, n = (nib id k : Int) := ⟨_, rfl⟩
          rw [← hn] at DI hkey hkey2
          have HKY := Lib.hid (And.intro hkey hkey2)
          clear hz hc hdg hn hkey hkey2
          by_cases hzn : z = n
          · have z1 : (z != n) = false := by simp [hzn]
            have HZ := Lib.hid hzn
            clear hzn
            go_wp2_with fail
            refine V.out.mono ?_
            rintro e w1 ⟨rfl, rfl⟩
            clear V
            go_wp2_with fail
            refine DI.out.mono ?_
            rintro e w1 ⟨rfl, rfl⟩
            clear DI
            go_wp2_with fail
            refine ⟨⟨k + 1, by simp, by omega, Lib.hid fun j h hj => ?_, by first | rfl | trivial⟩, ?_⟩
            · rcases Nat.lt_or_ge j k with h4 | h4
              · exact HK.out j h h4
              · obtain rfl : j = k := by omega
                rw [← HC.out]
                exact HKY.out.1 HZ.out
            · simp [intOf]
              omega
          · have z1 : (z != n) = true := by simp [hzn]
            have HZ := Lib.hid hzn
            clear hzn
            go_wp2_with fail
            refine V.out.mono ?_
            rintro e w1 ⟨rfl, rfl⟩
            clear V
            go_wp2_with fail
            refine DI.out.mono ?_
            rintro e w1 ⟨rfl, rfl⟩
            clear DI
            go_wp2_with fail
            go_ret
            refine ⟨?_, rfl⟩
            congr 2
            cases hh : hasB id p with
            | false => rfl
            | true =>
              have := (hasB_iff.1 hh).2.2 k h3
              rw [← HC.out] at this
              exact absurd (HKY.out.2 this) HZ.out
        · have k1 : decide ((k : Int) < p.size) = false := decide_eq_false (by omega)
          have k2 : ¬ ((k : Int) < p.size) := by omega
          go_wp2_with fail
          go_ret
          refine ⟨?_, rfl⟩
          rw [show hasB id p = true from hasB_iff.2 ⟨HS.out, hpz, fun j h => HK.out j h (by omega)⟩]
          rfl
  · have g : ((id.size : Int) == 32) = false := by simp; omega
    rw [g] at G
    have e : hasB id p = false := by
      cases hh : hasB id p with
      | false => rfl
      | true => exact absurd (hasB_iff.1 hh).1 h1
    rw [e]
    clear g h1 hp e D
    go_enter Tryz.func65, Tryz.ntmps65
    go_wp2_with fail
    refine G.out.mono ?_
    rintro e w1 ⟨rfl, rfl⟩
    clear G
    go_wp2_with fail
    go_ret
    exact ⟨rfl, rfl⟩
end Go.Proofs.YtjkhmjklmclpoaaGreat.Tr
