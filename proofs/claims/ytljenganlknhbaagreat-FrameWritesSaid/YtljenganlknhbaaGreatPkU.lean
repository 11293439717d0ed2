/- Several texts in one. (Layer 19.) -/
import Derived.Test.YtljenganlknhbaaGreatPkJ
import Derived.Test.YtljenganlknhbaaGreatPkO
import Derived.Test.YtljenganlknhbaaGreatPkR
/- The reference's digits, walked: Good, value, Digit, Digits, Has. (Layer 10.) -/
namespace Go.Proofs.YtljenganlknhbaaGreat.Tr
set_option linter.unusedVariables false
set_option linter.unusedSimpArgs false
open Go.RowKit Go.Lib
/-- The worth of a digit; -1: it is none. -/
def wth (n : Nat) : Int := if 48 ≤ n ∧ n ≤ 57 then (n : Int) - 48 else if 97 ≤ n ∧ n ≤ 102 then (n : Int) - 87 else -1
theorem wth_neg (n : Nat) : decide (wth n < 0) = !(isDg n) := by
  unfold wth isDg
  by_cases h1 : 48 ≤ n ∧ n ≤ 57
  · rw [if_pos h1]
    simp [h1]
    omega
  · rw [if_neg h1]
    by_cases h2 : 97 ≤ n ∧ n ≤ 102
    · rw [if_pos h2]
      simp [h2]
      omega
    · rw [if_neg h2]
      simp
      omega
theorem wth_sgn : ∀ n : Fin 16, wth (sgn n.val).toNat = (n.val : Int) := by decide
theorem wth_inj {a b : Nat} (ha : isDg a = true) (h : wth a = wth b) : a = b := by
  have hb : isDg b = true := by
    have h1 := wth_neg a
    have h2 := wth_neg b
    rw [ha, h] at h1
    rw [h2] at h1
    simpa using h1
  unfold wth at h
  unfold isDg at ha hb
  simp only [Bool.or_eq_true, Bool.and_eq_true, decide_eq_true_eq] at ha hb
  rcases ha with ha | ha <;> rcases hb with hb | hb
  · rw [if_pos ha, if_pos hb] at h; omega
  · rw [if_pos ha, if_neg (by omega), if_pos hb] at h; omega
  · rw [if_neg (by omega), if_pos ha, if_pos hb] at h; omega
  · rw [if_neg (by omega), if_pos ha, if_neg (by omega), if_pos hb] at h; omega
theorem rgood3_any (s : ByteArray) (w : World) : Calls Tryz.prog 168 #[.string s] w fun e w' => e = .returned (.bool ((s.size : Int) == 32)) ∧ w = w' := by
  go_enter Tryz.func168, Tryz.ntmps168
  go_wp2_with fail
  go_ret
  exact ⟨rfl, rfl⟩
theorem value_any (n : Nat) (hn : n < 256) (w : World) : Calls Tryz.prog 97 #[.int .u8 (n : Int)] w fun e w' => e = .returned (.int .i64 (wth n)) ∧ w = w' := by
  unfold wth
  by_cases h1 : 48 ≤ n
  · have a1 : (48 : Int) ≤ (n : Int) := by omega
    by_cases h2 : n ≤ 57
    · have a2 : (n : Int) ≤ 57 := by omega
      rw [if_pos ⟨h1, h2⟩]
      have a3 : IntKind.u8.wrap ((n : Int) - 48) = (n : Int) - 48 := IntWalk.u8_in _ (by omega)
      have a4 : IntKind.i64.wrap ((n : Int) - 48) = (n : Int) - 48 := IntWalk.i64_in _ (by omega)
      clear h1 h2 hn
      go_enter Tryz.func97, Tryz.ntmps97
      go_wp2_with fail
      go_ret
      exact ⟨rfl, rfl⟩
    · have a2 : ¬ (n : Int) ≤ 57 := by omega
      have a2' : decide ((n : Int) ≤ 57) = false := decide_eq_false a2
      rw [if_neg (by omega)]
      by_cases h3 : 97 ≤ n
      · have a5 : (97 : Int) ≤ (n : Int) := by omega
        by_cases h4 : n ≤ 102
        · have a6 : (n : Int) ≤ 102 := by omega
          rw [if_pos ⟨h3, h4⟩]
          have a3 : IntKind.u8.wrap ((n : Int) - 97) = (n : Int) - 97 := IntWalk.u8_in _ (by omega)
          have a4 : IntKind.i64.wrap ((n : Int) - 97) = (n : Int) - 97 := IntWalk.i64_in _ (by omega)
          have a7 : IntKind.i64.wrap ((n : Int) - 97 + 10) = (n : Int) - 87 := by rw [IntWalk.i64_in _ (by omega)]; omega
          clear h1 h2 h3 h4 hn
          go_enter Tryz.func97, Tryz.ntmps97
          go_wp2_with fail
          go_ret
          exact ⟨rfl, rfl⟩
        · have a6 : ¬ (n : Int) ≤ 102 := by omega
          have a6' : decide ((n : Int) ≤ 102) = false := decide_eq_false a6
          rw [if_neg (by omega)]
          clear h1 h2 h3 h4 hn
          go_enter Tryz.func97, Tryz.ntmps97
          go_wp2_with fail
          go_ret
          exact ⟨rfl, rfl⟩
      · have a5 : ¬ (97 : Int) ≤ (n : Int) := by omega
        have a5' : decide ((97 : Int) ≤ (n : Int)) = false := decide_eq_false a5
        rw [if_neg (by omega)]
        clear h1 h2 h3 hn
        go_enter Tryz.func97, Tryz.ntmps97
        go_wp2_with fail
        go_ret
        exact ⟨rfl, rfl⟩
  · have a1 : ¬ (48 : Int) ≤ (n : Int) := by omega
    have a1' : decide ((48 : Int) ≤ (n : Int)) = false := decide_eq_false a1
    have a5 : ¬ (97 : Int) ≤ (n : Int) := by omega
    have a5' : decide ((97 : Int) ≤ (n : Int)) = false := decide_eq_false a5
    rw [if_neg (by omega), if_neg (by omega)]
    clear h1 hn
    go_enter Tryz.func97, Tryz.ntmps97
    go_wp2_with fail
    go_ret
    exact ⟨rfl, rfl⟩
theorem rdigit_any (id : ByteArray) (i : Nat) (hi : i < 64) (h1 : id.size = 32) (w : World) : Calls Tryz.prog 169 #[.string id, .int .i64 (i : Int)] w fun e w' => e = .returned (.int .i64 (nib id i : Int)) ∧ w = w' := by
  have G := Lib.hid (rgood3_any id w)
  have g : ((id.size : Int) == 32) = true := by simp; omega
  rw [g] at G
  have k0 : decide ((i : Int) < 0) = false := decide_eq_false (by omega)
  have k0' : ¬ ((i : Int) < 0) := by omega
  have k1 : decide ((63 : Int) < (i : Int)) = false := decide_eq_false (by omega)
  have k1' : ¬ ((63 : Int) < (i : Int)) := by omega
  obtain ⟨k, hk⟩ : ∃ k, k = i / 2 := ⟨_, rfl⟩
  have kd : (i : Int).tdiv 2 = (k : Int) := by rw [Int.tdiv_eq_ediv_of_nonneg (by omega)]; omega
  have l3 : k < id.size := by omega
  obtain ⟨c, hc⟩ : ∃ c, c = id[k]'l3 := ⟨_, rfl⟩
  have x1 := hc.symm
  have x2 := c.toNat_lt
  have hn : nib id i = if i % 2 = 0 then c.toNat / 16 else c.toNat % 16 := by
    unfold nib
    rw [← hk, getElem!_pos id k l3, hc]
  rw [hn]
  have x8 : wrap64 (k : Int) = (k : Int) := IntWalk.wrap64_in _ (by omega)
  have x3 : wrap64 (c.toNat : Int) = (c.toNat : Int) := IntWalk.wrap64_in _ (by omega)
  have x4 : IntKind.i64.wrap (c.toNat : Int) = (c.toNat : Int) := IntWalk.i64_in _ (by omega)
  have x5 : wrap64 ((c.toNat : Int) / 16) = (c.toNat : Int) / 16 := IntWalk.wrap64_in _ (by omega)
  have x6 : IntKind.i64.wrap ((c.toNat : Int).tdiv 16) = ((c.toNat / 16 : Nat) : Int) := by rw [Int.tdiv_eq_ediv_of_nonneg (by omega), IntWalk.i64_in _ (by omega)]; omega
  have x7 : (c.toNat : Int).tmod 16 = ((c.toNat % 16 : Nat) : Int) := by rw [Int.tmod_eq_emod_of_nonneg (by omega)]; omega
  rcases Nat.mod_two_eq_zero_or_one i with h3 | h3
  · rw [if_pos h3]
    have km : (i : Int).tmod 2 = 0 := by rw [Int.tmod_eq_emod_of_nonneg (by omega)]; omega
    clear hn hc hk h3 h1 hi x2
    go_enter Tryz.func169, Tryz.ntmps169
    go_wp2_with fail
    refine G.out.mono ?_
    rintro e w1 ⟨rfl, rfl⟩
    clear G
    go_wp2_with fail
    go_ret
    exact ⟨by first | rfl | (simp; done) | (simp [x5]; done), rfl⟩
  · rw [if_neg (by omega)]
    have km : (i : Int).tmod 2 = 1 := by rw [Int.tmod_eq_emod_of_nonneg (by omega)]; omega
    clear hn hc hk h3 h1 hi x2
    go_enter Tryz.func169, Tryz.ntmps169
    go_wp2_with fail
    refine G.out.mono ?_
    rintro e w1 ⟨rfl, rfl⟩
    clear G
    go_wp2_with fail
    go_ret
    exact ⟨by first | rfl | (simp; done) | (simp [x5]; done), rfl⟩
theorem pfx_of (p : ByteArray) (h : p.size ≤ 64) : pfxB p = dgOk p := by unfold pfxB; rw [decide_eq_true h, Bool.true_and]
theorem rdigits_any (p : ByteArray) (hp : (p.size : Int) ≤ 9223372036854775807) (w : World) : Calls Tryz.prog 36 #[.string p] w fun e w' => e = .returned (.bool (pfxB p)) ∧ w = w' := by
  by_cases h64 : p.size ≤ 64
  · have k0 : ¬ ((64 : Int) < (p.size : Int)) := by omega
    have k0' : decide ((64 : Int) < (p.size : Int)) = false := decide_eq_false k0
    rw [pfx_of p h64]
    go_enter Tryz.func36, Tryz.ntmps36
    go_wp2_with fail
    clear k0 k0'
    go_loopw [3] (fun c wr => ∃ k : Nat, c = .int .i64 (k : Int) ∧ k ≤ p.size ∧ Hid (∀ j (h : j < p.size), j < k → isDg (p[j]'h).toNat = true) ∧ w = wr) (fun c _ => ((p.size : Int) - RowKit.intOf c).toNat)
    case atStart => exact ⟨0, rfl, by omega, Lib.hid fun j _ h => absurd h (by omega), rfl⟩
    case round =>
      obtain ⟨k, rfl, hk, HK, rfl⟩ := hrel
      rcases Nat.lt_or_ge k p.size with h3 | h3
      · have k1 : (k : Int) < p.size := by omega
        have k1' : decide ((k : Int) < p.size) = true := decide_eq_true k1
        have kw : IntKind.i64.wrap ((k : Int) + 1) = ((k + 1 : Nat) : Int) := IntWalk.i64_in _ (by omega)
        obtain ⟨c, hc⟩ : ∃ c, c = p[k]'h3 := ⟨_, rfl⟩
        have x1 := hc.symm
        have V := Lib.hid (value_any c.toNat c.toNat_lt w)
        have hw := wth_neg c.toNat
        have HC := Lib.hid hc
        obtain ⟨q, hq⟩ : ∃ q, q = isDg c.toNat := ⟨_, rfl⟩
        rw [← hq] at hw
        have HQ := Lib.hid hq
        obtain ⟨z, hz⟩ : ∃ z, z = wth c.toNat := ⟨_, rfl⟩
        rw [← hz] at V hw
        clear hz hq hc
        cases q with
        | true =>
          have z1 : decide (z < 0) = false := hw
          have z2 : ¬ z < 0 := of_decide_eq_false z1
          clear hw
          go_wp2_with fail
          refine V.out.mono ?_
          rintro e w1 ⟨rfl, rfl⟩
          clear V
          go_wp2_with fail
          refine ⟨⟨k + 1, by simp, by omega, Lib.hid fun j h hj => ?_, by first | rfl | trivial⟩, ?_⟩
          · rcases Nat.lt_or_ge j k with h4 | h4
            · exact HK.out j h h4
            · obtain rfl : j = k := by omega
              rw [← HC.out, ← HQ.out]
          · simp [RowKit.intOf]
            omega
        | false =>
          have z1 : decide (z < 0) = true := hw
          have z2 : z < 0 := of_decide_eq_true z1
          clear hw
          go_wp2_with fail
          refine V.out.mono ?_
          rintro e w1 ⟨rfl, rfl⟩
          clear V
          go_wp2_with fail
          go_ret
          refine ⟨?_, rfl⟩
          congr 2
          cases hh : dgOk p with
          | false => rfl
          | true =>
            have := dgOk_iff.1 hh k h3
            rw [← HC.out, ← HQ.out] at this
            cases this
      · have k1 : decide ((k : Int) < p.size) = false := decide_eq_false (by omega)
        have k2 : ¬ ((k : Int) < p.size) := by omega
        go_wp2_with fail
        go_ret
        refine ⟨?_, rfl⟩
        rw [show dgOk p = true from dgOk_iff.2 fun j h => HK.out j h (by omega)]
        rfl
  · have k0 : (64 : Int) < (p.size : Int) := by omega
    have k0' : decide ((64 : Int) < (p.size : Int)) = true := decide_eq_true k0
    have e : pfxB p = false := by unfold pfxB; rw [decide_eq_false h64, Bool.false_and]
    rw [e]
    clear e h64 hp
    go_enter Tryz.func36, Tryz.ntmps36
    go_wp2_with fail
    go_ret
    exact ⟨rfl, rfl⟩
theorem rhas_any (id p : ByteArray) (hp : (p.size : Int) ≤ 9223372036854775807) (w : World) : Calls Tryz.prog 141 #[.string id, .string p] w fun e w' => e = .returned (.bool (hasB id p)) ∧ w = w' := by
  have G := Lib.hid (rgood3_any id w)
  have D := Lib.hid (rdigits_any p hp w)
  by_cases h1 : id.size = 32
  · have g : ((id.size : Int) == 32) = true := by simp; omega
    rw [g] at G
    cases hq : pfxB p with
    | false =>
      have e : hasB id p = false := by
        cases hh : hasB id p with
        | false => rfl
        | true =>
          have h2 := has_dg hh
          rw [pfx_of p (hasB_iff.1 hh).2.1] at hq
          rw [h2] at hq
          cases hq
      rw [e]
      rw [hq] at D
      clear g h1 hp hq e
      go_enter Tryz.func141, Tryz.ntmps141
      go_wp2_with fail
      refine G.out.mono ?_
      rintro e w1 ⟨rfl, rfl⟩
      clear G
      go_wp2_with fail
      refine D.out.mono ?_
      rintro e w1 ⟨rfl, rfl⟩
      clear D
      go_wp2_with fail
      go_ret
      exact ⟨rfl, rfl⟩
    | true =>
      rw [hq] at D
      have hpz : p.size ≤ 64 := by
        unfold pfxB at hq
        rw [Bool.and_eq_true] at hq
        exact of_decide_eq_true hq.1
      have HDG := Lib.hid (show dgOk p = true by rw [← pfx_of p hpz]; exact hq)
      have HS := Lib.hid h1
      clear g hp hq h1
      go_enter Tryz.func141, Tryz.ntmps141
      go_wp2_with fail
      refine G.out.mono ?_
      rintro e w1 ⟨rfl, rfl⟩
      clear G
      go_wp2_with fail
      refine D.out.mono ?_
      rintro e w1 ⟨rfl, rfl⟩
      clear D
      go_wp2_with fail
      go_loopw [5] (fun c wr => ∃ k : Nat, c = .int .i64 (k : Int) ∧ k ≤ p.size ∧ Hid (∀ j (h : j < p.size), j < k → p[j]'h = sgn (nib id j)) ∧ w = wr) (fun c _ => ((p.size : Int) - RowKit.intOf c).toNat)
      case atStart => exact ⟨0, rfl, by omega, Lib.hid fun j _ h => absurd h (by omega), rfl⟩
      case round =>
        obtain ⟨k, rfl, hk, HK, rfl⟩ := hrel
        rcases Nat.lt_or_ge k p.size with h3 | h3
        · have k1 : (k : Int) < p.size := by omega
          have k1' : decide ((k : Int) < p.size) = true := decide_eq_true k1
          have kw : IntKind.i64.wrap ((k : Int) + 1) = ((k + 1 : Nat) : Int) := IntWalk.i64_in _ (by omega)
          obtain ⟨c, hc⟩ : ∃ c, c = p[k]'h3 := ⟨_, rfl⟩
          have x1 := hc.symm
          have V := Lib.hid (value_any c.toNat c.toNat_lt w)
          have DI := Lib.hid (rdigit_any id k (by omega) HS.out w)
          have HC := Lib.hid hc
          have hdg : isDg c.toNat = true := by rw [hc]; exact dgOk_iff.1 HDG.out k h3
          have hkey : wth c.toNat = (nib id k : Int) → c = sgn (nib id k) := fun h => by
            rw [← wth_sgn ⟨nib id k, nib_lt id k⟩] at h
            exact UInt8.toNat_inj.1 (wth_inj hdg h)
          have hkey2 : c = sgn (nib id k) → wth c.toNat = (nib id k : Int) := fun h => by
            rw [h]
            exact wth_sgn ⟨nib id k, nib_lt id k⟩
          obtain ⟨z, hz⟩ : ∃ z, z = wth c.toNat := ⟨_, rfl⟩
          rw [← hz] at V hkey hkey2
          obtain ⟨n, hn⟩ : ∃ n : Int, n = (nib id k : Int) := ⟨_, rfl⟩
          rw [← hn] at DI hkey hkey2
          have HKY := Lib.hid (And.intro hkey hkey2)
          clear hz hc hdg hn hkey hkey2
          by_cases hzn : z = n
          · have z1 : (z != n) = false := by simp [hzn]
            have HZ := Lib.hid hzn
            clear hzn
            go_wp2_with fail
            refine V.out.mono ?_
            rintro e w1 ⟨rfl, rfl⟩
            clear V
            go_wp2_with fail
            refine DI.out.mono ?_
            rintro e w1 ⟨rfl, rfl⟩
            clear DI
            go_wp2_with fail
            refine ⟨⟨k + 1, by simp, by omega, Lib.hid fun j h hj => ?_, by first | rfl | trivial⟩, ?_⟩
            · rcases Nat.lt_or_ge j k with h4 | h4
              · exact HK.out j h h4
              · obtain rfl : j = k := by omega
                rw [← HC.out]
                exact HKY.out.1 HZ.out
            · simp [RowKit.intOf]
              omega
          · have z1 : (z != n) = true := by simp [hzn]
            have HZ := Lib.hid hzn
            clear hzn
            go_wp2_with fail
            refine V.out.mono ?_
            rintro e w1 ⟨rfl, rfl⟩
            clear V
            go_wp2_with fail
            refine DI.out.mono ?_
            rintro e w1 ⟨rfl, rfl⟩
            clear DI
            go_wp2_with fail
            go_ret
            refine ⟨?_, rfl⟩
            congr 2
            cases hh : hasB id p with
            | false => rfl
            | true =>
              have := (hasB_iff.1 hh).2.2 k h3
              rw [← HC.out] at this
              exact absurd (HKY.out.2 this) HZ.out
        · have k1 : decide ((k : Int) < p.size) = false := decide_eq_false (by omega)
          have k2 : ¬ ((k : Int) < p.size) := by omega
          go_wp2_with fail
          go_ret
          refine ⟨?_, rfl⟩
          rw [show hasB id p = true from hasB_iff.2 ⟨HS.out, hpz, fun j h => HK.out j h (by omega)⟩]
          rfl
  · have g : ((id.size : Int) == 32) = false := by simp; omega
    rw [g] at G
    have e : hasB id p = false := by
      cases hh : hasB id p with
      | false => rfl
      | true => exact absurd (hasB_iff.1 hh).1 h1
    rw [e]
    clear g h1 hp e D
    go_enter Tryz.func141, Tryz.ntmps141
    go_wp2_with fail
    refine G.out.mono ?_
    rintro e w1 ⟨rfl, rfl⟩
    clear G
    go_wp2_with fail
    go_ret
    exact ⟨rfl, rfl⟩
end Go.Proofs.YtljenganlknhbaaGreat.Tr

/- The reference's sets, walked: Set, Below, joined. (Layer 10.) -/
namespace Go.Proofs.YtljenganlknhbaaGreat.Tr
set_option linter.unusedVariables false
set_option linter.unusedSimpArgs false
open Go.RowKit Go.Lib
open Set (StrAt scells El Rise)
theorem catL_snoc' (l : List ByteArray) (x : ByteArray) : catL (l ++ [x]) = catL l ++ x.data.toList := by simp [catL]
theorem catL_take {l : List ByteArray} {k : Nat} (hk : k < l.length) : catL (l.take (k + 1)) = catL (l.take k) ++ (l[k]!).data.toList := by
  rw [List.take_add_one, List.getElem?_eq_getElem hk, getElem!_pos l k hk]
  exact catL_snoc' _ _
set_option maxRecDepth 100000 in
set_option maxHeartbeats 1000000 in
theorem rset_any (v : Value) (l : List ByteArray) (w : World) (h : StrAt w v l) (hn : l.length ≤ 1000000) : Calls Tryz.prog 38 #[v] w fun e w' => e = .returned (.bool (holds (IsSet l))) ∧ Below w.heap.size w w' := by
  have HS := Lib.hid h
  obtain ⟨ao, cap, rfl, h1, h2, -⟩ := h
  obtain ⟨n, hln⟩ : ∃ n, n = l.length := ⟨_, rfl⟩
  rw [← hln] at HS hn h1 ⊢
  have HL := Lib.hid hln
  clear hln
  go_enter Tryz.func38, Tryz.ntmps38
  go_wp2_with fail
  go_loopw [3] (fun c wr => ∃ k : Nat, c = .int .i64 (k : Int) ∧ k ≤ n ∧ Hid (Below w.heap.size w wr ∧ UpTo l k)) (fun c _ => ((n : Int) - RowKit.intOf c).toNat)
  case atStart => exact ⟨0, rfl, by omega, Lib.hid ⟨Below.refl _ _, fun j hj => by omega⟩⟩
  case round =>
    obtain ⟨k, rfl, hk, HK⟩ := hrel
    rcases Nat.lt_or_ge k n with h3 | h3
    · have k1 : (k : Int) < n := by omega
      have kw : IntKind.i64.wrap ((k : Int) + 1) = ((k + 1 : Nat) : Int) := IntWalk.i64_in _ (by omega)
      obtain ⟨b, off, hao, hlt, hc⟩ := strAt_at HS.out (by omega)
      subst hao
      have c0 := hc k h3
      rw [← HK.out.1.cell hlt] at c0
      obtain ⟨x, hx⟩ : ∃ x, x = l[k]! := ⟨_, rfl⟩
      rw [← hx] at c0
      by_cases hz : x.size = 32
      · have g : ((x.size : Int) != 32) = false := by simp; omega
        rcases Nat.eq_zero_or_pos k with k0 | k0
        · have HX := Lib.hid (And.intro hx (And.intro hz k0))
          have c0' : wr.cell? ⟨b, off, none⟩ = some (.string x) := by rw [k0] at c0; simpa using c0
          have k2 : decide ((k : Int) > 0) = false := decide_eq_false (by omega)
          have k3 : decide ((0 : Int) < (k : Int)) = false := decide_eq_false (by omega)
          have k4 : decide (0 < k) = false := decide_eq_false (by omega)
          clear hc hx k0
          go_upto_region 4 with (fail)
          clear k1
          have k1 : (k : Int) < n := by omega
          go_quiet (fail)
          go_wp2_with fail
          refine ⟨⟨k + 1, by simp, by omega, Lib.hid ⟨below_drewN HK.out.1 nq, HK.out.2.one ?_ fun h => ?_⟩⟩, ?_⟩
          · rw [← HX.out.1]; exact HX.out.2.1
          · have := HX.out.2.2; omega
          · simp [RowKit.intOf]
            omega
        · have k2 : (0 : Int) < (k : Int) := by omega
          have k2' : decide ((0 : Int) < (k : Int)) = true := decide_eq_true k2
          have k6 : decide (0 < k) = true := decide_eq_true k0
          obtain ⟨p, hp⟩ : ∃ p, k = p + 1 := ⟨k - 1, by omega⟩
          have kp : (k : Int) - 1 = (p : Int) := by omega
          have kpw : IntKind.i64.wrap ((k : Int) - 1) = (p : Int) := by rw [kp]; exact IntWalk.i64_in _ (by omega)
          have c1 := hc p (by omega)
          rw [← HK.out.1.cell hlt] at c1
          obtain ⟨y, hy⟩ : ∃ y, y = l[p]! := ⟨_, rfl⟩
          rw [← hy] at c1
          have k5 : (p : Int) < n := by omega
          obtain ⟨q, hq⟩ : ∃ q, q = Op.bytesLess y.toList x.toList := ⟨_, rfl⟩
          have hq2 := hq.symm
          have HX := Lib.hid (And.intro hx (And.intro hz (And.intro hp (And.intro hy hq))))
          clear hc hx k0 hp hy hq
          cases q with
          | true =>
            go_upto_region 4 with (fail)
            go_quiet (fail)
            go_wp2_with fail
            refine ⟨⟨k + 1, by simp, by omega, Lib.hid ⟨below_drewN HK.out.1 nq, HK.out.2.one ?_ fun h => ?_⟩⟩, ?_⟩
            · rw [← HX.out.1]; exact HX.out.2.1
            · have hq := HX.out.2.2.2.2
              rw [Set.less_lt] at hq
              rw [← HX.out.1, show k - 1 = p by have := HX.out.2.2.1; omega, ← HX.out.2.2.2.1]
              exact of_decide_eq_true hq.symm
            · simp [RowKit.intOf]
              omega
          | false =>
            go_upto_region 4 with (fail)
            go_quiet (fail)
            go_wp2_with fail
            go_ret
            refine ⟨?_, below_drewN HK.out.1 nq⟩
            rw [holds_false]
            · rfl
            · intro hS
              have h5 := (hS k (by rw [← HL.out]; exact h3)).2 (by have := HX.out.2.2.1; omega)
              have hq := HX.out.2.2.2.2
              rw [Set.less_lt] at hq
              rw [← HX.out.1, show k - 1 = p by have := HX.out.2.2.1; omega, ← HX.out.2.2.2.1] at h5
              rw [decide_eq_true h5] at hq
              cases hq
      · have g : ((x.size : Int) != 32) = true := by simp; omega
        have HX := Lib.hid (And.intro hx hz)
        clear hc hx hz
        go_upto_region 4 with (fail)
        go_quiet (fail)
        go_wp2_with fail
        go_ret
        refine ⟨?_, below_drewN HK.out.1 nq⟩
        rw [holds_false]
        · rfl
        · intro hS
          have := (hS k (by rw [← HL.out]; exact h3)).1
          rw [← HX.out.1] at this
          exact HX.out.2 this
    · have k1 : decide ((k : Int) < n) = false := decide_eq_false (by omega)
      have k2 : ¬ ((k : Int) < n) := by omega
      obtain rfl : k = n := by omega
      go_wp2_with fail
      go_ret
      refine ⟨?_, HK.out.1⟩
      rw [holds_true]
      · rfl
      · unfold IsSet
        rw [← HL.out]
        exact HK.out.2
set_option maxRecDepth 100000 in
set_option maxHeartbeats 1000000 in
theorem rbelow_any (v : Value) (l : List ByteArray) (p : ByteArray) (w : World) (h : StrAt w v l) (hn : l.length ≤ 1000000) (hp : (p.size : Int) ≤ 9223372036854775807) :
    Calls Tryz.prog 98 #[v, .string p] w fun e w' => ∃ u, e = .returned u ∧ SlIs w' w.heap.size 9 1 u (belowL l p).length (scells (belowL l p)) ∧ Below w.heap.size w w' := by
  have HS := Lib.hid h
  obtain ⟨ao, cap, rfl, h1, h2, -⟩ := h
  obtain ⟨n, hln⟩ : ∃ n, n = l.length := ⟨_, rfl⟩
  rw [← hln] at HS hn h1 ⊢
  have HL := Lib.hid hln
  have HP := Lib.hid hp
  clear hln hp
  go_enter Tryz.func98, Tryz.ntmps98
  go_wp2_with fail
  go_loopw [5, 6] (fun u c wr => ∃ k : Nat, c = .int .i64 (k : Int) ∧ k ≤ n ∧ Hid (SlIs wr w.heap.size 9 1 u (belowL (l.take k) p).length (scells (belowL (l.take k) p)) ∧ Below w.heap.size w wr)) (fun _ c _ => ((n : Int) - RowKit.intOf c).toNat)
  case atStart => exact ⟨0, rfl, by omega, Lib.hid ⟨SlIs.made (n := 0) (BlkIs.new _ _ _) (Nat.le_refl _) rfl (by decide), (Below.refl _ _).alloc (Nat.le_refl _) _⟩⟩
  case round =>
    obtain ⟨k, rfl, hk, HK⟩ := hrel
    have hbs := HK.out.2.size
    rcases Nat.lt_or_ge k n with h3 | h3
    · have k1 : (k : Int) < n := by omega
      have kw : IntKind.i64.wrap ((k : Int) + 1) = ((k + 1 : Nat) : Int) := IntWalk.i64_in _ (by omega)
      obtain ⟨b, off, hao, hlt, hc⟩ := strAt_at HS.out (by omega)
      subst hao
      have c0 := hc k h3
      rw [← HK.out.2.cell hlt] at c0
      obtain ⟨x, hx⟩ : ∃ x, x = l[k]! := ⟨_, rfl⟩
      rw [← hx] at c0
      have A := Lib.hid (rhas_any x p HP.out wr)
      have ht := below_take (l := l) (p := p) (k := k) (by rw [← HL.out]; exact h3)
      rw [← hx] at ht
      have hml : (belowL (l.take k) p).length ≤ 1000000 := Nat.le_trans (List.length_filter_le _ _) (by rw [List.length_take]; omega)
      obtain ⟨m, hm⟩ : ∃ m, m = belowL (l.take k) p := ⟨_, rfl⟩
      rw [← hm] at ht hml
      have HM := Lib.hid hm
      have HT := Lib.hid ht
      cases hq : hasB x p with
      | false =>
        rw [hq] at A
        have HQ := Lib.hid hq
        clear hc hx ht hq hm
        go_wp2_with fail
        refine A.out.mono ?_
        rintro e w1 ⟨rfl, rfl⟩
        have HN := Lib.hid HK.out
        clear A
        go_wp2_with fail
        refine ⟨⟨k + 1, by simp, by omega, Lib.hid ⟨?_, HN.out.2⟩⟩, ?_⟩
        · have := HT.out
          rw [HQ.out] at this
          simp only [Bool.false_eq_true, if_false] at this
          rw [this, HM.out]
          exact HN.out.1
        · simp [RowKit.intOf]
          omega
      | true =>
        rw [hq] at A
        have HQ := Lib.hid hq
        clear hc hx ht hq hm
        go_wp2_with fail
        refine A.out.mono ?_
        rintro e w1 ⟨rfl, rfl⟩
        have HN := Lib.hid (show SlIs wr w.heap.size 9 1 _ m.length (scells m) ∧ Below w.heap.size w wr from ⟨by rw [HM.out]; exact HK.out.1, HK.out.2⟩)
        have hb1 := HN.out.2.size
        obtain ⟨ao2, cap2, rfl, hnc2, hcm2, hao2⟩ := HN.out.1.form
        clear A
        go_wp2_with (at_builtin
                     refine wpList_append_sl rfl _ _ _ 22 rfl Set.el_string (.slice ao2 m.length cap2) m.length (scells m) rfl (HN.out.1.alloc _) _ 1 [.string x] rfl (SrcIs.own Tryz.underlying22 (SlIs.made (base := 0) (BlkIs.new _ _ _) (Nat.zero_le _) rfl (by decide))) (by intro u hu; rcases List.mem_singleton.1 hu with rfl; rfl) (by unfold maxLen; omega) (by omega) (by simp only [World.size_alloc]; omega) ?_
                     intro v1 w5 hs1 hg1 hat1
                     have H5 := Lib.hid (And.intro hs1 ((HN.out.2.alloc hb1 (.cells #[.string x] 9)).grown hg1 (by simp only [World.size_alloc]; omega) fun j hj => (HN.out.1.lt j hj).1))
                     clear hs1 hg1 hat1 hao2)
        refine ⟨⟨k + 1, by simp, by omega, Lib.hid ⟨?_, H5.out.2⟩⟩, ?_⟩
        · have := HT.out
          rw [HQ.out] at this
          simp only [if_true] at this
          rw [this]
          have e : scells (m ++ [x]) = scells m ++ [.string x] := by simp [scells]
          rw [e, List.length_append]
          exact H5.out.1
        · simp [RowKit.intOf]
          omega
    · have k1 : decide ((k : Int) < n) = false := decide_eq_false (by omega)
      have k2 : ¬ ((k : Int) < n) := by omega
      obtain rfl : k = n := by omega
      go_wp2_with fail
      go_ret
      refine ⟨_, rfl, ?_, HK.out.2⟩
      have := HK.out.1
      rwa [HL.out, List.take_length] at this
set_option maxRecDepth 100000 in
set_option maxHeartbeats 1000000 in
theorem rjoined_any (v : Value) (l : List ByteArray) (w : World) (h : StrAt w v l) (hn : l.length ≤ 1000000) (hs : ∀ x, x ∈ l → x.size = 32) :
    Calls Tryz.prog 100 #[v] w fun e w' => e = .returned (.string ⟨(catL l).toArray⟩) ∧ w = w' := by
  have HS := Lib.hid h
  obtain ⟨ao, cap, rfl, h1, h2, -⟩ := h
  obtain ⟨n, hln⟩ : ∃ n, n = l.length := ⟨_, rfl⟩
  rw [← hln] at HS hn h1 ⊢
  have HL := Lib.hid hln
  have HZ := Lib.hid hs
  clear hln hs
  go_enter Tryz.func100, Tryz.ntmps100
  go_wp2_with fail
  go_loopw [3, 4] (fun s c wr => ∃ j : Nat, c = .int .i64 (j : Int) ∧ j ≤ n ∧ s = .string ⟨(catL (l.take j)).toArray⟩ ∧ w = wr) (fun _ c _ => ((n : Int) - RowKit.intOf c).toNat)
  case atStart => exact ⟨0, rfl, by omega, rfl, rfl⟩
  case round =>
    obtain ⟨j, rfl, hj, rfl, rfl⟩ := hrel
    rcases Nat.lt_or_ge j n with h3 | h3
    · have k1 : (j : Int) < n := by omega
      have kw : IntKind.i64.wrap ((j : Int) + 1) = ((j + 1 : Nat) : Int) := IntWalk.i64_in _ (by omega)
      obtain ⟨b, off, hao, hlt, hc⟩ := strAt_at HS.out (by omega)
      subst hao
      have c0 := hc j h3
      obtain ⟨xs, hxs⟩ : ∃ x, x = l[j]! := ⟨_, rfl⟩
      rw [← hxs] at c0
      have hjl : j < l.length := by rw [← HL.out]; exact h3
      have hct : catL (l.take (j + 1)) = catL (l.take j) ++ xs.data.toList := by rw [hxs]; exact catL_take hjl
      have hxs32 : xs.size = 32 := by rw [hxs, getElem!_pos l j hjl]; exact HZ.out _ (List.getElem_mem hjl)
      obtain ⟨S, hS1⟩ : ∃ S : ByteArray, S = ⟨(catL (l.take j)).toArray⟩ := ⟨_, rfl⟩
      obtain ⟨S', hS2⟩ : ∃ S : ByteArray, S = ⟨(catL (l.take (j + 1))).toArray⟩ := ⟨_, rfl⟩
      have hSS : S ++ xs = S' := by
        rw [hS1, hS2, hct]
        apply ByteArray.ext
        simp
      have hSz : S.size ≤ 1000000000 := by
        rw [hS1]
        have h5 : (catL (l.take j)).length = 32 * (l.take j).length := catL_length fun x hx => HZ.out x (List.mem_of_mem_take hx)
        have h6 : (⟨(catL (l.take j)).toArray⟩ : ByteArray).size = (catL (l.take j)).length := by simp [ByteArray.size]
        rw [h6, h5, List.length_take]
        omega
      have hSf : ¬ (9223372036854775807 < S.size + xs.size) := by omega
      rw [← hS1]
      have HS2 := Lib.hid hS2
      clear hS1 hS2 hct hxs32 hSz hc hxs hjl
      go_wp2_with fail
      refine ⟨⟨j + 1, by simp, by omega, by rw [HS2.out], by first | rfl | trivial⟩, ?_⟩
      simp [RowKit.intOf]
      omega
    · have k1 : decide ((j : Int) < n) = false := decide_eq_false (by omega)
      have k2 : ¬ ((j : Int) < n) := by omega
      obtain rfl : j = n := by omega
      have hkl : l.take j = l := by rw [HL.out]; exact List.take_length
      rw [hkl]
      clear hkl
      go_wp2_with fail
      go_ret
      exact ⟨rfl, rfl⟩
end Go.Proofs.YtljenganlknhbaaGreat.Tr

/- The reference's sums, walked: kids and Sum, one through the other. (Layer 10.) -/
namespace Go.Proofs.YtljenganlknhbaaGreat.Tr
set_option linter.unusedVariables false
set_option linter.unusedSimpArgs false
open Go.RowKit Go.Lib
open Set (StrAt scells El Rise)
end Go.Proofs.YtljenganlknhbaaGreat.Tr

