/- ident.Digit, Hex, Has, walked. (Layer 10.) -/
import Derived.Test.YtjkhmjklmclpoaaGreatTrA
import Derived.Test.YtjkhmjklmclpoaaGreatPath
import Derived.Test.YtjkhmjklmclpoaaGreatBuilder
import Derived.Test.YtjkhmjklmclpoaaGreatMkSet
namespace Go.Proofs.YtjkhmjklmclpoaaGreat.Tr
set_option linter.unusedVariables false
set_option linter.unusedSimpArgs false
open Go.RowKit Go.Lib
/-- A digit of an id. -/
def nib (id : ByteArray) (i : Nat) : Nat := if i % 2 = 0 then (id[i / 2]!).toNat / 16 else (id[i / 2]!).toNat % 16
theorem nib_lt (id : ByteArray) (i : Nat) : nib id i < 16 := by
  unfold nib
  have := (id[i / 2]!).toNat_lt
  split <;> omega
def dgt (id : ByteArray) (i : Nat) : Int := if id.size = 32 ∧ i < 64 then (nib id i : Int) else -1
theorem and_even : ∀ c : Fin 256, bits BinOp.and IntKind.i64 (wrap64 ((c.val : Int) / 16)) 15 = ((c.val / 16 : Nat) : Int) := by decide +kernel
theorem and_odd : ∀ c : Fin 256, bits BinOp.and IntKind.i64 (wrap64 (c.val : Int)) 15 = ((c.val % 16 : Nat) : Int) := by decide +kernel
theorem digit_any (id : ByteArray) (i : Nat) (hi : i ≤ 1000) (w : World) : Calls Tryz.prog 49 #[.string id, .int .i64 (i : Int)] w fun e w' => e = .returned (.int .i64 (dgt id i)) ∧ w = w' := by
  have G := Lib.hid (Path.ident_good id w)
  unfold dgt
  by_cases h1 : id.size = 32
  · have g : ((id.size : Int) == 32) = true := by simp; omega
    rw [g] at G
    have k0 : decide ((i : Int) < 0) = false := decide_eq_false (by omega)
    have k0' : ¬ ((i : Int) < 0) := by omega
    by_cases h2 : i < 64
    · rw [if_pos ⟨h1, h2⟩]
      have k1 : decide (64 ≤ (i : Int)) = false := decide_eq_false (by omega)
      have k1' : ¬ (64 ≤ (i : Int)) := by omega
      obtain ⟨k, hk⟩ : ∃ k, k = i / 2 := ⟨_, rfl⟩
      have kd : (i : Int).tdiv 2 = (k : Int) := by rw [Int.tdiv_eq_ediv_of_nonneg (by omega)]; omega
      have l3 : k < id.size := by omega
      obtain ⟨c, hc⟩ : ∃ c, c = id[k]'l3 := ⟨_, rfl⟩
      have x1 := hc.symm
      have hn : nib id i = if i % 2 = 0 then c.toNat / 16 else c.toNat % 16 := by
        unfold nib
        rw [← hk, getElem!_pos id k l3, hc]
      rw [hn]
      rcases Nat.mod_two_eq_zero_or_one i with h3 | h3
      · rw [if_pos h3]
        have km : (i : Int).tmod 2 = 0 := by rw [Int.tmod_eq_emod_of_nonneg (by omega)]; omega
        clear hn hc hk h3
        go_enter Tryz.func49, Tryz.ntmps49
        go_wp2_with fail
        refine G.out.mono ?_
        rintro e w1 ⟨rfl, rfl⟩
        clear G
        go_wp2_with fail
        go_ret
        exact ⟨by rw [← and_even ⟨c.toNat, c.toNat_lt⟩]; rfl, rfl⟩
      · rw [if_neg (by omega)]
        have km : (i : Int).tmod 2 = 1 := by rw [Int.tmod_eq_emod_of_nonneg (by omega)]; omega
        clear hn hc hk h3
        go_enter Tryz.func49, Tryz.ntmps49
        go_wp2_with fail
        refine G.out.mono ?_
        rintro e w1 ⟨rfl, rfl⟩
        clear G
        go_wp2_with fail
        go_ret
        exact ⟨by rw [← and_odd ⟨c.toNat, c.toNat_lt⟩]; rfl, rfl⟩
    · rw [if_neg fun h => h2 h.2]
      have k1 : (64 : Int) ≤ (i : Int) := by omega
      clear h2
      go_enter Tryz.func49, Tryz.ntmps49
      go_wp2_with fail
      refine G.out.mono ?_
      rintro e w1 ⟨rfl, rfl⟩
      clear G
      go_wp2_with fail
      go_ret
      exact ⟨rfl, rfl⟩
  · rw [if_neg fun h => h1 h.1]
    have g : ((id.size : Int) == 32) = false := by simp; omega
    rw [g] at G
    clear h1 g
    go_enter Tryz.func49, Tryz.ntmps49
    go_wp2_with fail
    refine G.out.mono ?_
    rintro e w1 ⟨rfl, rfl⟩
    clear G
    go_wp2_with fail
    go_ret
    exact ⟨rfl, rfl⟩
/-- The sign of a digit. -/
def sgn (n : Nat) : UInt8 := if n < 10 then UInt8.ofNat (48 + n) else UInt8.ofNat (87 + n)
theorem sgn_digs : ∀ n : Fin 16, ∃ h : n.val < digs.size, digs[n.val]'h = sgn n.val := by decide
/-- The digits of an id. -/
def hexL (id : ByteArray) (k : Nat) : List UInt8 := (List.range k).map fun i => sgn (nib id i)
theorem hexL_snoc (id : ByteArray) (k : Nat) : hexL id k ++ [sgn (nib id k)] = hexL id (k + 1) := by simp [hexL, List.range_succ]
theorem hexL_length (id : ByteArray) (k : Nat) : (hexL id k).length = k := by simp [hexL]
def hexS (id : ByteArray) : ByteArray := ⟨(hexL id 64).toArray⟩
set_option maxRecDepth 100000 in
set_option maxHeartbeats 2000000 in
theorem hex_any (id : ByteArray) (h1 : id.size = 32) (w : World) : Calls Tryz.prog 19 #[.string id] w fun e w' => e = .returned (.string (hexS id)) ∧ Below w.heap.size w w' := by
  have G := Lib.hid (Path.ident_good id w)
  have g : ((id.size : Int) == 32) = true := by simp; omega
  rw [g] at G
  have D := Lib.hid (fun (i : Nat) (hi : i < 64) w => show Calls Tryz.prog 49 #[.string id, .int .i64 (i : Int)] w fun e w' => e = .returned (.int .i64 (nib id i : Int)) ∧ w = w' from by
    have := digit_any id i (by omega) w
    unfold dgt at this
    rwa [if_pos ⟨h1, hi⟩] at this)
  have H0 := Lib.hid (show ∃ W, W = w.alloc (.cells #[.pointer none, .slice none 0 0] 67) ∧ Bld.Is W w.heap.size w.heap.size [] ∧ Below w.heap.size w W from ⟨_, rfl, Bld.Is.new w, (Below.refl _ _).alloc (Nat.le_refl _) _⟩)
  clear g h1
  go_enter Tryz.func19, Tryz.ntmps19
  go_wp2_with fail
  refine G.out.mono ?_
  rintro e w1 ⟨rfl, rfl⟩
  clear G
  go_wp2_with fail
  obtain ⟨W, hW, hI0⟩ := H0.out
  rw [← hW]
  have HI := Lib.hid hI0
  clear hW hI0 H0
  go_loopw [8] (fun c wr => ∃ k : Nat, c = .int .i64 (k : Int) ∧ k ≤ 64 ∧ Hid (Bld.Is wr w.heap.size w.heap.size (hexL id k) ∧ Below w.heap.size w wr)) (fun c _ => ((64 : Int) - intOf c).toNat)
  case atStart => exact ⟨0, rfl, by omega, HI⟩
  case round =>
    obtain ⟨k, rfl, hk, HK⟩ := hrel
    rcases Nat.lt_or_ge k 64 with hk1 | hk1
    · have k1 : (k : Int) < 64 := by omega
      have kw : IntKind.i64.wrap ((k : Int) + 1) = ((k + 1 : Nat) : Int) := IntWalk.i64_in _ (by omega)
      have hbs := HK.out.2.size
      obtain ⟨n, hn⟩ : ∃ n, n = nib id k := ⟨_, rfl⟩
      have Dk := Lib.hid (D.out k hk1 wr)
      rw [← hn] at Dk
      have hn16 : n < 16 := by rw [hn]; exact nib_lt id k
      have n0 : (0 : Int) ≤ (n : Int) := by omega
      have n1 : (n : Int) < 16 := by omega
      obtain ⟨hd, hs⟩ := sgn_digs ⟨n, hn16⟩
      dsimp only at hd hs
      have WB := Lib.hid (Bld.writeByte w.heap.size w.heap.size (hexL id k) (sgn n) wr HK.out.1 (by rw [hexL_length]; omega) hbs)
      have HN := Lib.hid hn
      clear hn
      unfold digs at hd hs
      go_wp2_with fail
      refine Dk.out.mono ?_
      rintro e w2 ⟨rfl, rfl⟩
      clear Dk
      go_wp2_with fail
      refine WB.out.mono ?_
      rintro e w2 ⟨rfl, hi, hb⟩
      have H2 := Lib.hid (show Bld.Is w2 w.heap.size w.heap.size (hexL id (k + 1)) ∧ Below w.heap.size w w2 from ⟨by rw [← hexL_snoc, ← HN.out]; exact hi, HK.out.2.trans hb⟩)
      clear WB hi hb hs hd
      go_wp2_with fail
      refine ⟨⟨k + 1, by simp, by omega, H2⟩, ?_⟩
      simp [intOf]
      omega
    · obtain rfl : k = 64 := by omega
      have S := Lib.hid (Bld.string w.heap.size w.heap.size (hexL id 64) wr HK.out.1 (fun h0 => by have := congrArg List.length h0; rw [hexL_length] at this; simp at this))
      go_wp2_with fail
      refine S.out.mono ?_
      rintro e w2 ⟨rfl, hb⟩
      have HB := Lib.hid (HK.out.2.trans hb)
      clear S hb
      go_wp2_with fail
      go_ret
      exact ⟨rfl, HB.out⟩
/-- Whether an id begins with digits. -/
def hasB (id p : ByteArray) : Bool := decide (id.size = 32) && (decide (p.size ≤ 64) && (List.range p.size).all fun i => p[i]! == sgn (nib id i))
theorem hasB_iff {id p : ByteArray} : hasB id p = true ↔ id.size = 32 ∧ p.size ≤ 64 ∧ ∀ i (h : i < p.size), p[i]'h = sgn (nib id i) := by
  unfold hasB
  simp only [Bool.and_eq_true, decide_eq_true_eq, List.all_eq_true, List.mem_range, beq_iff_eq]
  constructor
  · rintro ⟨h1, h2, h3⟩
    exact ⟨h1, h2, fun i h => by rw [← h3 i h, getElem!_pos p i h]⟩
  · rintro ⟨h1, h2, h3⟩
    exact ⟨h1, h2, fun i h => by rw [getElem!_pos p i h]; exact h3 i h⟩
theorem sgn_dg : ∀ n : Fin 16, isDg (sgn n.val).toNat = true := by decide
theorem has_dg {id p : ByteArray} (h : hasB id p = true) : dgOk p = true := by
  obtain ⟨_, _, h3⟩ := hasB_iff.1 h
  refine dgOk_iff.2 fun k hk => ?_
  rw [h3 k hk]
  exact sgn_dg ⟨nib id k, nib_lt id k⟩
theorem has_prefix (id p : ByteArray) (h1 : id.size = 32) : Lib.hasPrefix (hexS id).data.toList p.data.toList = hasB id p := by
  rw [Bool.eq_iff_iff, hasB_iff]
  have hl : (hexS id).data.toList = hexL id 64 := rfl
  rw [hl]
  unfold Lib.hasPrefix
  rw [List.isPrefixOf_iff_prefix, List.prefix_iff_getElem]
  have hs : p.data.toList.length = p.size := by simp
  constructor
  · rintro ⟨h2, h3⟩
    rw [hexL_length, hs] at h2
    refine ⟨h1, h2, fun i h => ?_⟩
    have := h3 i (by rw [hs]; exact h)
    simp [hexL] at this
    exact this
  · rintro ⟨_, h2, h3⟩
    refine ⟨by rw [hexL_length, hs]; exact h2, fun i h => ?_⟩
    have h4 : i < p.size := by rw [hs] at h; exact h
    have := h3 i h4
    simp [hexL]
    exact this
theorem has_any (id p : ByteArray) (hp : (p.size : Int) ≤ 9223372036854775807) (w : World) : Calls Tryz.prog 20 #[.string id, .string p] w fun e w' => e = .returned (.bool (hasB id p)) ∧ Below w.heap.size w w' := by
  have G := Lib.hid (Path.ident_good id w)
  have D := Lib.hid (fun w => areDigits_any p hp w)
  by_cases h1 : id.size = 32
  · have g : ((id.size : Int) == 32) = true := by simp; omega
    rw [g] at G
    have H := Lib.hid (fun w => hex_any id h1 w)
    have P := Lib.hid (fun w => Tryz.strings_HasPrefix (hexS id) p w)
    rw [has_prefix id p h1] at P
    cases hq : dgOk p with
    | false =>
      have e : hasB id p = false := by
        cases hh : hasB id p with
        | false => rfl
        | true => rw [has_dg hh] at hq; cases hq
      rw [e]
      rw [hq] at D
      clear g h1 hp hq e
      go_enter Tryz.func20, Tryz.ntmps20
      go_wp2_with fail
      refine G.out.mono ?_
      rintro e w1 ⟨rfl, rfl⟩
      clear G
      go_wp2_with fail
      refine (D.out _).mono ?_
      rintro e w1 ⟨rfl, hb⟩
      have HB := Lib.hid hb
      clear D hb
      go_wp2_with fail
      go_ret
      exact ⟨rfl, HB.out⟩
    | true =>
      rw [hq] at D
      obtain ⟨q, hq2⟩ : ∃ q, q = hasB id p := ⟨_, rfl⟩
      rw [← hq2] at P ⊢
      clear g h1 hp hq hq2
      go_enter Tryz.func20, Tryz.ntmps20
      go_wp2_with fail
      refine G.out.mono ?_
      rintro e w1 ⟨rfl, rfl⟩
      clear G
      go_wp2_with fail
      refine (D.out _).mono ?_
      rintro e w1 ⟨rfl, hb⟩
      have HB := Lib.hid hb
      clear D hb
      go_wp2_with fail
      refine (H.out _).mono ?_
      rintro e w2 ⟨rfl, hb⟩
      have HB2 := Lib.hid (HB.out.trans (hb.mono HB.out.size))
      clear H hb
      go_wp2_with fail
      refine (P.out _).mono ?_
      rintro e w3 ⟨rfl, rfl⟩
      clear P
      go_wp2_with fail
      go_ret
      exact ⟨rfl, HB2.out⟩
  · have g : ((id.size : Int) == 32) = false := by simp; omega
    rw [g] at G
    have e : hasB id p = false := by
      cases hh : hasB id p with
      | false => rfl
      | true => exact absurd (hasB_iff.1 hh).1 h1
    rw [e]
    clear g h1 hp e D
    go_enter Tryz.func20, Tryz.ntmps20
    go_wp2_with fail
    refine G.out.mono ?_
    rintro e w1 ⟨rfl, rfl⟩
    clear G
    go_wp2_with fail
    go_ret
    exact ⟨rfl, Below.refl _ _⟩
end Go.Proofs.YtjkhmjklmclpoaaGreat.Tr
