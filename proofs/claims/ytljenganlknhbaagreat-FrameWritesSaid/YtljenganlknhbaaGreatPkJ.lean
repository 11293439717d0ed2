/- Several texts in one. (Layer 19.) -/
import Derived.Test.YtljenganlknhbaaGreatTrA
import Derived.Test.YtljenganlknhbaaGreatPath
import Derived.Test.YtljenganlknhbaaGreatPkH
import Derived.Test.YtljenganlknhbaaGreatMkSet
import Derived.Test.YtljenganlknhbaaGreatPkD
/- ident.Digit, Hex, Has, walked. (Layer 10.) -/
namespace Go.Proofs.YtljenganlknhbaaGreat.Tr
set_option linter.unusedVariables false
set_option linter.unusedSimpArgs false
open Go.RowKit Go.Lib
/-- A digit of an id. -/
def nib (id : ByteArray) (i : Nat) : Nat := if i % 2 = 0 then (id[i / 2]!).toNat / 16 else (id[i / 2]!).toNat % 16
theorem nib_lt (id : ByteArray) (i : Nat) : nib id i < 16 := by
  unfold nib
  have := (id[i / 2]!).toNat_lt
  split <;> omega
def dgt (id : ByteArray) (i : Nat) : Int := if id.size = 32 ∧ i < 64 then (nib id i : Int) else -1
theorem and_even : ∀ c : Fin 256, bits BinOp.and IntKind.i64 (wrap64 ((c.val : Int) / 16)) 15 = ((c.val / 16 : Nat) : Int) := by decide +kernel
theorem and_odd : ∀ c : Fin 256, bits BinOp.and IntKind.i64 (wrap64 (c.val : Int)) 15 = ((c.val % 16 : Nat) : Int) := by decide +kernel
theorem digit_any (id : ByteArray) (i : Nat) (hi : i ≤ 1000) (w : World) : Calls Tryz.prog 160 #[.string id, .int .i64 (i : Int)] w fun e w' => e = .returned (.int .i64 (dgt id i)) ∧ w = w' := by
  have G := Lib.hid (Path.ident_good id w)
  unfold dgt
  by_cases h1 : id.size = 32
  · have g : ((id.size : Int) == 32) = true := by simp; omega
    rw [g] at G
    have k0 : decide ((i : Int) < 0) = false := decide_eq_false (by omega)
    have k0' : ¬ ((i : Int) < 0) := by omega
    by_cases h2 : i < 64
    · rw [if_pos ⟨h1, h2⟩]
      have k1 : decide (64 ≤ (i : Int)) = false := decide_eq_false (by omega)
      have k1' : ¬ (64 ≤ (i : Int)) := by omega
      obtain ⟨k, hk⟩ : ∃ k, k = i / 2 := ⟨_, rfl⟩
      have kd : (i : Int).tdiv 2 = (k : Int) := by rw [Int.tdiv_eq_ediv_of_nonneg (by omega)]; omega
      have l3 : k < id.size := by omega
      obtain ⟨c, hc⟩ : ∃ c, c = id[k]'l3 := ⟨_, rfl⟩
      have x1 := hc.symm
      have hn : nib id i = if i % 2 = 0 then c.toNat / 16 else c.toNat % 16 := by
        unfold nib
        rw [← hk, getElem!_pos id k l3, hc]
      rw [hn]
      rcases Nat.mod_two_eq_zero_or_one i with h3 | h3
      · rw [if_pos h3]
        have km : (i : Int).tmod 2 = 0 := by rw [Int.tmod_eq_emod_of_nonneg (by omega)]; omega
        clear hn hc hk h3
        go_enter Tryz.func160, Tryz.ntmps160
        go_wp2_with fail
        refine G.out.mono ?_
        rintro e w1 ⟨rfl, rfl⟩
        clear G
        go_wp2_with fail
        go_ret
        exact ⟨by rw [← and_even ⟨c.toNat, c.toNat_lt⟩]; rfl, rfl⟩
      · rw [if_neg (by omega)]
        have km : (i : Int).tmod 2 = 1 := by rw [Int.tmod_eq_emod_of_nonneg (by omega)]; omega
        clear hn hc hk h3
        go_enter Tryz.func160, Tryz.ntmps160
        go_wp2_with fail
        refine G.out.mono ?_
        rintro e w1 ⟨rfl, rfl⟩
        clear G
        go_wp2_with fail
        go_ret
        exact ⟨by rw [← and_odd ⟨c.toNat, c.toNat_lt⟩]; rfl, rfl⟩
    · rw [if_neg fun h => h2 h.2]
      have k1 : (64 : Int) ≤ (i : Int) := by omega
      clear h2
      go_enter Tryz.func160, Tryz.ntmps160
      go_wp2_with fail
      refine G.out.mono ?_
      rintro e w1 ⟨rfl, rfl⟩
      clear G
      go_wp2_with fail
      go_ret
      exact ⟨rfl, rfl⟩
  · rw [if_neg fun h => h1 h.1]
    have g : ((id.size : Int) == 32) = false := by simp; omega
    rw [g] at G
    clear h1 g
    go_enter Tryz.func160, Tryz.ntmps160
    go_wp2_with fail
    refine G.out.mono ?_
    rintro e w1 ⟨rfl, rfl⟩
    clear G
    go_wp2_with fail
    go_ret
    exact ⟨rfl, rfl⟩
/-- The sign of a digit. -/
def sgn (n : Nat) : UInt8 := if n < 10 then UInt8.ofNat (48 + n) else UInt8.ofNat (87 + n)
theorem sgn_digs : ∀ n : Fin 16, ∃ h : n.val < digs.size, digs[n.val]'h = sgn n.val := by decide
/-- The digits of an id. -/
def hexL (id : ByteArray) (k : Nat) : List UInt8 := (List.range k).map fun i => sgn (nib id i)
theorem hexL_snoc (id : ByteArray) (k : Nat) : hexL id k ++ [sgn (nib id k)] = hexL id (k + 1) := by simp [hexL, List.range_succ]
theorem hexL_length (id : ByteArray) (k : Nat) : (hexL id k).length = k := by simp [hexL]
def hexS (id : ByteArray) : ByteArray := ⟨(hexL id 64).toArray⟩
set_option maxRecDepth 100000 in
set_option maxHeartbeats 2000000 in
theorem hex_any (id : ByteArray) (h1 : id.size = 32) (w : World) : Calls Tryz.prog 155 #[.string id] w fun e w' => e = .returned (.string (hexS id)) ∧ Below w.heap.size w w' := by
  have G := Lib.hid (Path.ident_good id w)
  have g : ((id.size : Int) == 32) = true := by simp; omega
  rw [g] at G
  have D := Lib.hid (fun (i : Nat) (hi : i < 64) w => show Calls Tryz.prog 160 #[.string id, .int .i64 (i : Int)] w fun e w' => e = .returned (.int .i64 (nib id i : Int)) ∧ w = w' from by
    have := digit_any id i (by omega) w
    unfold dgt at this
    rwa [if_pos ⟨h1, hi⟩] at this)
  have H0 := Lib.hid (show ∃ W, W = w.alloc (.cells #[.pointer none, .slice none 0 0] 132) ∧ Bld.Is W w.heap.size w.heap.size [] ∧ Below w.heap.size w W from ⟨_, rfl, Bld.Is.new w, (Below.refl _ _).alloc (Nat.le_refl _) _⟩)
  clear g h1
  go_enter Tryz.func155, Tryz.ntmps155
  go_wp2_with fail
  refine G.out.mono ?_
  rintro e w1 ⟨rfl, rfl⟩
  clear G
  go_wp2_with fail
  obtain ⟨W, hW, hI0⟩ := H0.out
  rw [← hW]
  have HI := Lib.hid hI0
  clear hW hI0 H0
  go_loopw [8] (fun c wr => ∃ k : Nat, c = .int .i64 (k : Int) ∧ k ≤ 64 ∧ Hid (Bld.Is wr w.heap.size w.heap.size (hexL id k) ∧ Below w.heap.size w wr)) (fun c _ => ((64 : Int) - RowKit.intOf c).toNat)
  case atStart => exact ⟨0, rfl, by omega, HI⟩
  case round =>
    obtain ⟨k, rfl, hk, HK⟩ := hrel
    rcases Nat.lt_or_ge k 64 with hk1 | hk1
    · have k1 : (k : Int) < 64 := by omega
      have kw : IntKind.i64.wrap ((k : Int) + 1) = ((k + 1 : Nat) : Int) := IntWalk.i64_in _ (by omega)
      have hbs := HK.out.2.size
      obtain ⟨n, hn⟩ : ∃ n, n = nib id k := ⟨_, rfl⟩
      have Dk := Lib.hid (D.out k hk1 wr)
      rw [← hn] at Dk
      have hn16 : n < 16 := by rw [hn]; exact nib_lt id k
      have n0 : (0 : Int) ≤ (n : Int) := by omega
      have n1 : (n : Int) < 16 := by omega
      obtain ⟨hd, hs⟩ := sgn_digs ⟨n, hn16⟩
      dsimp only at hd hs
      have WB := Lib.hid (Bld.writeByte w.heap.size w.heap.size (hexL id k) (sgn n) wr HK.out.1 (by rw [hexL_length]; omega) hbs)
      have HN := Lib.hid hn
      clear hn
      unfold digs at hd hs
      go_wp2_with fail
      refine Dk.out.mono ?_
      rintro e w2 ⟨rfl, rfl⟩
      clear Dk
      go_wp2_with fail
      refine WB.out.mono ?_
      rintro e w2 ⟨rfl, hi, hb⟩
      have H2 := Lib.hid (show Bld.Is w2 w.heap.size w.heap.size (hexL id (k + 1)) ∧ Below w.heap.size w w2 from ⟨by rw [← hexL_snoc, ← HN.out]; exact hi, HK.out.2.trans hb⟩)
      clear WB hi hb hs hd
      go_wp2_with fail
      refine ⟨⟨k + 1, by simp, by omega, H2⟩, ?_⟩
      simp [RowKit.intOf]
      omega
    · obtain rfl : k = 64 := by omega
      have S := Lib.hid (Bld.string w.heap.size w.heap.size (hexL id 64) wr HK.out.1 (fun h0 => by have := congrArg List.length h0; rw [hexL_length] at this; simp at this))
      go_wp2_with fail
      refine S.out.mono ?_
      rintro e w2 ⟨rfl, hb⟩
      have HB := Lib.hid (HK.out.2.trans hb)
      clear S hb
      go_wp2_with fail
      go_ret
      exact ⟨rfl, HB.out⟩
/-- Whether an id begins with digits. -/
def hasB (id p : ByteArray) : Bool := decide (id.size = 32) && (decide (p.size ≤ 64) && (List.range p.size).all fun i => p[i]! == sgn (nib id i))
theorem hasB_iff {id p : ByteArray} : hasB id p = true ↔ id.size = 32 ∧ p.size ≤ 64 ∧ ∀ i (h : i < p.size), p[i]'h = sgn (nib id i) := by
  unfold hasB
  simp only [Bool.and_eq_true, decide_eq_true_eq, List.all_eq_true, List.mem_range, beq_iff_eq]
  constructor
  · rintro ⟨h1, h2, h3⟩
    exact ⟨h1, h2, fun i h => by rw [← h3 i h, getElem!_pos p i h]⟩
  · rintro ⟨h1, h2, h3⟩
    exact ⟨h1, h2, fun i h => by rw [getElem!_pos p i h]; exact h3 i h⟩
theorem sgn_dg : ∀ n : Fin 16, isDg (sgn n.val).toNat = true := by decide
theorem has_dg {id p : ByteArray} (h : hasB id p = true) : dgOk p = true := by
  obtain ⟨_, _, h3⟩ := hasB_iff.1 h
  refine dgOk_iff.2 fun k hk => ?_
  rw [h3 k hk]
  exact sgn_dg ⟨nib id k, nib_lt id k⟩
theorem has_prefix (id p : ByteArray) (h1 : id.size = 32) : Lib.hasPrefix (hexS id).data.toList p.data.toList = hasB id p := by
  rw [Bool.eq_iff_iff, hasB_iff]
  have hl : (hexS id).data.toList = hexL id 64 := rfl
  rw [hl]
  unfold Lib.hasPrefix
  rw [List.isPrefixOf_iff_prefix, List.prefix_iff_getElem]
  have hs : p.data.toList.length = p.size := by simp
  constructor
  · rintro ⟨h2, h3⟩
    rw [hexL_length, hs] at h2
    refine ⟨h1, h2, fun i h => ?_⟩
    have := h3 i (by rw [hs]; exact h)
    simp [hexL] at this
    exact this
  · rintro ⟨_, h2, h3⟩
    refine ⟨by rw [hexL_length, hs]; exact h2, fun i h => ?_⟩
    have h4 : i < p.size := by rw [hs] at h; exact h
    have := h3 i h4
    simp [hexL]
    exact this
theorem has_any (id p : ByteArray) (hp : (p.size : Int) ≤ 9223372036854775807) (w : World) : Calls Tryz.prog 121 #[.string id, .string p] w fun e w' => e = .returned (.bool (hasB id p)) ∧ Below w.heap.size w w' := by
  have G := Lib.hid (Path.ident_good id w)
  have D := Lib.hid (fun w => areDigits_any p hp w)
  by_cases h1 : id.size = 32
  · have g : ((id.size : Int) == 32) = true := by simp; omega
    rw [g] at G
    have H := Lib.hid (fun w => hex_any id h1 w)
    have P := Lib.hid (fun w => Tryz.strings_HasPrefix (hexS id) p w)
    rw [has_prefix id p h1] at P
    cases hq : dgOk p with
    | false =>
      have e : hasB id p = false := by
        cases hh : hasB id p with
        | false => rfl
        | true => rw [has_dg hh] at hq; cases hq
      rw [e]
      rw [hq] at D
      clear g h1 hp hq e
      go_enter Tryz.func121, Tryz.ntmps121
      go_wp2_with fail
      refine G.out.mono ?_
      rintro e w1 ⟨rfl, rfl⟩
      clear G
      go_wp2_with fail
      refine (D.out _).mono ?_
      rintro e w1 ⟨rfl, hb⟩
      have HB := Lib.hid hb
      clear D hb
      go_wp2_with fail
      go_ret
      exact ⟨rfl, HB.out⟩
    | true =>
      rw [hq] at D
      obtain ⟨q, hq2⟩ : ∃ q, q = hasB id p := ⟨_, rfl⟩
      rw [← hq2] at P ⊢
      clear g h1 hp hq hq2
      go_enter Tryz.func121, Tryz.ntmps121
      go_wp2_with fail
      refine G.out.mono ?_
      rintro e w1 ⟨rfl, rfl⟩
      clear G
      go_wp2_with fail
      refine (D.out _).mono ?_
      rintro e w1 ⟨rfl, hb⟩
      have HB := Lib.hid hb
      clear D hb
      go_wp2_with fail
      refine (H.out _).mono ?_
      rintro e w2 ⟨rfl, hb⟩
      have HB2 := Lib.hid (HB.out.trans (hb.mono HB.out.size))
      clear H hb
      go_wp2_with fail
      refine (P.out _).mono ?_
      rintro e w3 ⟨rfl, rfl⟩
      clear P
      go_wp2_with fail
      go_ret
      exact ⟨rfl, HB2.out⟩
  · have g : ((id.size : Int) == 32) = false := by simp; omega
    rw [g] at G
    have e : hasB id p = false := by
      cases hh : hasB id p with
      | false => rfl
      | true => exact absurd (hasB_iff.1 hh).1 h1
    rw [e]
    clear g h1 hp e D
    go_enter Tryz.func121, Tryz.ntmps121
    go_wp2_with fail
    refine G.out.mono ?_
    rintro e w1 ⟨rfl, rfl⟩
    clear G
    go_wp2_with fail
    go_ret
    exact ⟨rfl, Below.refl _ _⟩
end Go.Proofs.YtljenganlknhbaaGreat.Tr

/- trie: isPrefix, isSet, below, leaf, inner, walked. Conditions: at most 1,000,000 ids. (Layer 10.) -/
namespace Go.Proofs.YtljenganlknhbaaGreat.Tr
set_option linter.unusedVariables false
set_option linter.unusedSimpArgs false
open Go.RowKit Go.Lib
open Set (StrAt scells El Rise)
noncomputable def holds (p : Prop) : Bool := @decide p (Classical.propDecidable p)
theorem holds_true {p : Prop} (h : p) : holds p = true := by unfold holds; exact @decide_eq_true p (Classical.propDecidable p) h
theorem holds_false {p : Prop} (h : ¬ p) : holds p = false := by unfold holds; exact @decide_eq_false p (Classical.propDecidable p) h
theorem holds_iff {p : Prop} : holds p = true ↔ p := by unfold holds; exact @decide_eq_true_iff p (Classical.propDecidable p)
/-- Whether a text is digits, 64 at most. -/
def pfxB (p : ByteArray) : Bool := decide (p.size ≤ 64) && dgOk p
set_option maxRecDepth 100000 in
theorem find_nil (p : ByteArray) (hp : (p.size : Int) ≤ 9223372036854775807) (w : World) : Calls Tryz.prog 77 #[.slice none 0 0, .string p] w fun e w' => e = .returned (.tuple #[.string ⟨#[]⟩, .int .i64 (if pfxB p then 12 else 4)]) ∧ Below w.heap.size w w' := by
  have D := Lib.hid (areDigits_any p hp w)
  unfold pfxB
  by_cases h1 : p.size ≤ 64
  · rw [decide_eq_true h1]
    have k1 : decide (64 < (p.size : Int)) = false := decide_eq_false (by omega)
    cases hq : dgOk p with
    | false =>
      rw [hq] at D
      clear hq hp h1
      go_enter Tryz.func77, Tryz.ntmps77
      go_wp2_with fail
      refine D.out.mono ?_
      rintro e w1 ⟨rfl, hb⟩
      have HB := Lib.hid hb
      clear D hb
      go_wp2_with fail
      go_ret2
      exact ⟨rfl, HB.out⟩
    | true =>
      rw [hq] at D
      clear hq hp h1
      go_enter Tryz.func77, Tryz.ntmps77
      go_wp2_with fail
      refine D.out.mono ?_
      rintro e w1 ⟨rfl, hb⟩
      have HB := Lib.hid hb
      clear D hb
      go_wp2_with fail
      go_loopw [6, 19] (fun v c wr => v = .slice none 0 0 ∧ c = .int .i64 0 ∧ wr = w1) (fun _ _ _ => 0)
      case atStart => exact ⟨rfl, rfl, rfl⟩
      case round =>
        obtain ⟨rfl, rfl, rfl⟩ := hrel
        go_wp2_with fail
        go_ret2
        exact ⟨rfl, HB.out⟩
  · rw [decide_eq_false h1]
    have k1 : (64 : Int) < (p.size : Int) := by omega
    clear D hp h1
    go_enter Tryz.func77, Tryz.ntmps77
    go_wp2_with fail
    go_ret2
    exact ⟨rfl, Below.refl _ _⟩
theorem isPrefix_any (p : ByteArray) (hp : (p.size : Int) ≤ 9223372036854775807) (w : World) : Calls Tryz.prog 80 #[.string p] w fun e w' => e = .returned (.bool (pfxB p)) ∧ Below w.heap.size w w' := by
  have F := Lib.hid (find_nil p hp w)
  cases hq : pfxB p with
  | false =>
    rw [hq] at F
    clear hp hq
    go_enter Tryz.func80, Tryz.ntmps80
    go_wp2_with fail
    refine F.out.mono ?_
    rintro e w1 ⟨rfl, hb⟩
    have HB := Lib.hid hb
    clear F hb
    go_wp2_with fail
    go_ret
    exact ⟨rfl, HB.out⟩
  | true =>
    rw [hq] at F
    clear hp hq
    go_enter Tryz.func80, Tryz.ntmps80
    go_wp2_with fail
    refine F.out.mono ?_
    rintro e w1 ⟨rfl, hb⟩
    have HB := Lib.hid hb
    clear F hb
    go_wp2_with fail
    go_ret
    exact ⟨rfl, HB.out⟩
/-- Ids, rising, each once: one by one. -/
def UpTo (l : List ByteArray) (k : Nat) : Prop := ∀ j, j < k → l[j]!.size = 32 ∧ (0 < j → El.lt l[j - 1]! l[j]!)
def IsSet (l : List ByteArray) : Prop := UpTo l l.length
theorem UpTo.one {l : List ByteArray} {k : Nat} (h : UpTo l k) (h1 : l[k]!.size = 32) (h2 : 0 < k → El.lt l[k - 1]! l[k]!) : UpTo l (k + 1) := fun j hj => by
  rcases Nat.lt_or_ge j k with h3 | h3
  · exact h j h3
  · obtain rfl : j = k := by omega
    exact ⟨h1, h2⟩
theorem IsSet.size {l : List ByteArray} (h : IsSet l) {x : ByteArray} (hx : x ∈ l) : x.size = 32 := by
  obtain ⟨i, hi, rfl⟩ := List.getElem_of_mem hx
  have := (h i hi).1
  rwa [getElem!_pos l i hi] at this
theorem IsSet.rise {l : List ByteArray} (h : IsSet l) : Rise l := by
  have key : ∀ d i, i + d + 1 < l.length → El.lt l[i]! l[i + d + 1]! := fun d => by
    induction d with
    | zero =>
      intro i hi
      have := (h (i + 1) (by omega)).2 (by omega)
      simpa using this
    | succ d ih =>
      intro i hi
      have h1 := ih i (by omega)
      have h2 := (h (i + (d + 1) + 1) hi).2 (by omega)
      exact El.tr h1 (by simpa [Nat.add_assoc] using h2)
  refine List.pairwise_iff_getElem.2 fun i j hi hj hij => ?_
  have := key (j - i - 1) i (by omega)
  rw [show i + (j - i - 1) + 1 = j by omega, getElem!_pos l i hi, getElem!_pos l j hj] at this
  exact this
theorem isSet_of {l : List ByteArray} (h1 : Rise l) (h2 : ∀ x, x ∈ l → x.size = 32) : IsSet l := fun j hj => by
  refine ⟨by rw [getElem!_pos l j hj]; exact h2 _ (List.getElem_mem hj), fun h0 => ?_⟩
  rw [getElem!_pos l j hj, getElem!_pos l (j - 1) (by omega)]
  exact List.pairwise_iff_getElem.1 h1 (j - 1) j (by omega) hj (by omega)
theorem isSet_nil : IsSet [] := fun j hj => by simp at hj
theorem strAt_at {w : World} {ao : Option Addr} {n cap : Nat} {l : List ByteArray} (h : StrAt w (.slice ao n cap) l) (hn : 0 < n) : ∃ b off, ao = some ⟨b, off, none⟩ ∧ b < w.heap.size ∧ ∀ i, i < n → w.cell? ⟨b, off + i, none⟩ = some (.string l[i]!) := by
  obtain ⟨ao', cap', hv, h1, h2, h3⟩ := h
  injection hv with e1 e2 e3
  subst e1 e2 e3
  obtain ⟨b, off, ha, hlt, hc⟩ := h3 hn
  exact ⟨b, off, ha, hlt, fun i hi => by rw [hc i hi, getElem!_pos l i hi]⟩
set_option maxRecDepth 100000 in
set_option maxHeartbeats 1000000 in
theorem isSet_any (v : Value) (l : List ByteArray) (w : World) (h : StrAt w v l) (hn : l.length ≤ 1000000) : Calls Tryz.prog 123 #[v] w fun e w' => e = .returned (.bool (holds (IsSet l))) ∧ w = w' := by
  have HS := Lib.hid h
  obtain ⟨ao, cap, rfl, h1, h2, -⟩ := h
  obtain ⟨n, hln⟩ : ∃ n, n = l.length := ⟨_, rfl⟩
  rw [← hln] at HS hn h1 ⊢
  have HL := Lib.hid hln
  clear hln
  go_enter Tryz.func123, Tryz.ntmps123
  go_wp2_with fail
  go_loopw [7] (fun c wr => ∃ k : Nat, c = .int .i64 (k : Int) ∧ k ≤ n ∧ wr = w ∧ Hid (UpTo l k)) (fun c _ => ((n : Int) - RowKit.intOf c).toNat)
  case atStart => exact ⟨0, rfl, by omega, rfl, Lib.hid fun j hj => by omega⟩
  case round =>
    obtain ⟨k, rfl, hk, rfl, HK⟩ := hrel
    rcases Nat.lt_or_ge k n with h3 | h3
    · have k1 : (k : Int) < n := by omega
      have kw : IntKind.i64.wrap ((k : Int) + 1) = ((k + 1 : Nat) : Int) := IntWalk.i64_in _ (by omega)
      obtain ⟨b, off, hao, hlt, hc⟩ := strAt_at HS.out (by omega)
      subst hao
      have c0 := hc k h3
      obtain ⟨x, hx⟩ : ∃ x, x = l[k]! := ⟨_, rfl⟩
      rw [← hx] at c0
      have G := Lib.hid (Path.ident_good x wr)
      by_cases hz : x.size = 32
      · have g : ((x.size : Int) == 32) = true := by simp; omega
        rw [g] at G
        rcases Nat.eq_zero_or_pos k with k0 | k0
        · have HX := Lib.hid (And.intro hx (And.intro hz k0))
          have c0' : wr.cell? ⟨b, off, none⟩ = some (.string x) := by rw [k0] at c0; simpa using c0
          have k2 : decide ((k : Int) > 0) = false := decide_eq_false (by omega)
          have k3 : decide ((0 : Int) < (k : Int)) = false := decide_eq_false (by omega)
          have k4 : decide (0 < k) = false := decide_eq_false (by omega)
          clear hc hx hz g k0
          go_wp2_with fail
          refine G.out.mono ?_
          rintro e _ ⟨rfl, rfl⟩
          clear G
          go_wp2_with fail
          refine ⟨⟨k + 1, by simp, by omega, by simp, Lib.hid (HK.out.one ?_ fun h => ?_)⟩, ?_⟩
          · rw [← HX.out.1]; exact HX.out.2.1
          · have := HX.out.2.2; omega
          · simp [RowKit.intOf]
            omega
        · have k2 : (0 : Int) < (k : Int) := by omega
          obtain ⟨p, hp⟩ : ∃ p, k = p + 1 := ⟨k - 1, by omega⟩
          have kp : (k : Int) - 1 = (p : Int) := by omega
          have kpw : IntKind.i64.wrap ((k : Int) - 1) = (p : Int) := by rw [kp]; exact IntWalk.i64_in _ (by omega)
          have c1 := hc p (by omega)
          obtain ⟨y, hy⟩ : ∃ y, y = l[p]! := ⟨_, rfl⟩
          rw [← hy] at c1
          have k5 : (p : Int) < n := by omega
          obtain ⟨q, hq⟩ : ∃ q, q = Op.bytesLess y.toList x.toList := ⟨_, rfl⟩
          have hq2 := hq.symm
          have HX := Lib.hid (And.intro hx (And.intro hz (And.intro hp (And.intro hy hq))))
          clear hc hx hz g k0 hp hy hq
          go_wp2_with fail
          refine G.out.mono ?_
          rintro e _ ⟨rfl, rfl⟩
          clear G
          cases q with
          | true =>
            go_wp2_with fail
            refine ⟨⟨k + 1, by simp, by omega, by simp, Lib.hid (HK.out.one ?_ fun h => ?_)⟩, ?_⟩
            · rw [← HX.out.1]; exact HX.out.2.1
            · have hq := HX.out.2.2.2.2
              rw [Set.less_lt] at hq
              rw [← HX.out.1, show k - 1 = p by have := HX.out.2.2.1; omega, ← HX.out.2.2.2.1]
              exact of_decide_eq_true hq.symm
            · simp [RowKit.intOf]
              omega
          | false =>
            go_wp2_with fail
            go_ret
            refine ⟨?_, rfl⟩
            rw [holds_false]
            · rfl
            · intro hS
              have h5 := (hS k (by rw [← HL.out]; exact h3)).2 (by have := HX.out.2.2.1; omega)
              have hq := HX.out.2.2.2.2
              rw [Set.less_lt] at hq
              rw [← HX.out.1, show k - 1 = p by have := HX.out.2.2.1; omega, ← HX.out.2.2.2.1] at h5
              rw [decide_eq_true h5] at hq
              cases hq
      · have g : ((x.size : Int) == 32) = false := by simp; omega
        rw [g] at G
        have HX := Lib.hid (And.intro hx hz)
        clear hc hx hz g
        go_wp2_with fail
        refine G.out.mono ?_
        rintro e _ ⟨rfl, rfl⟩
        clear G
        go_wp2_with fail
        go_ret
        refine ⟨?_, rfl⟩
        rw [holds_false]
        · rfl
        · intro hS
          have := (hS k (by rw [← HL.out]; exact h3)).1
          rw [← HX.out.1] at this
          exact HX.out.2 this
    · have k1 : decide ((k : Int) < n) = false := decide_eq_false (by omega)
      have k2 : ¬ ((k : Int) < n) := by omega
      obtain rfl : k = n := by omega
      go_wp2_with fail
      go_ret
      refine ⟨?_, rfl⟩
      rw [holds_true]
      · rfl
      · unfold IsSet
        rw [← HL.out]
        exact HK.out
end Go.Proofs.YtljenganlknhbaaGreat.Tr

/- trie: below, leaf, inner, walked. Conditions: at most 1,000,000 ids. (Layer 10.) -/
namespace Go.Proofs.YtljenganlknhbaaGreat.Tr
set_option linter.unusedVariables false
set_option linter.unusedSimpArgs false
open Go.RowKit Go.Lib
open Set (StrAt scells El Rise)
def belowL (l : List ByteArray) (p : ByteArray) : List ByteArray := l.filter fun x => hasB x p
theorem below_take {l : List ByteArray} {p : ByteArray} {k : Nat} (hk : k < l.length) : belowL (l.take (k + 1)) p = if hasB l[k]! p then belowL (l.take k) p ++ [l[k]!] else belowL (l.take k) p := by
  unfold belowL
  rw [List.take_add_one, List.getElem?_eq_getElem hk, List.filter_append, getElem!_pos l k hk]
  cases hq : hasB l[k] p <;> simp [hq]
set_option maxRecDepth 100000 in
set_option maxHeartbeats 1000000 in
theorem below_any (v : Value) (l : List ByteArray) (p : ByteArray) (w : World) (h : StrAt w v l) (hn : l.length ≤ 1000000) (hp : (p.size : Int) ≤ 9223372036854775807) :
    Calls Tryz.prog 124 #[v, .string p] w fun e w' => ∃ u, e = .returned u ∧ SlIs w' w.heap.size 9 1 u (belowL l p).length (scells (belowL l p)) ∧ Below w.heap.size w w' := by
  have HS := Lib.hid h
  obtain ⟨ao, cap, rfl, h1, h2, -⟩ := h
  obtain ⟨n, hln⟩ : ∃ n, n = l.length := ⟨_, rfl⟩
  rw [← hln] at HS hn h1 ⊢
  have HL := Lib.hid hln
  have HP := Lib.hid hp
  clear hln hp
  go_enter Tryz.func124, Tryz.ntmps124
  go_wp2_with fail
  go_loopw [5, 10] (fun u c wr => ∃ k : Nat, c = .int .i64 (k : Int) ∧ k ≤ n ∧ Hid (SlIs wr w.heap.size 9 1 u (belowL (l.take k) p).length (scells (belowL (l.take k) p)) ∧ Below w.heap.size w wr)) (fun _ c _ => ((n : Int) - RowKit.intOf c).toNat)
  case atStart => exact ⟨0, rfl, by omega, Lib.hid ⟨SlIs.nil_ _ _ _ _, Below.refl _ _⟩⟩
  case round =>
    obtain ⟨k, rfl, hk, HK⟩ := hrel
    have hbs := HK.out.2.size
    rcases Nat.lt_or_ge k n with h3 | h3
    · have k1 : (k : Int) < n := by omega
      have kw : IntKind.i64.wrap ((k : Int) + 1) = ((k + 1 : Nat) : Int) := IntWalk.i64_in _ (by omega)
      obtain ⟨b, off, hao, hlt, hc⟩ := strAt_at HS.out (by omega)
      subst hao
      have c0 := hc k h3
      rw [← HK.out.2.cell hlt] at c0
      obtain ⟨x, hx⟩ : ∃ x, x = l[k]! := ⟨_, rfl⟩
      rw [← hx] at c0
      have A := Lib.hid (has_any x p HP.out wr)
      have ht := below_take (l := l) (p := p) (k := k) (by rw [← HL.out]; exact h3)
      rw [← hx] at ht
      have hml : (belowL (l.take k) p).length ≤ 1000000 := Nat.le_trans (List.length_filter_le _ _) (by rw [List.length_take]; omega)
      obtain ⟨m, hm⟩ : ∃ m, m = belowL (l.take k) p := ⟨_, rfl⟩
      rw [← hm] at ht hml
      have HM := Lib.hid hm
      have HT := Lib.hid ht
      cases hq : hasB x p with
      | false =>
        rw [hq] at A
        have HQ := Lib.hid hq
        clear hc hx ht hq hm
        go_wp2_with fail
        refine A.out.mono ?_
        rintro e w1 ⟨rfl, hb⟩
        have HN := Lib.hid (And.intro (HK.out.1.later hb) (HK.out.2.trans (hb.mono HK.out.2.size)))
        clear A hb
        go_wp2_with fail
        refine ⟨⟨k + 1, by simp, by omega, Lib.hid ⟨?_, HN.out.2⟩⟩, ?_⟩
        · have := HT.out
          rw [HQ.out] at this
          simp only [Bool.false_eq_true, if_false] at this
          rw [this, HM.out]
          exact HN.out.1
        · simp [RowKit.intOf]
          omega
      | true =>
        rw [hq] at A
        have HQ := Lib.hid hq
        clear hc hx ht hq hm
        go_wp2_with fail
        refine A.out.mono ?_
        rintro e w1 ⟨rfl, hb⟩
        have HN := Lib.hid (show SlIs w1 w.heap.size 9 1 _ m.length (scells m) ∧ Below w.heap.size w w1 from ⟨by rw [HM.out]; exact HK.out.1.later hb, HK.out.2.trans (hb.mono HK.out.2.size)⟩)
        have hb1 := HN.out.2.size
        obtain ⟨ao2, cap2, rfl, hnc2, hcm2, hao2⟩ := HN.out.1.form
        clear A hb
        go_wp2_with (at_builtin
                     refine wpList_append_sl rfl _ _ _ 22 rfl Set.el_string (.slice ao2 m.length cap2) m.length (scells m) rfl (HN.out.1.alloc _) _ 1 [.string x] rfl (SrcIs.own Tryz.underlying22 (SlIs.made (base := 0) (BlkIs.new _ _ _) (Nat.zero_le _) rfl (by decide))) (by intro u hu; rcases List.mem_singleton.1 hu with rfl; rfl) (by unfold maxLen; omega) (by omega) (by simp only [World.size_alloc]; omega) ?_
                     intro v1 w5 hs1 hg1 hat1
                     have H5 := Lib.hid (And.intro hs1 ((HN.out.2.alloc hb1 (.cells #[.string x] 9)).grown hg1 (by simp only [World.size_alloc]; omega) fun j hj => (HN.out.1.lt j hj).1))
                     clear hs1 hg1 hat1 hao2)
        refine ⟨⟨k + 1, by simp, by omega, Lib.hid ⟨?_, H5.out.2⟩⟩, ?_⟩
        · have := HT.out
          rw [HQ.out] at this
          simp only [if_true] at this
          rw [this]
          have e : scells (m ++ [x]) = scells m ++ [.string x] := by simp [scells]
          rw [e, List.length_append]
          exact H5.out.1
        · simp [RowKit.intOf]
          omega
    · have k1 : decide ((k : Int) < n) = false := decide_eq_false (by omega)
      have k2 : ¬ ((k : Int) < n) := by omega
      obtain rfl : k = n := by omega
      go_wp2_with fail
      go_ret
      refine ⟨_, rfl, ?_, HK.out.2⟩
      have := HK.out.1
      rwa [HL.out, List.take_length] at this
/-- Texts one behind the other. -/
def catL (l : List ByteArray) : List UInt8 := (l.map (·.data.toList)).flatten
theorem join_flat : ∀ xs : List (List UInt8), Lib.join xs [] = xs.flatten
  | [] => rfl
  | [x] => by simp [Lib.join]
  | x :: y :: r => by
    have := join_flat (y :: r)
    simp [Lib.join] at this ⊢
    exact this
theorem catL_length {l : List ByteArray} (h : ∀ x, x ∈ l → x.size = 32) : (catL l).length = 32 * l.length := by
  induction l with
  | nil => rfl
  | cons x r ih =>
    have h1 := h x (by simp)
    have h2 := ih fun y hy => h y (by simp [hy])
    have h3 : x.data.toList.length = 32 := by simpa using h1
    simp only [catL, List.map_cons, List.flatten_cons, List.length_append, List.length_cons] at h2 ⊢
    rw [h3, h2]
    omega
def leafS (l : List ByteArray) : ByteArray := ⟨(Sha.sum (108 :: catL l)).toArray⟩
def innerS (l : List ByteArray) : ByteArray := ⟨(Sha.sum (107 :: catL l)).toArray⟩
theorem join_any (v : Value) (l : List ByteArray) (w : World) (h : StrAt w v l) (hn : l.length ≤ 1000000) (hs : ∀ x, x ∈ l → x.size = 32) :
    Calls Tryz.prog 70 #[v, .string ⟨#[]⟩] w fun e w' => e = .returned (.string ⟨(catL l).toArray⟩) ∧ Below w.heap.size w w' := by
  obtain ⟨ao, cap, rfl, h1, h2, h3⟩ := h
  rcases Nat.eq_zero_or_pos l.length with h0 | h0
  · have hl := List.eq_nil_of_length_eq_zero h0
    subst hl
    refine (Tryz.strings_Join_none ao cap ⟨#[]⟩ w).mono ?_
    rintro e w' ⟨rfl, rfl⟩
    exact ⟨rfl, Below.refl _ _⟩
  · obtain ⟨b, off, rfl, hlt, hc⟩ := h3 h0
    have hj : Lib.join (l.map (·.data.toList)) (⟨#[]⟩ : ByteArray).data.toList = catL l := join_flat _
    have := Tryz.strings_Join b off cap l ⟨#[]⟩ w (fun j x hx => by
      obtain ⟨hj, he⟩ := List.getElem?_eq_some_iff.1 hx
      rw [hc j hj, he]) hlt (by omega) h1 (by rw [hj, catL_length hs]; omega)
    rw [hj] at this
    exact this
theorem leaf_any (v : Value) (l : List ByteArray) (w : World) (h : StrAt w v l) (hn : l.length ≤ 1000000) (hs : ∀ x, x ∈ l → x.size = 32) :
    Calls Tryz.prog 125 #[v] w fun e w' => e = .returned (.string (leafS l)) ∧ Below w.heap.size w w' := by
  have J := Lib.hid (join_any v l w h hn hs)
  obtain ⟨E, hE⟩ : ∃ E : ByteArray, E = ⟨#[108]⟩ ++ ⟨(catL l).toArray⟩ := ⟨_, rfl⟩
  have hEl : E.data.toList = 108 :: catL l := by rw [hE]; simp
  have hEs : E.size = 1 + (catL l).length := by
    have := congrArg List.length hEl
    simp at this
    rw [this]
    omega
  have S := Lib.hid (fun w => Sha.sum_any E w (by rw [hEs, catL_length hs]; omega))
  rw [hEl] at S
  have hE2 := hE.symm
  have hfit0 : (⟨(catL l).toArray⟩ : ByteArray).size ≤ 1000000000 := by
    have e : (⟨(catL l).toArray⟩ : ByteArray).size = (catL l).length := by simp [ByteArray.size]
    rw [e, catL_length hs]
    omega
  obtain ⟨C, hC⟩ : ∃ C : ByteArray, C = ⟨(catL l).toArray⟩ := ⟨_, rfl⟩
  rw [← hC] at J hE2 hfit0
  have hfit1 : ¬ (9223372036854775807 < (⟨#[108]⟩ : ByteArray).size + C.size) := by
    have : (⟨#[108]⟩ : ByteArray).size = 1 := rfl
    omega
  have hfit2 : ¬ (9223372036854775807 < 1 + C.size) := by omega
  obtain ⟨Z, hZ⟩ : ∃ Z, Z = leafS l := ⟨_, rfl⟩
  have hZ2 : (⟨(Sha.sum (108 :: catL l)).toArray⟩ : ByteArray) = Z := hZ.symm
  rw [hZ2] at S
  rw [← hZ]
  obtain ⟨ao, cap, rfl, -, -, -⟩ := h
  clear hE hEl hEs hs hn hC hZ hZ2
  go_enter Tryz.func125, Tryz.ntmps125
  go_wp2_with fail
  refine J.out.mono ?_
  rintro e w1 ⟨rfl, hb⟩
  have HB := Lib.hid hb
  clear J hb
  go_wp2_with fail
  refine (S.out _).mono ?_
  rintro e w2 ⟨rfl, hb⟩
  have HB2 := Lib.hid (HB.out.trans (hb.mono HB.out.size))
  clear S hb
  go_wp2_with fail
  go_ret
  exact ⟨rfl, HB2.out⟩
theorem inner_any (v : Value) (l : List ByteArray) (w : World) (h : StrAt w v l) (hn : l.length ≤ 1000000) (hs : ∀ x, x ∈ l → x.size = 32) :
    Calls Tryz.prog 82 #[v] w fun e w' => e = .returned (.string (innerS l)) ∧ Below w.heap.size w w' := by
  have J := Lib.hid (join_any v l w h hn hs)
  obtain ⟨E, hE⟩ : ∃ E : ByteArray, E = ⟨#[107]⟩ ++ ⟨(catL l).toArray⟩ := ⟨_, rfl⟩
  have hEl : E.data.toList = 107 :: catL l := by rw [hE]; simp
  have hEs : E.size = 1 + (catL l).length := by
    have := congrArg List.length hEl
    simp at this
    rw [this]
    omega
  have S := Lib.hid (fun w => Sha.sum_any E w (by rw [hEs, catL_length hs]; omega))
  rw [hEl] at S
  have hE2 := hE.symm
  have hfit0 : (⟨(catL l).toArray⟩ : ByteArray).size ≤ 1000000000 := by
    have e : (⟨(catL l).toArray⟩ : ByteArray).size = (catL l).length := by simp [ByteArray.size]
    rw [e, catL_length hs]
    omega
  obtain ⟨C, hC⟩ : ∃ C : ByteArray, C = ⟨(catL l).toArray⟩ := ⟨_, rfl⟩
  rw [← hC] at J hE2 hfit0
  have hfit1 : ¬ (9223372036854775807 < (⟨#[107]⟩ : ByteArray).size + C.size) := by
    have : (⟨#[107]⟩ : ByteArray).size = 1 := rfl
    omega
  have hfit2 : ¬ (9223372036854775807 < 1 + C.size) := by omega
  obtain ⟨Z, hZ⟩ : ∃ Z, Z = innerS l := ⟨_, rfl⟩
  have hZ2 : (⟨(Sha.sum (107 :: catL l)).toArray⟩ : ByteArray) = Z := hZ.symm
  rw [hZ2] at S
  rw [← hZ]
  obtain ⟨ao, cap, rfl, -, -, -⟩ := h
  clear hE hEl hEs hs hn hC hZ hZ2
  go_enter Tryz.func82, Tryz.ntmps82
  go_wp2_with fail
  refine J.out.mono ?_
  rintro e w1 ⟨rfl, hb⟩
  have HB := Lib.hid hb
  clear J hb
  go_wp2_with fail
  refine (S.out _).mono ?_
  rintro e w2 ⟨rfl, hb⟩
  have HB2 := Lib.hid (HB.out.trans (hb.mono HB.out.size))
  clear S hb
  go_wp2_with fail
  go_ret
  exact ⟨rfl, HB2.out⟩
end Go.Proofs.YtljenganlknhbaaGreat.Tr

