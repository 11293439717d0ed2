/- ident.areDigits: whether all bytes of a text are digits, walked with all that it calls. No conditions but the text's length. (Layer 10.) -/
import Derived.Test.YtljenganlknhbaaGreatPkA
import Derived.Test.YtljenganlknhbaaGreatShelf
import Derived.Test.YtljenganlknhbaaGreatChecked
import Derived.Laws.Runes
import Derived.Laws.RangeAny
import Derived.Lib.Hide
import Derived.WalkKit
import Derived.BigQuiet
import Derived.Scope
import Derived.WalkMore
import Derived.LoopTactic
import Derived.FnLit
import Derived.Deep.CutRange
namespace Go.Proofs.YtljenganlknhbaaGreat.Tr
set_option linter.unusedVariables false
set_option linter.unusedSimpArgs false
open Go.RowKit Go.Lib
/-- The sixteen digits. -/
def digs : ByteArray := ⟨#[48, 49, 50, 51, 52, 53, 54, 55, 56, 57, 97, 98, 99, 100, 101, 102]⟩
def isDg (n : Nat) : Bool := (48 ≤ n && n ≤ 57) || (97 ≤ n && n ≤ 102)
theorem isDg_lt {n : Nat} (h : isDg n = true) : n < 128 := by
  unfold isDg at h
  simp at h
  omega
theorem digs_index : ∀ r : Fin 128, decide (0 ≤ Lib.indexByte digs.data.toList r.val.toUInt8) = isDg r.val := by decide +kernel
theorem digs_low : ∀ b ∈ digs.data.toList, b.toNat < 128 := by decide
theorem valid_any (r : Int) (w : World) : Calls Tryz.prog 184 #[.int .i32 r] w fun e w' => e = .returned (.bool (Utf8.valid r)) ∧ w = w' := by
  rw [validRune_eq]
  unfold validRune
  go_enter Tryz.func184, Tryz.ntmps184
  by_cases h1 : 0 ≤ r
  · by_cases h2 : r < 55296
    · have e : decide ((0 ≤ r ∧ r < 55296) ∨ (57343 < r ∧ r ≤ 1114111)) = true := decide_eq_true (Or.inl ⟨h1, h2⟩)
      rw [e]
      go_wp2_with fail
      go_ret
      exact ⟨rfl, rfl⟩
    · by_cases h3 : 57343 < r
      · by_cases h4 : r ≤ 1114111
        · have e : decide ((0 ≤ r ∧ r < 55296) ∨ (57343 < r ∧ r ≤ 1114111)) = true := decide_eq_true (Or.inr ⟨h3, h4⟩)
          rw [e]
          have k2 : decide (r < 55296) = false := decide_eq_false h2
          clear h2
          go_wp2_with fail
          go_ret
          exact ⟨rfl, rfl⟩
        · have e : decide ((0 ≤ r ∧ r < 55296) ∨ (57343 < r ∧ r ≤ 1114111)) = false := decide_eq_false (by omega)
          rw [e]
          have k2 : decide (r < 55296) = false := decide_eq_false h2
          have k4 : decide (r ≤ 1114111) = false := decide_eq_false h4
          clear h2 h4
          go_wp2_with fail
          go_ret
          exact ⟨rfl, rfl⟩
      · have e : decide ((0 ≤ r ∧ r < 55296) ∨ (57343 < r ∧ r ≤ 1114111)) = false := decide_eq_false (by omega)
        rw [e]
        have k2 : decide (r < 55296) = false := decide_eq_false h2
        have k3 : decide (57343 < r) = false := decide_eq_false h3
        clear h2 h3
        go_wp2_with fail
        go_ret
        exact ⟨rfl, rfl⟩
  · have e : decide ((0 ≤ r ∧ r < 55296) ∨ (57343 < r ∧ r ≤ 1114111)) = false := decide_eq_false (by omega)
    rw [e]
    have k1 : decide (0 ≤ r) = false := decide_eq_false h1
    have k3 : decide (57343 < r) = false := decide_eq_false (by omega)
    clear h1
    go_wp2_with fail
    go_ret
    exact ⟨rfl, rfl⟩
theorem none_index (c : UInt8) : ∀ l : List UInt8, (∀ b ∈ l, b ≠ c) → Lib.indexByte l c = -1
  | [], _ => rfl
  | b :: l, h => by
    have h1 : (b == c) = false := by simpa using h b (by simp)
    have h2 := none_index c l fun x hx => h x (by simp [hx])
    simp [Lib.indexByte, h1, h2]
theorem high_byte (c : UInt8) (h : 128 ≤ c.toNat) (a e : Nat) : Lib.indexByte (digs.extract a e).data.toList c = -1 :=
  none_index c _ fun b hb hbc => by
    have := digs_low b (mem_extract hb)
    rw [hbc] at this
    omega
theorem index_none (c : UInt8) (h : 128 ≤ c.toNat) (a e : Nat) (w : World) : Calls Tryz.prog 183 #[.string (digs.extract a e), .int .u8 (c.toNat : Int)] w fun e w' => e = .returned (.int .i64 (-1)) ∧ w = w' :=
  (Tryz.strings_IndexByte (digs.extract a e) (c.toNat : Int) w).mono fun e' w' ⟨he, hw⟩ => by
    rw [show ((c.toNat : Int).toNat.toUInt8) = c by simp, high_byte c h] at he
    exact ⟨he, hw.symm⟩
theorem quiet_same {P : Program} {f : FuncId} {args : Array Value} {w : World} {k n : Nat} {v : Value} (h : Calls P f args (w.drewN (k + n)) fun e w' => e = .returned v ∧ w.drewN (k + n) = w') : Calls P f args (w.drewN (k + n)) fun e w'' => e = .returned v ∧ ∃ m, w'' = w.drewN (k + m) :=
  h.mono fun _ _ ⟨he, hk⟩ => ⟨he, n, hk.symm⟩
set_option maxRecDepth 100000 in
set_option maxHeartbeats 4000000 in
theorem index_high (r : Int) (h : 128 ≤ r) (w : World) : Calls Tryz.prog 173 #[.string digs, .int .i32 r] w fun e w' => e = .returned (.int .i64 (-1)) ∧ Below w.heap.size w w' := by
  have k1 : decide (r < 128) = false := decide_eq_false (by omega)
  have k0 : 0 ≤ r := by omega
  by_cases h1 : r = 65533
  · subst h1
    go_enter Tryz.func173, Tryz.ntmps173
    go_wp2_with fail
    go_loopw [5, 6] (fun a b wr => ∃ pos : Nat, wr = w.iter digs pos ∧ pos ≤ 16) (fun _ _ wr => 16 - wr.iterPos w.heap.size)
    case atStart => exact ⟨0, rfl, by omega⟩
    case round =>
      obtain ⟨pos, rfl, hpos⟩ := hrel
      by_cases hp : pos < digs.size
      · have hl : (digs[pos]'hp).toNat < 128 := digs_low _ (Array.getElem_mem_toList (xs := digs.data) hp)
        have hnx : ∀ ty, (Instr.next (.pointer (some ⟨w.heap.size, 0, none⟩)) true ty).run Tryz.prog (w.iter digs pos) = _ := fun ty => run_next_ascii w digs pos ty hp hl
        obtain ⟨c, hc⟩ : ∃ c, c = (digs[pos]'hp).toNat := ⟨_, rfl⟩
        rw [← hc] at hl
        simp only [← hc] at hnx
        have hc1 : decide ((c : Int) = 65533) = false := decide_eq_false (by omega)
        have hps : pos + 1 ≤ 16 := hp
        clear hc
        go_wp2_with fail
        refine ⟨⟨pos + 1, rfl, hps⟩, ?_⟩
        simp
        omega
      · have hnx : ∀ ty, (Instr.next (.pointer (some ⟨w.heap.size, 0, none⟩)) true ty).run Tryz.prog (w.iter digs pos) = _ := fun ty => run_next_end w digs pos ty hp
        go_wp2_with fail
        go_ret
        exact ⟨rfl, (Below.refl _ _).alloc (Nat.le_refl _) _⟩
  · have k2 : decide (r = 65533) = false := decide_eq_false h1
    have V := Lib.hid (fun w => valid_any r w)
    cases hv : Utf8.valid r with
    | false =>
      rw [hv] at V
      clear hv
      go_enter Tryz.func173, Tryz.ntmps173
      go_wp2_with fail
      refine (V.out _).mono ?_
      rintro e w1 ⟨rfl, rfl⟩
      go_wp2_with fail
      go_ret
      exact ⟨rfl, Below.refl _ _⟩
    | true =>
      rw [hv] at V
      obtain ⟨f1, f2, f3⟩ := encode_facts r hv h
      obtain ⟨E, hE⟩ : ∃ E, E = Utf8.encode r := ⟨_, rfl⟩
      rw [← hE] at f1 f2 f3
      clear hv
      go_enter Tryz.func173, Tryz.ntmps173
      go_wp2_with fail
      refine (V.out _).mono ?_
      rintro e w1 ⟨rfl, rfl⟩
      have hE2 := hE.symm
      clear hE V
      obtain ⟨L, hL⟩ : ∃ L, E.size = L + 1 := ⟨E.size - 1, by omega⟩
      have hL1 : (E.size : Int) - 1 = (L : Int) := by omega
      go_wp2_with fail
      apply wp_scope_straight
      go_wp2_with fail
      go_loopw [9, 10] (fun v x wr => v = .int .i64 (L : Int) ∧ wr = w) (fun _ _ _ => 0)
      case atStart => exact ⟨rfl, rfl⟩
      case round =>
        obtain ⟨rfl, rfl⟩ := hrel
        have hds : digs.size = 16 := rfl
        have l1 : (L : Int) < 16 := by omega
        have l2 : L < digs.size := by rw [hds]; omega
        have l3 : L < E.size := by omega
        have l4 : (digs[L]'l2).toNat < 128 := digs_low _ (Array.getElem_mem_toList (xs := digs.data) l2)
        have l5 : 128 ≤ (E[L]'l3).toNat := by
          have := f3 (by omega)
          simpa [hL] using this
        obtain ⟨cd, hcd⟩ : ∃ c, c = digs[L]'l2 := ⟨_, rfl⟩
        obtain ⟨ce, hce⟩ : ∃ c, c = E[L]'l3 := ⟨_, rfl⟩
        have x1 := hcd.symm
        have x2 := hce.symm
        have x3 : ((cd.toNat : Int) != (ce.toNat : Int)) = true := by
          rw [← hcd] at l4
          rw [← hce] at l5
          simp
          omega
        have l8 : 128 ≤ ce.toNat := by rw [hce]; exact l5
        clear hcd hce
        go_upto_region 6 with (fail)
        apply wp_scope_straight
        go_upto_region 6 with (fail)
        go_quiet (fail)
        have hlw : IntKind.i64.wrap ((L : Int) + 1) = ((L + 1 : Nat) : Int) := IntWalk.i64_in _ (by omega)
        have l6 : (0 : Int) ≤ (L : Int) + 1 := by omega
        have l7 : (L : Int) + 1 ≤ 16 := by omega
        have IB := Lib.hid (fun W => index_none ce l8 (L + 1) 16 W)
        go_upto_region 7 with (fail)
        go_quiet ((go_at_call 183; exact quiet_same (IB.out _)))
        go_wp2_with fail
        simp (config := { zetaDelta := true }) only [Exit.noGoto_ret, Exit.inBlock, Exit.then]
        go_ret
        exact ⟨rfl, DrawsOf.below ⟨_, rfl⟩ _⟩
/-- Whether a rune is a digit. -/
theorem contains_dg (r : Nat) (h : isDg r = true) (w : World) : Calls Tryz.prog 152 #[.string digs, .int .i32 (r : Int)] w fun e w' => e = .returned (.bool true) ∧ w = w' :=
  (Tryz.strings_ContainsRune_ascii digs (r : Int) w (by omega) (by have := isDg_lt h; omega)).mono fun e' w' ⟨he, hw⟩ => by
    have h1 := digs_index ⟨r, isDg_lt h⟩
    dsimp only at h1
    rw [h] at h1
    rw [show ((r : Int).toNat) = r by omega, h1] at he
    exact ⟨he, hw.symm⟩
theorem contains_no (r : Nat) (h : isDg r = false) (w : World) : Calls Tryz.prog 152 #[.string digs, .int .i32 (r : Int)] w fun e w' => e = .returned (.bool false) ∧ Below w.heap.size w w' := by
  rcases Nat.lt_or_ge r 128 with h2 | h2
  · refine (Tryz.strings_ContainsRune_ascii digs (r : Int) w (by omega) (by omega)).mono fun e' w' ⟨he, hw⟩ => ?_
    have h1 := digs_index ⟨r, h2⟩
    dsimp only at h1
    rw [h] at h1
    rw [show ((r : Int).toNat) = r by omega, h1] at he
    rw [hw]
    exact ⟨he, Below.refl _ _⟩
  · have C := Lib.hid (index_high (r : Int) (by omega) w)
    clear h h2
    unfold digs at C ⊢
    go_enter Tryz.func152, Tryz.ntmps152
    go_wp2_with fail
    refine C.out.mono ?_
    rintro e w1 ⟨rfl, hb⟩
    have HB := Lib.hid hb
    clear hb C
    go_wp2_with fail
    go_ret
    exact ⟨rfl, HB.out⟩
theorem odd_dg (r : Nat) (h : isDg r = true) (w : World) : Calls Tryz.prog 151 #[.int .i32 (r : Int)] w fun e w' => e = .returned (.bool false) ∧ w = w' := by
  have C := Lib.hid (contains_dg r h w)
  clear h
  unfold digs at C
  go_enter Tryz.func151, Tryz.ntmps151
  go_wp2_with fail
  refine C.out.mono ?_
  rintro e w1 ⟨rfl, rfl⟩
  clear C
  go_wp2_with fail
  go_ret
  exact ⟨rfl, rfl⟩
theorem odd_no (r : Nat) (h : isDg r = false) (w : World) : Calls Tryz.prog 151 #[.int .i32 (r : Int)] w fun e w' => e = .returned (.bool true) ∧ Below w.heap.size w w' := by
  have C := Lib.hid (contains_no r h w)
  clear h
  unfold digs at C
  go_enter Tryz.func151, Tryz.ntmps151
  go_wp2_with fail
  refine C.out.mono ?_
  rintro e w1 ⟨rfl, hb⟩
  have HB := Lib.hid hb
  clear hb C
  go_wp2_with fail
  go_ret
  exact ⟨rfl, HB.out⟩
/-- Whether all bytes are digits. -/
def dgOk (s : ByteArray) : Bool := s.data.toList.all fun c => isDg c.toNat
theorem dgOk_iff {s : ByteArray} : dgOk s = true ↔ ∀ k (h : k < s.size), isDg (s[k]'h).toNat = true := by
  unfold dgOk
  rw [List.all_eq_true]
  constructor
  · intro h k hk
    exact h _ (Array.getElem_mem_toList (xs := s.data) hk)
  · intro h c hc
    obtain ⟨i, hi, rfl⟩ := List.getElem_of_mem hc
    exact h i (by simpa using hi)
theorem decode_dg (s : ByteArray) (pos : Nat) (h : pos < s.size) : (isDg (s[pos]'h).toNat = true ∧ Utf8.decode s pos = ((s[pos]'h).toNat, 1)) ∨ (isDg (s[pos]'h).toNat = false ∧ isDg (Utf8.decode s pos).1 = false) := by
  rcases Nat.lt_or_ge (s[pos]'h).toNat 128 with h1 | h1
  · rw [decode_ascii s pos h h1]
    cases isDg (s[pos]'h).toNat <;> simp
  · have h2 := (decode_high s pos h h1).1
    refine Or.inr ⟨?_, ?_⟩
    · cases hq : isDg (s[pos]'h).toNat with
      | false => rfl
      | true => have := isDg_lt hq; omega
    · cases hq : isDg (Utf8.decode s pos).1 with
      | false => rfl
      | true => have := isDg_lt hq; omega
set_option maxRecDepth 100000 in
theorem indexFunc_any (s : ByteArray) (hs : (s.size : Int) ≤ 9223372036854775807) (w : World) : Calls Tryz.prog 187 #[.string s, .func (.func 151) #[] #[], .bool true] w fun e w' => Below w.heap.size w w' ∧ ∃ n : Int, e = .returned (.int .i64 n) ∧ decide (n ≥ 0) = !dgOk s := by
  go_enter Tryz.func187, Tryz.ntmps187
  go_wp2_with fail
  go_loopw [7, 8] (fun a b wr => ∃ pos : Nat, wr = w.iter s pos ∧ pos ≤ s.size ∧ Hid (∀ k (h : k < s.size), k < pos → isDg (s[k]'h).toNat = true)) (fun _ _ wr => s.size - wr.iterPos w.heap.size)
  case atStart => exact ⟨0, rfl, by omega, Lib.hid (fun k h h' => by omega)⟩
  case round =>
    obtain ⟨pos, rfl, hpos, HK⟩ := hrel
    by_cases hp : pos < s.size
    · have hnx : ∀ ty, (Instr.next (.pointer (some ⟨w.heap.size, 0, none⟩)) true ty).run Tryz.prog (w.iter s pos) = _ := fun ty => run_next_any w s pos ty hp
      rcases decode_dg s pos hp with ⟨h1, h2⟩ | ⟨h1, h2⟩
      · rw [h2] at hnx
        dsimp only at hnx
        obtain ⟨c, hc⟩ : ∃ c, c = (s[pos]'hp).toNat := ⟨_, rfl⟩
        simp only [← hc] at hnx
        have O := Lib.hid (odd_dg c (by rw [hc]; exact h1) (w.iter s (pos + 1)))
        have H1 := Lib.hid h1
        clear hc h1 h2
        go_wp2_with fail
        refine O.out.mono ?_
        rintro e _ ⟨rfl, rfl⟩
        clear O
        go_wp2_with fail
        refine ⟨⟨pos + 1, rfl, hp, Lib.hid fun k h hk => ?_⟩, ?_⟩
        · rcases Nat.lt_or_ge k pos with h3 | h3
          · exact HK.out k h h3
          · obtain rfl : k = pos := by omega
            exact H1.out
        · simp
          omega
      · obtain ⟨c, hc⟩ : ∃ c, c = (Utf8.decode s pos).1 := ⟨_, rfl⟩
        obtain ⟨wd, hwd⟩ : ∃ c, c = (Utf8.decode s pos).2 := ⟨_, rfl⟩
        simp only [← hc, ← hwd] at hnx
        have O := Lib.hid (odd_no c (by rw [hc]; exact h2) (w.iter s (pos + wd)))
        have HD := Lib.hid (show dgOk s = false from by
          cases hq : dgOk s with
          | false => rfl
          | true => rw [dgOk_iff.1 hq pos hp] at h1; cases h1)
        clear hc hwd h1 h2
        go_wp2_with fail
        refine O.out.mono ?_
        rintro e w2 ⟨rfl, hb⟩
        have HB := Lib.hid (show Below w.heap.size w w2 from ((Below.refl w.heap.size w).alloc (Nat.le_refl _) (.stringIter s (pos + wd))).trans (hb.mono (by simp [World.iter])))
        clear O hb
        go_wp2_with fail
        go_ret
        refine ⟨HB.out, _, rfl, ?_⟩
        rw [HD.out]
        exact decide_eq_true (by omega)
    · have hnx : ∀ ty, (Instr.next (.pointer (some ⟨w.heap.size, 0, none⟩)) true ty).run Tryz.prog (w.iter s pos) = _ := fun ty => run_next_end w s pos ty hp
      have HD := Lib.hid (show dgOk s = true from dgOk_iff.2 fun k hk => HK.out k hk (by omega))
      go_wp2_with fail
      go_ret
      refine ⟨(Below.refl w.heap.size w).alloc (Nat.le_refl _) (.stringIter s pos), _, rfl, ?_⟩
      rw [HD.out]
      rfl
theorem areDigits_any (s : ByteArray) (hs : (s.size : Int) ≤ 9223372036854775807) (w : World) : Calls Tryz.prog 120 #[.string s] w fun e w' => e = .returned (.bool (dgOk s)) ∧ Below w.heap.size w w' := by
  have I := Lib.hid (indexFunc_any s hs w)
  obtain ⟨q, hq⟩ : ∃ q, q = dgOk s := ⟨_, rfl⟩
  rw [← hq] at I ⊢
  clear hs hq
  go_enter Tryz.func120, Tryz.ntmps120
  go_wp2_with fail
  refine (?_ : Calls Tryz.prog 153 #[.string s, .func (.func 151) #[] #[]] w fun e w' => e = .returned (.bool (!q)) ∧ Below w.heap.size w w').mono ?_
  · go_enter Tryz.func153, Tryz.ntmps153
    go_wp2_with fail
    refine (?_ : Calls Tryz.prog 174 #[.string s, .func (.func 151) #[] #[]] w fun e w' => Below w.heap.size w w' ∧ ∃ n : Int, e = .returned (.int .i64 n) ∧ decide (n ≥ 0) = !q).mono ?_
    · go_enter Tryz.func174, Tryz.ntmps174
      go_wp2_with fail
      refine I.out.mono ?_
      rintro e w1 ⟨hb, n, rfl, hn⟩
      have H := Lib.hid (And.intro hb hn)
      clear hb hn I
      go_wp2_with fail
      go_ret
      exact ⟨H.out.1, _, rfl, H.out.2⟩
    · rintro e w1 ⟨hb, n, rfl, hn⟩
      have HB := Lib.hid hb
      have hn2 : decide (0 ≤ n) = !q := hn
      clear hb I
      go_wp2_with fail
      go_ret
      exact ⟨by simp [hn2], HB.out⟩
  · rintro e w1 ⟨rfl, hb⟩
    have HB := Lib.hid hb
    clear hb I
    go_wp2_with fail
    go_ret
    exact ⟨by simp, HB.out⟩
end Go.Proofs.YtljenganlknhbaaGreat.Tr
