/- trie: isPrefix, isSet, below, leaf, inner, walked. Conditions: at most 1,000,000 ids. (Layer 10.) -/
import Derived.Test.YtjkhmjklmclpoaaGreatTrB
import Derived.Test.YtjkhmjklmclpoaaGreatSha5
namespace Go.Proofs.YtjkhmjklmclpoaaGreat.Tr
set_option linter.unusedVariables false
set_option linter.unusedSimpArgs false
open Go.RowKit Go.Lib
open Set (StrAt scells El Rise)
noncomputable def holds (p : Prop) : Bool := @decide p (Classical.propDecidable p)
theorem holds_true {p : Prop} (h : p) : holds p = true := by unfold holds; exact @decide_eq_true p (Classical.propDecidable p) h
theorem holds_false {p : Prop} (h : ¬ p) : holds p = false := by unfold holds; exact @decide_eq_false p (Classical.propDecidable p) h
theorem holds_iff {p : Prop} : holds p = true ↔ p := by unfold holds; exact @decide_eq_true_iff p (Classical.propDecidable p)
/-- Whether a text is digits, 64 at most. -/
def pfxB (p : ByteArray) : Bool := decide (p.size ≤ 64) && dgOk p
set_option maxRecDepth 100000 in
theorem find_nil (p : ByteArray) (hp : (p.size : Int) ≤ 9223372036854775807) (w : World) : Calls Tryz.prog 63 #[.slice none 0 0, .string p] w fun e w' => e = .returned (.tuple #[.string ⟨#[]⟩, .int .i64 (if pfxB p then 12 else 4)]) ∧ Below w.heap.size w w' := by
  have D := Lib.hid (areDigits_any p hp w)
  unfold pfxB
  by_cases h1 : p.size ≤ 64
  · rw [decide_eq_true h1]
    have k1 : decide (64 < (p.size : Int)) = false := decide_eq_false (by omega)
    cases hq : dgOk p with
    | false =>
      rw [hq] at D
      clear hq hp h1
      go_enter Tryz.func63, Tryz.ntmps63
      go_wp2_with fail
      refine D.out.mono ?_
      rintro e w1 ⟨rfl, hb⟩
      have HB := Lib.hid hb
      clear D hb
      go_wp2_with fail
      go_ret2
      exact ⟨rfl, HB.out⟩
    | true =>
      rw [hq] at D
      clear hq hp h1
      go_enter Tryz.func63, Tryz.ntmps63
      go_wp2_with fail
      refine D.out.mono ?_
      rintro e w1 ⟨rfl, hb⟩
      have HB := Lib.hid hb
      clear D hb
      go_wp2_with fail
      go_loopw [6, 19] (fun v c wr => v = .slice none 0 0 ∧ c = .int .i64 0 ∧ wr = w1) (fun _ _ _ => 0)
      case atStart => exact ⟨rfl, rfl, rfl⟩
      case round =>
        obtain ⟨rfl, rfl, rfl⟩ := hrel
        go_wp2_with fail
        go_ret2
        exact ⟨rfl, HB.out⟩
  · rw [decide_eq_false h1]
    have k1 : (64 : Int) < (p.size : Int) := by omega
    clear D hp h1
    go_enter Tryz.func63, Tryz.ntmps63
    go_wp2_with fail
    go_ret2
    exact ⟨rfl, Below.refl _ _⟩
theorem isPrefix_any (p : ByteArray) (hp : (p.size : Int) ≤ 9223372036854775807) (w : World) : Calls Tryz.prog 29 #[.string p] w fun e w' => e = .returned (.bool (pfxB p)) ∧ Below w.heap.size w w' := by
  have F := Lib.hid (find_nil p hp w)
  cases hq : pfxB p with
  | false =>
    rw [hq] at F
    clear hp hq
    go_enter Tryz.func29, Tryz.ntmps29
    go_wp2_with fail
    refine F.out.mono ?_
    rintro e w1 ⟨rfl, hb⟩
    have HB := Lib.hid hb
    clear F hb
    go_wp2_with fail
    go_ret
    exact ⟨rfl, HB.out⟩
  | true =>
    rw [hq] at F
    clear hp hq
    go_enter Tryz.func29, Tryz.ntmps29
    go_wp2_with fail
    refine F.out.mono ?_
    rintro e w1 ⟨rfl, hb⟩
    have HB := Lib.hid hb
    clear F hb
    go_wp2_with fail
    go_ret
    exact ⟨rfl, HB.out⟩
/-- Ids, rising, each once: one by one. -/
def UpTo (l : List ByteArray) (k : Nat) : Prop := ∀ j, j < k → l[j]!.size = 32 ∧ (0 < j → El.lt l[j - 1]! l[j]!)
def IsSet (l : List ByteArray) : Prop := UpTo l l.length
theorem UpTo.one {l : List ByteArray} {k : Nat} (h : UpTo l k) (h1 : l[k]!.size = 32) (h2 : 0 < k → El.lt l[k - 1]! l[k]!) : UpTo l (k + 1) := fun j hj => by
  rcases Nat.lt_or_ge j k with h3 | h3
  · exact h j h3
  · obtain rfl : j = k := by omega
    exact ⟨h1, h2⟩
theorem IsSet.size {l : List ByteArray} (h : IsSet l) {x : ByteArray} (hx : x ∈ l) : x.size = 32 := by
  obtain ⟨i, hi, rfl⟩ := List.getElem_of_mem hx
  have := (h i hi).1
  rwa [getElem!_pos l i hi] at this
theorem IsSet.rise {l : List ByteArray} (h : IsSet l) : Rise l := by
  have key : ∀ d i, i + d + 1 < l.length → El.lt l[i]! l[i + d + 1]! := fun d => by
    induction d with
    | zero =>
      intro i hi
      have := (h (i + 1) (by omega)).2 (by omega)
      simpa using this
    | succ d ih =>
      intro i hi
      have h1 := ih i (by omega)
      have h2 := (h (i + (d + 1) + 1) hi).2 (by omega)
      exact El.tr h1 (by simpa [Nat.add_assoc] using h2)
  refine List.pairwise_iff_getElem.2 fun i j hi hj hij => ?_
  have := key (j - i - 1) i (by omega)
  rw [show i + (j - i - 1) + 1 = j by omega, getElem!_pos l i hi, getElem!_pos l j hj] at this
  exact this
theorem isSet_of {l : List ByteArray} (h1 : Rise l) (h2 : ∀ x, x ∈ l → x.size = 32) : IsSet l := fun j hj => by
  refine ⟨by rw [getElem!_pos l j hj]; exact h2 _ (List.getElem_mem hj), fun h0 => ?_⟩
  rw [getElem!_pos l j hj, getElem!_pos l (j - 1) (by omega)]
  exact List.pairwise_iff_getElem.1 h1 (j - 1) j (by omega) hj (by omega)
theorem isSet_nil : IsSet [] := fun j hj => by simp at hj
theorem strAt_at {w : World} {ao : Option Addr} {n cap : Nat} {l : List ByteArray} (h : StrAt w (.slice ao n cap) l) (hn : 0 < n) : ∃ b off, ao = some ⟨b, off, none⟩ ∧ b < w.heap.size ∧ ∀ i, i < n → w.cell? ⟨b, off + i, none⟩ = some (.string l[i]!) := by
  obtain ⟨ao', cap', hv, h1, h2, h3⟩ := h
  injection hv with e1 e2 e3
  subst e1 e2 e3
  obtain ⟨b, off, ha, hlt, hc⟩ := h3 hn
  exact ⟨b, off, ha, hlt, fun i hi => by rw [hc i hi, getElem!_pos l i hi]⟩
set_option maxRecDepth 100000 in
set_option maxHeartbeats 1000000 in
theorem isSet_any (v : Value) (l : List ByteArray) (w : World) (h : StrAt w v l) (hn : l.length ≤ 1000000) : Calls Tryz.prog 28 #[v] w fun e w' => e = .returned (.bool (holds (IsSet l))) ∧ w = w' := by
  have HS := Lib.hid h
  obtain ⟨ao, cap, rfl, h1, h2, -⟩ := h
  obtain ⟨n, hln⟩ : ∃ n, n = l.length := ⟨_, rfl⟩
  rw [← hln] at HS hn h1 ⊢
  have HL := Lib.hid hln
  clear hln
  go_enter Tryz.func28, Tryz.ntmps28
  go_wp2_with fail
  go_loopw [7] (fun c wr => ∃ k : Nat, c = .int .i64 (k : Int) ∧ k ≤ n ∧ wr = w ∧ Hid (UpTo l k)) (fun c _ => ((n : Int) - intOf c).toNat)
  case atStart => exact ⟨0, rfl, by omega, rfl, Lib.hid fun j hj => by omega⟩
  case round =>
    obtain ⟨k, rfl, hk, rfl, HK⟩ := hrel
    rcases Nat.lt_or_ge k n with h3 | h3
    · have k1 : (k : Int) < n := by omega
      have kw : IntKind.i64.wrap ((k : Int) + 1) = ((k + 1 : Nat) : Int) := IntWalk.i64_in _ (by omega)
      obtain ⟨b, off, hao, hlt, hc⟩ := strAt_at HS.out (by omega)
      subst hao
      have c0 := hc k h3
      obtain ⟨x, hx⟩ : ∃ x, x = l[k]! := ⟨_, rfl⟩
      rw [← hx] at c0
      have G := Lib.hid (Path.ident_good x wr)
      by_cases hz : x.size = 32
      · have g : ((x.size : Int) == 32) = true := by simp; omega
        rw [g] at G
        rcases Nat.eq_zero_or_pos k with k0 | k0
        · have HX := Lib.hid (And.intro hx (And.intro hz k0))
          have c0' : wr.cell? ⟨b, off, none⟩ = some (.string x) := by rw [k0] at c0; simpa using c0
          have k2 : decide ((k : Int) > 0) = false := decide_eq_false (by omega)
          have k3 : decide ((0 : Int) < (k : Int)) = false := decide_eq_false (by omega)
          have k4 : decide (0 < k) = false := decide_eq_false (by omega)
          clear hc hx hz g k0
          go_wp2_with fail
          refine G.out.mono ?_
          rintro e _ ⟨rfl, rfl⟩
          clear G
          go_wp2_with fail
          refine ⟨⟨k + 1, by simp, by omega, by simp, Lib.hid (HK.out.one ?_ fun h => ?_)⟩, ?_⟩
          · rw [← HX.out.1]; exact HX.out.2.1
          · have := HX.out.2.2; omega
          · simp [intOf]
            omega
        · have k2 : (0 : Int) < (k : Int) := by omega
          obtain ⟨p, hp⟩ : ∃ p, k = p + 1 := ⟨k - 1, by omega⟩
          have kp : (k : Int) - 1 = (p : Int) := by omega
          have kpw : IntKind.i64.wrap ((k : Int) - 1) = (p : Int) := by rw [kp]; exact IntWalk.i64_in _ (by omega)
          have c1 := hc p (by omega)
          obtain ⟨y, hy⟩ : ∃ y, y = l[p]! := ⟨_, rfl⟩
          rw [← hy] at c1
          have k5 : (p : Int) < n := by omega
          obtain ⟨q, hq⟩ : ∃ q, q = Op.bytesLess y.toList x.toList := ⟨_, rfl⟩
          have hq2 := hq.symm
          have HX := Lib.hid (And.intro hx (And.intro hz (And.intro hp (And.intro hy hq))))
          clear hc hx hz g k0 hp hy hq
          go_wp2_with fail
          refine G.out.mono ?_
          rintro e _ ⟨rfl, rfl⟩
          clear G
          cases q with
          | true =>
            go_wp2_with fail
            refine ⟨⟨k + 1, by simp, by omega, by simp, Lib.hid (HK.out.one ?_ fun h => ?_)⟩, ?_⟩
            · rw [← HX.out.1]; exact HX.out.2.1
            · have hq := HX.out.2.2.2.2
              rw [Set.less_lt] at hq
              rw [← HX.out.1, show k - 1 = p by have := HX.out.2.2.1; omega, ← HX.out.2.2.2.1]
              exact of_decide_eq_true hq.symm
            · simp [intOf]
              omega
          | false =>
            go_wp2_with fail
            go_ret
            refine ⟨?_, rfl⟩
            rw [holds_false]
            · rfl
            · intro hS
              have h5 := (hS k (by rw [← HL.out]; exact h3)).2 (by have := HX.out.2.2.1; omega)
              have hq := HX.out.2.2.2.2
              rw [Set.less_lt] at hq
              rw [← HX.out.1, show k - 1 = p by have := HX.out.2.2.1; omega, ← HX.out.2.2.2.1] at h5
              rw [decide_eq_true h5] at hq
              cases hq
      · have g : ((x.size : Int) == 32) = false := by simp; omega
        rw [g] at G
        have HX := Lib.hid (And.intro hx hz)
        clear hc hx hz g
        go_wp2_with fail
        refine G.out.mono ?_
        rintro e _ ⟨rfl, rfl⟩
        clear G
        go_wp2_with fail
        go_ret
        refine ⟨?_, rfl⟩
        rw [holds_false]
        · rfl
        · intro hS
          have := (hS k (by rw [← HL.out]; exact h3)).1
          rw [← HX.out.1] at this
          exact HX.out.2 this
    · have k1 : decide ((k : Int) < n) = false := decide_eq_false (by omega)
      have k2 : ¬ ((k : Int) < n) := by omega
      obtain rfl : k = n := by omega
      go_wp2_with fail
      go_ret
      refine ⟨?_, rfl⟩
      rw [holds_true]
      · rfl
      · unfold IsSet
        rw [← HL.out]
        exact HK.out
end Go.Proofs.YtjkhmjklmclpoaaGreat.Tr
