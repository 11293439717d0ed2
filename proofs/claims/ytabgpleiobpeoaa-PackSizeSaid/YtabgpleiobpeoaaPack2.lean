/- pack.fan, walked: of each first byte how many ids. Conditions: the ids rise by their first bytes, none is empty, at most 1,000,000. (Layer 07.) -/
import Derived.Test.YtabgpleiobpeoaaPack1
import Derived.Test.YtabgpleiobpeoaaBuilder
namespace Go.Proofs.Ytabgpleiobpeoaa.Pak
set_option linter.unusedVariables false
open Go.RowKit Go.Sort Go.Lib
open Oct (le32)
theorem own_later {w w' : World} {B : Nat} {e : TypeId} {v : Value} {n : Nat} {xs : List Value} (h : w.ownsRow B e 1 v n xs) (hb : Below w.heap.size w w') : w'.ownsRow B e 1 v n xs := by
  refine ⟨h.1, ?_⟩
  rcases h.2 with h0 | ⟨g, cap, cur, hv, hg, hh, r⟩
  · exact Or.inl h0
  · refine Or.inr ⟨g, cap, cur, hv, hg, ?_, r⟩
    rw [hb.block g (BlkIs.lt (t := e) (cs := cur) hh)]
    exact hh
theorem _root_.Go.Proofs.Ytabgpleiobpeoaa.Bld.Is.later {w w' : World} {B b : Nat} {l : List UInt8} (h : Bld.Is w B b l) (hb : Below w.heap.size w w') : Bld.Is w' B b l := by
  have step : ∀ p, Lib.BuilderAt 48 5 B b p (Lib.byteCells l) w → Lib.BuilderAt 48 5 B b p (Lib.byteCells l) w' := by
    rintro p ⟨hB, v, hbk, hown, hne⟩
    refine ⟨hB, v, ?_, own_later hown hb, hne⟩
    rw [hb.block b (Lib.BuilderAt.lt (T := 48) (e := 5) ⟨hB, v, hbk, hown, hne⟩)]
    exact hbk
  rcases h with h | h
  · exact Or.inl (step _ h)
  · exact Or.inr (step _ h)
theorem fan_iff (b : Nat) : ∀ (ids : List ByteArray), ids.Pairwise (fun x y => first x ≤ first y) → ∀ n (h : n < ids.length), n < fanN ids b ↔ first ids[n] ≤ b
  | [], _, n, h => absurd h (Nat.not_lt_zero _)
  | x :: r, hp, n, h => by
    have hp' := List.pairwise_cons.1 hp
    by_cases hx : first x ≤ b
    · have e : fanN (x :: r) b = fanN r b + 1 := by unfold fanN; rw [List.countP_cons_of_pos (by simpa using hx)]
      rw [e]
      cases n with
      | zero => simp [hx]
      | succ m =>
        have ih := fan_iff b r hp'.2 m (by simpa using h)
        rw [List.getElem_cons_succ, ← ih]
        omega
    · have e : fanN (x :: r) b = 0 := by
        unfold fanN
        rw [List.countP_eq_zero]
        intro y hy
        rcases List.mem_cons.1 hy with rfl | hy
        · simpa using hx
        · have := hp'.1 y hy
          simp
          omega
      rw [e]
      have : first x ≤ first (x :: r)[n] := by
        cases n with
        | zero => exact Nat.le_refl _
        | succ m => exact hp'.1 _ (List.getElem_mem _)
      constructor
      · intro h; omega
      · intro h; omega
theorem fanN_le (ids : List ByteArray) (b : Nat) : fanN ids b ≤ ids.length := List.countP_le_length
theorem fanN_mono (ids : List ByteArray) {a b : Nat} (h : a ≤ b) : fanN ids a ≤ fanN ids b := by
  unfold fanN
  exact List.countP_mono_left fun x _ hx => by simp at hx ⊢; omega
def fanPrev (ids : List ByteArray) : Nat → Nat
  | 0 => 0
  | b + 1 => fanN ids b
theorem fanPrev_le (ids : List ByteArray) : ∀ b, fanPrev ids b ≤ fanN ids b
  | 0 => Nat.zero_le _
  | b + 1 => fanN_mono ids (by omega)
theorem fanB_snoc (ids : List ByteArray) (n : Nat) : fanB ids (n + 1) = fanB ids n ++ le32 (fanN ids n) := by
  unfold fanB
  rw [List.range_succ, List.flatMap_append]
  simp
theorem fanB_length (ids : List ByteArray) : ∀ n, (fanB ids n).length = 4 * n
  | 0 => rfl
  | n + 1 => by rw [fanB_snoc, List.length_append, fanB_length ids n, Oct.le32_length]; omega
theorem le_size (q : Nat) : (ByteArray.mk (le32 q).toArray).size = 4 := rfl
theorem wrap_byte (c : UInt8) : wrap64 (c.toNat : Int) = c.toNat := by
  have := c.toNat_lt
  unfold wrap64
  omega
theorem first_at {s : ByteArray} (h : 0 < s.size) : first s = (s[0]'h).toNat := by
  unfold first
  have hl : 0 < s.data.toList.length := by rw [Array.length_toList]; exact h
  match hs : s.data.toList, hl with
  | x :: r, _ =>
    have : s.data.toList[0]'(by rw [Array.length_toList]; exact h) = x := by simp [hs]
    simp only [List.headD_cons]
    rw [← this]
    rfl
set_option maxRecDepth 100000 in
set_option maxHeartbeats 1000000 in
theorem fan_any (ao : Option Addr) (cap : Nat) (ids : List ByteArray) (w : World) (h : StrsAt w ao ids) (hp : ids.Pairwise fun x y => first x ≤ first y) (h0 : ∀ s ∈ ids, 0 < s.size) (hn : ids.length ≤ 1000000) :
    Calls Try.prog 25 #[.slice ao ids.length cap] w fun e w' => e = .returned (.string ⟨(fanB ids 256).toArray⟩) ∧ Below w.heap.size w w' := by
  have hm := h.1
  have H := Lib.hid (And.intro h (And.intro hp h0))
  clear h hp h0
  go_enter Try.func25, Try.ntmps25
  go_wp2_with fail
  have H0 := Lib.hid (show ∃ W, W = w.alloc (.cells #[.pointer none, .slice none 0 0] 48) ∧ Bld.Is W w.heap.size w.heap.size (fanB ids 0) ∧ Below w.heap.size w W from ⟨_, rfl, Bld.Is.new w, (Below.refl _ _).alloc (Nat.le_refl _) _⟩)
  obtain ⟨W, hW, H0⟩ := H0.out
  rw [← hW]
  have H0 := Lib.hid H0
  clear hW
  go_loopw [4, 6] (fun n i wr => ∃ (k m : Nat), i = .int .i64 (k : Int) ∧ k ≤ 256 ∧ n = .int .i64 (m : Int) ∧ Hid (m = fanPrev ids k ∧ Bld.Is wr w.heap.size w.heap.size (fanB ids k) ∧ Below w.heap.size w wr)) (fun _ i _ => ((256 : Int) - intOf i).toNat)
  case atStart => exact ⟨0, 0, rfl, by omega, rfl, Lib.hid ⟨rfl, H0.out⟩⟩
  case round =>
    obtain ⟨k, m, rfl, hk, rfl, HR⟩ := hrel
    clear H0
    obtain ⟨W1, hW1⟩ : ∃ W1, W1 = wr := ⟨_, rfl⟩
    subst hW1
    rcases Nat.lt_or_ge k 256 with hk1 | hk1
    · have ki : (k : Int) < 256 := by omega
      have hm0 : m ≤ fanN ids k := by rw [HR.out.1]; exact fanPrev_le ids k
      go_wp2_with fail
      go_loopw [4] (fun n wr => ∃ q : Nat, n = .int .i64 (q : Int) ∧ q ≤ fanN ids k ∧ W1 = wr) (fun n _ => ((ids.length : Int) - intOf n).toNat)
      case atStart => exact ⟨m, rfl, hm0, rfl⟩
      case round =>
        obtain ⟨q, rfl, hq, rfl⟩ := hrel
        have hfl := fanN_le ids k
        rcases Nat.lt_or_ge q (fanN ids k) with hq1 | hq1
        · have hql : q < ids.length := by omega
          have hfi := (fan_iff k ids H.out.2.1 q hql).1 hq1
          obtain ⟨b, off, rfl, hlt, hcell⟩ := H.out.1.2 (by omega)
          have c0 := hcell q hql
          rw [← HR.out.2.2.cell hlt] at c0
          have hs0 := H.out.2.2 _ (List.getElem_mem hql)
          obtain ⟨y, hy⟩ : ∃ y, y = ids[q] := ⟨_, rfl⟩
          rw [← hy] at c0 hs0 hfi
          rw [first_at hs0] at hfi
          have ki2 : (q : Int) < ids.length := by omega
          have hw64 := wrap_byte y[0]
          have hle : decide (wrap64 (y[0].toNat : Int) ≤ k) = true := decide_eq_true (by rw [hw64]; omega)
          clear hw64
          clear hcell hy
          go_wp2_with fail
          refine ⟨⟨q + 1, rfl, hq1, trivial⟩, ?_⟩
          simp [intOf]
          omega
        · obtain rfl : q = fanN ids k := by omega
          have Hq := Lib.hid (fanB_snoc ids k)
          obtain ⟨q, hqq⟩ : ∃ q, q = fanN ids k := ⟨_, rfl⟩
          rw [← hqq] at Hq hfl ⊢
          have HQ := Lib.hid (show fanPrev ids (k + 1) = q from hqq.symm)
          have NU := Lib.hid (Oct.num q)
          rcases Nat.lt_or_ge q ids.length with hql | hql
          · have hfi : ¬ first ids[q] ≤ k := fun h => by have := (fan_iff k ids H.out.2.1 q hql).2 h; omega
            obtain ⟨b, off, rfl, hlt, hcell⟩ := H.out.1.2 (by omega)
            have c0 := hcell q hql
            rw [← HR.out.2.2.cell hlt] at c0
            have hs0 := H.out.2.2 _ (List.getElem_mem hql)
            obtain ⟨y, hy⟩ : ∃ y, y = ids[q] := ⟨_, rfl⟩
            rw [← hy] at c0 hs0 hfi
            rw [first_at hs0] at hfi
            have ki2 : (q : Int) < ids.length := by omega
            have hw64 := wrap_byte y[0]
            have hle : decide (wrap64 (y[0].toNat : Int) ≤ k) = false := decide_eq_false (by rw [hw64]; omega)
            clear hw64
            clear hcell hy hqq
            have hmod : (q : Int) % 4294967296 = q := by omega
            go_wp2_with fail
            clear hmod
            refine (NU.out _).mono ?_
            rintro e w2 ⟨rfl, hb2⟩
            have hI2 := HR.out.2.1.later hb2
            have hsz2 := HR.out.2.2.size
            have WS := Lib.hid (Bld.writeString w.heap.size w.heap.size (fanB ids k) ⟨(le32 q).toArray⟩ w2 hI2 (by rw [fanB_length, le_size]; omega) (Nat.le_trans hsz2 hb2.size))
            have HB2 := Lib.hid (HR.out.2.2.trans (hb2.mono hsz2))
            clear hb2 NU hI2
            go_wp2_with fail
            refine WS.out.mono ?_
            rintro e w3 ⟨rfl, hI3, hb3⟩
            have H3 := Lib.hid (And.intro hI3 (HB2.out.trans hb3))
            clear hI3 hb3 WS
            go_wp2_with fail
            refine ⟨⟨k + 1, q, rfl, hk1, rfl, Lib.hid ⟨HQ.out.symm, by rw [Hq.out]; exact H3.out.1, H3.out.2⟩⟩, ?_⟩
            simp [intOf]
            omega
          · have ki2 : decide ((q : Int) < ids.length) = false := by simp; omega
            clear hqq
            have hmod : (q : Int) % 4294967296 = q := by omega
            go_wp2_with fail
            clear hmod
            refine (NU.out _).mono ?_
            rintro e w2 ⟨rfl, hb2⟩
            have hI2 := HR.out.2.1.later hb2
            have hsz2 := HR.out.2.2.size
            have WS := Lib.hid (Bld.writeString w.heap.size w.heap.size (fanB ids k) ⟨(le32 q).toArray⟩ w2 hI2 (by rw [fanB_length, le_size]; omega) (Nat.le_trans hsz2 hb2.size))
            have HB2 := Lib.hid (HR.out.2.2.trans (hb2.mono hsz2))
            clear hb2 NU hI2
            go_wp2_with fail
            refine WS.out.mono ?_
            rintro e w3 ⟨rfl, hI3, hb3⟩
            have H3 := Lib.hid (And.intro hI3 (HB2.out.trans hb3))
            clear hI3 hb3 WS
            go_wp2_with fail
            refine ⟨⟨k + 1, q, rfl, hk1, rfl, Lib.hid ⟨HQ.out.symm, by rw [Hq.out]; exact H3.out.1, H3.out.2⟩⟩, ?_⟩
            simp [intOf]
            omega
    · have ki : (256 : Int) ≤ (k : Int) := by omega
      obtain rfl : k = 256 := by omega
      have ST := Lib.hid (Bld.string w.heap.size w.heap.size (fanB ids 256) W1 HR.out.2.1 (fun h => by have := fanB_length ids 256; rw [h] at this; simp at this))
      go_wp2_with fail
      refine ST.out.mono ?_
      rintro e w2 ⟨rfl, hb2⟩
      have H2 := Lib.hid (HR.out.2.2.trans hb2)
      clear hb2 ST
      go_wp2_with fail
      go_ret
      exact ⟨rfl, H2.out⟩
end Go.Proofs.Ytabgpleiobpeoaa.Pak
