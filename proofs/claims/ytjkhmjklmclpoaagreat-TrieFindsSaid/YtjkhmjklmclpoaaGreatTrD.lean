/- trie: below, leaf, inner, walked. Conditions: at most 1,000,000 ids. (Layer 10.) -/
import Derived.Test.YtjkhmjklmclpoaaGreatTrC
namespace Go.Proofs.YtjkhmjklmclpoaaGreat.Tr
set_option linter.unusedVariables false
set_option linter.unusedSimpArgs false
open Go.RowKit Go.Lib
open Set (StrAt scells El Rise)
def belowL (l : List ByteArray) (p : ByteArray) : List ByteArray := l.filter fun x => hasB x p
theorem below_take {l : List ByteArray} {p : ByteArray} {k : Nat} (hk : k < l.length) : belowL (l.take (k + 1)) p = if hasB l[k]! p then belowL (l.take k) p ++ [l[k]!] else belowL (l.take k) p := by
  unfold belowL
  rw [List.take_add_one, List.getElem?_eq_getElem hk, List.filter_append, getElem!_pos l k hk]
  cases hq : hasB l[k] p <;> simp [hq]
set_option maxRecDepth 100000 in
set_option maxHeartbeats 1000000 in
theorem below_any (v : Value) (l : List ByteArray) (p : ByteArray) (w : World) (h : StrAt w v l) (hn : l.length ≤ 1000000) (hp : (p.size : Int) ≤ 9223372036854775807) :
    Calls Tryz.prog 30 #[v, .string p] w fun e w' => ∃ u, e = .returned u ∧ SlIs w' w.heap.size 9 1 u (belowL l p).length (scells (belowL l p)) ∧ Below w.heap.size w w' := by
  have HS := Lib.hid h
  obtain ⟨ao, cap, rfl, h1, h2, -⟩ := h
  obtain ⟨n, hln⟩ : ∃ n, n = l.length := ⟨_, rfl⟩
  rw [← hln] at HS hn h1 ⊢
  have HL := Lib.hid hln
  have HP := Lib.hid hp
  clear hln hp
  go_enter Tryz.func30, Tryz.ntmps30
  go_wp2_with fail
  go_loopw [5, 10] (fun u c wr => ∃ k : Nat, c = .int .i64 (k : Int) ∧ k ≤ n ∧ Hid (SlIs wr w.heap.size 9 1 u (belowL (l.take k) p).length (scells (belowL (l.take k) p)) ∧ Below w.heap.size w wr)) (fun _ c _ => ((n : Int) - intOf c).toNat)
  case atStart => exact ⟨0, rfl, by omega, Lib.hid ⟨SlIs.nil_ _ _ _ _, Below.refl _ _⟩⟩
  case round =>
    obtain ⟨k, rfl, hk, HK⟩ := hrel
    have hbs := HK.out.2.size
    rcases Nat.lt_or_ge k n with h3 | h3
    · have k1 : (k : Int) < n := by omega
      have kw : IntKind.i64.wrap ((k : Int) + 1) = ((k + 1 : Nat) : Int) := IntWalk.i64_in _ (by omega)
      obtain ⟨b, off, hao, hlt, hc⟩ := strAt_at HS.out (by omega)
      subst hao
      have c0 := hc k h3
      rw [← HK.out.2.cell hlt] at c0
      obtain ⟨x, hx⟩ : ∃ x, x = l[k]! := ⟨_, rfl⟩
      rw [← hx] at c0
      have A := Lib.hid (has_any x p HP.out wr)
      have ht := below_take (l := l) (p := p) (k := k) (by rw [← HL.out]; exact h3)
      rw [← hx] at ht
      have hml : (belowL (l.take k) p).length ≤ 1000000 := Nat.le_trans (List.length_filter_le _ _) (by rw [List.length_take]; omega)
      obtain ⟨m, hm⟩ : ∃ m, m = belowL (l.take k) p := ⟨_, rfl⟩
      rw [← hm] at ht hml
      have HM := Lib.hid hm
      have HT := Lib.hid ht
      cases hq : hasB x p with
      | false =>
        rw [hq] at A
        have HQ := Lib.hid hq
        clear hc hx ht hq hm
        go_wp2_with fail
        refine A.out.mono ?_
        rintro e w1 ⟨rfl, hb⟩
        have HN := Lib.hid (And.intro (HK.out.1.later hb) (HK.out.2.trans (hb.mono HK.out.2.size)))
        clear A hb
        go_wp2_with fail
        refine ⟨⟨k + 1, by simp, by omega, Lib.hid ⟨?_, HN.out.2⟩⟩, ?_⟩
        · have := HT.out
          rw [HQ.out] at this
          simp only [Bool.false_eq_true, if_false] at this
          rw [this, HM.out]
          exact HN.out.1
        · simp [intOf]
          omega
      | true =>
        rw [hq] at A
        have HQ := Lib.hid hq
        clear hc hx ht hq hm
        go_wp2_with fail
        refine A.out.mono ?_
        rintro e w1 ⟨rfl, hb⟩
        have HN := Lib.hid (show SlIs w1 w.heap.size 9 1 _ m.length (scells m) ∧ Below w.heap.size w w1 from ⟨by rw [HM.out]; exact HK.out.1.later hb, HK.out.2.trans (hb.mono HK.out.2.size)⟩)
        have hb1 := HN.out.2.size
        obtain ⟨ao2, cap2, rfl, hnc2, hcm2, hao2⟩ := HN.out.1.form
        clear A hb
        go_wp2_with (at_builtin
                     refine wpList_append_sl rfl _ _ _ 22 rfl Set.el_string (.slice ao2 m.length cap2) m.length (scells m) rfl (HN.out.1.alloc _) _ 1 [.string x] rfl (SrcIs.own Tryz.underlying22 (SlIs.made (base := 0) (BlkIs.new _ _ _) (Nat.zero_le _) rfl (by decide))) (by intro u hu; rcases List.mem_singleton.1 hu with rfl; rfl) (by unfold maxLen; omega) (by omega) (by simp only [World.size_alloc]; omega) ?_
                     intro v1 w5 hs1 hg1 hat1
                     have H5 := Lib.hid (And.intro hs1 ((HN.out.2.alloc hb1 (.cells #[.string x] 9)).grown hg1 (by simp only [World.size_alloc]; omega) fun j hj => (HN.out.1.lt j hj).1))
                     clear hs1 hg1 hat1 hao2)
        refine ⟨⟨k + 1, by simp, by omega, Lib.hid ⟨?_, H5.out.2⟩⟩, ?_⟩
        · have := HT.out
          rw [HQ.out] at this
          simp only [if_true] at this
          rw [this]
          have e : scells (m ++ [x]) = scells m ++ [.string x] := by simp [scells]
          rw [e, List.length_append]
          exact H5.out.1
        · simp [intOf]
          omega
    · have k1 : decide ((k : Int) < n) = false := decide_eq_false (by omega)
      have k2 : ¬ ((k : Int) < n) := by omega
      obtain rfl : k = n := by omega
      go_wp2_with fail
      go_ret
      refine ⟨_, rfl, ?_, HK.out.2⟩
      have := HK.out.1
      rwa [HL.out, List.take_length] at this
/-- Texts one behind the other. -/
def catL (l : List ByteArray) : List UInt8 := (l.map (·.data.toList)).flatten
theorem join_flat : ∀ xs : List (List UInt8), Lib.join xs [] = xs.flatten
  | [] => rfl
  | [x] => by simp [Lib.join]
  | x :: y :: r => by
    have := join_flat (y :: r)
    simp [Lib.join] at this ⊢
    exact this
theorem catL_length {l : List ByteArray} (h : ∀ x, x ∈ l → x.size = 32) : (catL l).length = 32 * l.length := by
  induction l with
  | nil => rfl
  | cons x r ih =>
    have h1 := h x (by simp)
    have h2 := ih fun y hy => h y (by simp [hy])
    have h3 : x.data.toList.length = 32 := by simpa using h1
    simp only [catL, List.map_cons, List.flatten_cons, List.length_append, List.length_cons] at h2 ⊢
    rw [h3, h2]
    omega
def leafS (l : List ByteArray) : ByteArray := ⟨(Sha.sum (108 :: catL l)).toArray⟩
def innerS (l : List ByteArray) : ByteArray := ⟨(Sha.sum (107 :: catL l)).toArray⟩
theorem join_any (v : Value) (l : List ByteArray) (w : World) (h : StrAt w v l) (hn : l.length ≤ 1000000) (hs : ∀ x, x ∈ l → x.size = 32) :
    Calls Tryz.prog 67 #[v, .string ⟨#[]⟩] w fun e w' => e = .returned (.string ⟨(catL l).toArray⟩) ∧ Below w.heap.size w w' := by
  obtain ⟨ao, cap, rfl, h1, h2, h3⟩ := h
  rcases Nat.eq_zero_or_pos l.length with h0 | h0
  · have hl := List.eq_nil_of_length_eq_zero h0
    subst hl
    refine (Tryz.strings_Join_none ao cap ⟨#[]⟩ w).mono ?_
    rintro e w' ⟨rfl, rfl⟩
    exact ⟨rfl, Below.refl _ _⟩
  · obtain ⟨b, off, rfl, hlt, hc⟩ := h3 h0
    have hj : Lib.join (l.map (·.data.toList)) (⟨#[]⟩ : ByteArray).data.toList = catL l := join_flat _
    have := Tryz.strings_Join b off cap l ⟨#[]⟩ w (fun j x hx => by
      obtain ⟨hj, he⟩ := List.getElem?_eq_some_iff.1 hx
      rw [hc j hj, he]) hlt (by omega) h1 (by rw [hj, catL_length hs]; omega)
    rw [hj] at this
    exact this
theorem leaf_any (v : Value) (l : List ByteArray) (w : World) (h : StrAt w v l) (hn : l.length ≤ 1000000) (hs : ∀ x, x ∈ l → x.size = 32) :
    Calls Tryz.prog 45 #[v] w fun e w' => e = .returned (.string (leafS l)) ∧ Below w.heap.size w w' := by
  have J := Lib.hid (join_any v l w h hn hs)
  obtain ⟨E, hE⟩ : ∃ E : ByteArray, E = ⟨#[108]⟩ ++ ⟨(catL l).toArray⟩ := ⟨_, rfl⟩
  have hEl : E.data.toList = 108 :: catL l := by rw [hE]; simp
  have hEs : E.size = 1 + (catL l).length := by
    have := congrArg List.length hEl
    simp at this
    rw [this]
    omega
  have S := Lib.hid (fun w => Sha.sum_any E w (by rw [hEs, catL_length hs]; omega))
  rw [hEl] at S
  have hE2 := hE.symm
  have hfit0 : (⟨(catL l).toArray⟩ : ByteArray).size ≤ 1000000000 := by
    have e : (⟨(catL l).toArray⟩ : ByteArray).size = (catL l).length := by simp [ByteArray.size]
    rw [e, catL_length hs]
    omega
  obtain ⟨C, hC⟩ : ∃ C : ByteArray, C = ⟨(catL l).toArray⟩ := ⟨_, rfl⟩
  rw [← hC] at J hE2 hfit0
  have hfit1 : ¬ (9223372036854775807 < (⟨#[108]⟩ : ByteArray).size + C.size) := by
    have : (⟨#[108]⟩ : ByteArray).size = 1 := rfl
    omega
  have hfit2 : ¬ (9223372036854775807 < 1 + C.size) := by omega
  obtain ⟨Z, hZ⟩ : ∃ Z, Z = leafS l := ⟨_, rfl⟩
  have hZ2 : (⟨(Sha.sum (108 :: catL l)).toArray⟩ : ByteArray) = Z := hZ.symm
  rw [hZ2] at S
  rw [← hZ]
  obtain ⟨ao, cap, rfl, -, -, -⟩ := h
  clear hE hEl hEs hs hn hC hZ hZ2
  go_enter Tryz.func45, Tryz.ntmps45
  go_wp2_with fail
  refine J.out.mono ?_
  rintro e w1 ⟨rfl, hb⟩
  have HB := Lib.hid hb
  clear J hb
  go_wp2_with fail
  refine (S.out _).mono ?_
  rintro e w2 ⟨rfl, hb⟩
  have HB2 := Lib.hid (HB.out.trans (hb.mono HB.out.size))
  clear S hb
  go_wp2_with fail
  go_ret
  exact ⟨rfl, HB2.out⟩
theorem inner_any (v : Value) (l : List ByteArray) (w : World) (h : StrAt w v l) (hn : l.length ≤ 1000000) (hs : ∀ x, x ∈ l → x.size = 32) :
    Calls Tryz.prog 41 #[v] w fun e w' => e = .returned (.string (innerS l)) ∧ Below w.heap.size w w' := by
  have J := Lib.hid (join_any v l w h hn hs)
  obtain ⟨E, hE⟩ : ∃ E : ByteArray, E = ⟨#[107]⟩ ++ ⟨(catL l).toArray⟩ := ⟨_, rfl⟩
  have hEl : E.data.toList = 107 :: catL l := by rw [hE]; simp
  have hEs : E.size = 1 + (catL l).length := by
    have := congrArg List.length hEl
    simp at this
    rw [this]
    omega
  have S := Lib.hid (fun w => Sha.sum_any E w (by rw [hEs, catL_length hs]; omega))
  rw [hEl] at S
  have hE2 := hE.symm
  have hfit0 : (⟨(catL l).toArray⟩ : ByteArray).size ≤ 1000000000 := by
    have e : (⟨(catL l).toArray⟩ : ByteArray).size = (catL l).length := by simp [ByteArray.size]
    rw [e, catL_length hs]
    omega
  obtain ⟨C, hC⟩ : ∃ C : ByteArray, C = ⟨(catL l).toArray⟩ := ⟨_, rfl⟩
  rw [← hC] at J hE2 hfit0
  have hfit1 : ¬ (9223372036854775807 < (⟨#[107]⟩ : ByteArray).size + C.size) := by
    have : (⟨#[107]⟩ : ByteArray).size = 1 := rfl
    omega
  have hfit2 : ¬ (9223372036854775807 < 1 + C.size) := by omega
  obtain ⟨Z, hZ⟩ : ∃ Z, Z = innerS l := ⟨_, rfl⟩
  have hZ2 : (⟨(Sha.sum (107 :: catL l)).toArray⟩ : ByteArray) = Z := hZ.symm
  rw [hZ2] at S
  rw [← hZ]
  obtain ⟨ao, cap, rfl, -, -, -⟩ := h
  clear hE hEl hEs hs hn hC hZ hZ2
  go_enter Tryz.func41, Tryz.ntmps41
  go_wp2_with fail
  refine J.out.mono ?_
  rintro e w1 ⟨rfl, hb⟩
  have HB := Lib.hid hb
  clear J hb
  go_wp2_with fail
  refine (S.out _).mono ?_
  rintro e w2 ⟨rfl, hb⟩
  have HB2 := Lib.hid (HB.out.trans (hb.mono HB.out.size))
  clear S hb
  go_wp2_with fail
  go_ret
  exact ⟨rfl, HB2.out⟩
end Go.Proofs.YtjkhmjklmclpoaaGreat.Tr
