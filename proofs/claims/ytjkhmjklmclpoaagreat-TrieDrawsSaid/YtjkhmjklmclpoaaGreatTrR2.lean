/- The reference's sets, walked: Set, Below, joined. (Layer 10.) -/
import Derived.Test.YtjkhmjklmclpoaaGreatTrR1
import Derived.Test.YtjkhmjklmclpoaaGreatTrD
namespace Go.Proofs.YtjkhmjklmclpoaaGreat.Tr
set_option linter.unusedVariables false
set_option linter.unusedSimpArgs false
open Go.RowKit Go.Lib
open Set (StrAt scells El Rise)
theorem catL_snoc' (l : List ByteArray) (x : ByteArray) : catL (l ++ [x]) = catL l ++ x.data.toList := by simp [catL]
theorem catL_take {l : List ByteArray} {k : Nat} (hk : k < l.length) : catL (l.take (k + 1)) = catL (l.take k) ++ (l[k]!).data.toList := by
  rw [List.take_add_one, List.getElem?_eq_getElem hk, getElem!_pos l k hk]
  exact catL_snoc' _ _
set_option maxRecDepth 100000 in
set_option maxHeartbeats 1000000 in
theorem rset_any (v : Value) (l : List ByteArray) (w : World) (h : StrAt w v l) (hn : l.length ≤ 1000000) : Calls Tryz.prog 32 #[v] w fun e w' => e = .returned (.bool (holds (IsSet l))) ∧ Below w.heap.size w w' := by
  have HS := Lib.hid h
  obtain ⟨ao, cap, rfl, h1, h2, -⟩ := h
  obtain ⟨n, hln⟩ : ∃ n, n = l.length := ⟨_, rfl⟩
  rw [← hln] at HS hn h1 ⊢
  have HL := Lib.hid hln
  clear hln
  go_enter Tryz.func32, Tryz.ntmps32
  go_wp2_with fail
  go_loopw [3] (fun c wr => ∃ k : Nat, c = .int .i64 (k : Int) ∧ k ≤ n ∧ Hid (Below w.heap.size w wr ∧ UpTo l k)) (fun c _ => ((n : Int) - intOf c).toNat)
  case atStart => exact ⟨0, rfl, by omega, Lib.hid ⟨Below.refl _ _, fun j hj => by omega⟩⟩
  case round =>
    obtain ⟨k, rfl, hk, HK⟩ := hrel
    rcases Nat.lt_or_ge k n with h3 | h3
    · have k1 : (k : Int) < n := by omega
      have kw : IntKind.i64.wrap ((k : Int) + 1) = ((k + 1 : Nat) : Int) := IntWalk.i64_in _ (by omega)
      obtain ⟨b, off, hao, hlt, hc⟩ := strAt_at HS.out (by omega)
      subst hao
      have c0 := hc k h3
      rw [← HK.out.1.cell hlt] at c0
      obtain ⟨x, hx⟩ : ∃ x, x = l[k]! := ⟨_, rfl⟩
      rw [← hx] at c0
      by_cases hz : x.size = 32
      · have g : ((x.size : Int) != 32) = false := by simp; omega
        rcases Nat.eq_zero_or_pos k with k0 | k0
        · have HX := Lib.hid (And.intro hx (And.intro hz k0))
          have c0' : wr.cell? ⟨b, off, none⟩ = some (.string x) := by rw [k0] at c0; simpa using c0
          have k2 : decide ((k : Int) > 0) = false := decide_eq_false (by omega)
          have k3 : decide ((0 : Int) < (k : Int)) = false := decide_eq_false (by omega)
          have k4 : decide (0 < k) = false := decide_eq_false (by omega)
          clear hc hx k0
          go_upto_region 4 with (fail)
          clear k1
          have k1 : (k : Int) < n := by omega
          go_quiet (fail)
          go_wp2_with fail
          refine ⟨⟨k + 1, by simp, by omega, Lib.hid ⟨below_drewN HK.out.1 nq, HK.out.2.one ?_ fun h => ?_⟩⟩, ?_⟩
          · rw [← HX.out.1]; exact HX.out.2.1
          · have := HX.out.2.2; omega
          · simp [intOf]
            omega
        · have k2 : (0 : Int) < (k : Int) := by omega
          have k2' : decide ((0 : Int) < (k : Int)) = true := decide_eq_true k2
          have k6 : decide (0 < k) = true := decide_eq_true k0
          obtain ⟨p, hp⟩ : ∃ p, k = p + 1 := ⟨k - 1, by omega⟩
          have kp : (k : Int) - 1 = (p : Int) := by omega
          have kpw : IntKind.i64.wrap ((k : Int) - 1) = (p : Int) := by rw [kp]; exact IntWalk.i64_in _ (by omega)
          have c1 := hc p (by omega)
          rw [← HK.out.1.cell hlt] at c1
          obtain ⟨y, hy⟩ : ∃ y, y = l[p]! := ⟨_, rfl⟩
          rw [← hy] at c1
          have k5 : (p : Int) < n := by omega
          obtain ⟨q, hq⟩ : ∃ q, q = Op.bytesLess y.toList x.toList := ⟨_, rfl⟩
          have hq2 := hq.symm
          have HX := Lib.hid (And.intro hx (And.intro hz (And.intro hp (And.intro hy hq))))
          clear hc hx k0 hp hy hq
          cases q with
          | true =>
            go_upto_region 4 with (fail)
            go_quiet (fail)
            go_wp2_with fail
            refine ⟨⟨k + 1, by simp, by omega, Lib.hid ⟨below_drewN HK.out.1 nq, HK.out.2.one ?_ fun h => ?_⟩⟩, ?_⟩
            · rw [← HX.out.1]; exact HX.out.2.1
            · have hq := HX.out.2.2.2.2
              rw [Set.less_lt] at hq
              rw [← HX.out.1, show k - 1 = p by have := HX.out.2.2.1; omega, ← HX.out.2.2.2.1]
              exact of_decide_eq_true hq.symm
            · simp [intOf]
              omega
          | false =>
            go_upto_region 4 with (fail)
            go_quiet (fail)
            go_wp2_with fail
            go_ret
            refine ⟨?_, below_drewN HK.out.1 nq⟩
            rw [holds_false]
            · rfl
            · intro hS
              have h5 := (hS k (by rw [← HL.out]; exact h3)).2 (by have := HX.out.2.2.1; omega)
              have hq := HX.out.2.2.2.2
              rw [Set.less_lt] at hq
              rw [← HX.out.1, show k - 1 = p by have := HX.out.2.2.1; omega, ← HX.out.2.2.2.1] at h5
              rw [decide_eq_true h5] at hq
              cases hq
      · have g : ((x.size : Int) != 32) = true := by simp; omega
        have HX := Lib.hid (And.intro hx hz)
        clear hc hx hz
        go_upto_region 4 with (fail)
        go_quiet (fail)
        go_wp2_with fail
        go_ret
        refine ⟨?_, below_drewN HK.out.1 nq⟩
        rw [holds_false]
        · rfl
        · intro hS
          have := (hS k (by rw [← HL.out]; exact h3)).1
          rw [← HX.out.1] at this
          exact HX.out.2 this
    · have k1 : decide ((k : Int) < n) = false := decide_eq_false (by omega)
      have k2 : ¬ ((k : Int) < n) := by omega
      obtain rfl : k = n := by omega
      go_wp2_with fail
      go_ret
      refine ⟨?_, HK.out.1⟩
      rw [holds_true]
      · rfl
      · unfold IsSet
        rw [← HL.out]
        exact HK.out.2
set_option maxRecDepth 100000 in
set_option maxHeartbeats 1000000 in
theorem rbelow_any (v : Value) (l : List ByteArray) (p : ByteArray) (w : World) (h : StrAt w v l) (hn : l.length ≤ 1000000) (hp : (p.size : Int) ≤ 9223372036854775807) :
    Calls Tryz.prog 34 #[v, .string p] w fun e w' => ∃ u, e = .returned u ∧ SlIs w' w.heap.size 9 1 u (belowL l p).length (scells (belowL l p)) ∧ Below w.heap.size w w' := by
  have HS := Lib.hid h
  obtain ⟨ao, cap, rfl, h1, h2, -⟩ := h
  obtain ⟨n, hln⟩ : ∃ n, n = l.length := ⟨_, rfl⟩
  rw [← hln] at HS hn h1 ⊢
  have HL := Lib.hid hln
  have HP := Lib.hid hp
  clear hln hp
  go_enter Tryz.func34, Tryz.ntmps34
  go_wp2_with fail
  go_loopw [5, 6] (fun u c wr => ∃ k : Nat, c = .int .i64 (k : Int) ∧ k ≤ n ∧ Hid (SlIs wr w.heap.size 9 1 u (belowL (l.take k) p).length (scells (belowL (l.take k) p)) ∧ Below w.heap.size w wr)) (fun _ c _ => ((n : Int) - intOf c).toNat)
  case atStart => exact ⟨0, rfl, by omega, Lib.hid ⟨SlIs.made (n := 0) (BlkIs.new _ _ _) (Nat.le_refl _) rfl (by decide), (Below.refl _ _).alloc (Nat.le_refl _) _⟩⟩
  case round =>
    obtain ⟨k, rfl, hk, HK⟩ := hrel
    have hbs := HK.out.2.size
    rcases Nat.lt_or_ge k n with h3 | h3
    · have k1 : (k : Int) < n := by omega
      have kw : IntKind.i64.wrap ((k : Int) + 1) = ((k + 1 : Nat) : Int) := IntWalk.i64_in _ (by omega)
      obtain ⟨b, off, hao, hlt, hc⟩ := strAt_at HS.out (by omega)
      subst hao
      have c0 := hc k h3
      rw [← HK.out.2.cell hlt] at c0
      obtain ⟨x, hx⟩ : ∃ x, x = l[k]! := ⟨_, rfl⟩
      rw [← hx] at c0
      have A := Lib.hid (rhas_any x p HP.out wr)
      have ht := below_take (l := l) (p := p) (k := k) (by rw [← HL.out]; exact h3)
      rw [← hx] at ht
      have hml : (belowL (l.take k) p).length ≤ 1000000 := Nat.le_trans (List.length_filter_le _ _) (by rw [List.length_take]; omega)
      obtain ⟨m, hm⟩ : ∃ m, m = belowL (l.take k) p := ⟨_, rfl⟩
      rw [← hm] at ht hml
      have HM := Lib.hid hm
      have HT := Lib.hid ht
      cases hq : hasB x p with
      | false =>
        rw [hq] at A
        have HQ := Lib.hid hq
        clear hc hx ht hq hm
        go_wp2_with fail
        refine A.out.mono ?_
        rintro e w1 ⟨rfl, rfl⟩
        have HN := Lib.hid HK.out
        clear A
        go_wp2_with fail
        refine ⟨⟨k + 1, by simp, by omega, Lib.hid ⟨?_, HN.out.2⟩⟩, ?_⟩
        · have := HT.out
          rw [HQ.out] at this
          simp only [Bool.false_eq_true, if_false] at this
          rw [this, HM.out]
          exact HN.out.1
        · simp [intOf]
          omega
      | true =>
        rw [hq] at A
        have HQ := Lib.hid hq
        clear hc hx ht hq hm
        go_wp2_with fail
        refine A.out.mono ?_
        rintro e w1 ⟨rfl, rfl⟩
        have HN := Lib.hid (show SlIs wr w.heap.size 9 1 _ m.length (scells m) ∧ Below w.heap.size w wr from ⟨by rw [HM.out]; exact HK.out.1, HK.out.2⟩)
        have hb1 := HN.out.2.size
        obtain ⟨ao2, cap2, rfl, hnc2, hcm2, hao2⟩ := HN.out.1.form
        clear A
        go_wp2_with (at_builtin
                     refine wpList_append_sl rfl _ _ _ 22 rfl Set.el_string (.slice ao2 m.length cap2) m.length (scells m) rfl (HN.out.1.alloc _) _ 1 [.string x] rfl (SrcIs.own Tryz.underlying22 (SlIs.made (base := 0) (BlkIs.new _ _ _) (Nat.zero_le _) rfl (by decide))) (by intro u hu; rcases List.mem_singleton.1 hu with rfl; rfl) (by unfold maxLen; omega) (by omega) (by simp only [World.size_alloc]; omega) ?_
                     intro v1 w5 hs1 hg1 hat1
                     have H5 := Lib.hid (And.intro hs1 ((HN.out.2.alloc hb1 (.cells #[.string x] 9)).grown hg1 (by simp only [World.size_alloc]; omega) fun j hj => (HN.out.1.lt j hj).1))
                     clear hs1 hg1 hat1 hao2)
        refine ⟨⟨k + 1, by simp, by omega, Lib.hid ⟨?_, H5.out.2⟩⟩, ?_⟩
        · have := HT.out
          rw [HQ.out] at this
          simp only [if_true] at this
          rw [this]
          have e : scells (m ++ [x]) = scells m ++ [.string x] := by simp [scells]
          rw [e, List.length_append]
          exact H5.out.1
        · simp [intOf]
          omega
    · have k1 : decide ((k : Int) < n) = false := decide_eq_false (by omega)
      have k2 : ¬ ((k : Int) < n) := by omega
      obtain rfl : k = n := by omega
      go_wp2_with fail
      go_ret
      refine ⟨_, rfl, ?_, HK.out.2⟩
      have := HK.out.1
      rwa [HL.out, List.take_length] at this
set_option maxRecDepth 100000 in
set_option maxHeartbeats 1000000 in
theorem rjoined_any (v : Value) (l : List ByteArray) (w : World) (h : StrAt w v l) (hn : l.length ≤ 1000000) (hs : ∀ x, x ∈ l → x.size = 32) :
    Calls Tryz.prog 43 #[v] w fun e w' => e = .returned (.string ⟨(catL l).toArray⟩) ∧ w = w' := by
  have HS := Lib.hid h
  obtain ⟨ao, cap, rfl, h1, h2, -⟩ := h
  obtain ⟨n, hln⟩ : ∃ n, n = l.length := ⟨_, rfl⟩
  rw [← hln] at HS hn h1 ⊢
  have HL := Lib.hid hln
  have HZ := Lib.hid hs
  clear hln hs
  go_enter Tryz.func43, Tryz.ntmps43
  go_wp2_with fail
  go_loopw [3, 4] (fun s c wr => ∃ j : Nat, c = .int .i64 (j : Int) ∧ j ≤ n ∧ s = .string ⟨(catL (l.take j)).toArray⟩ ∧ w = wr) (fun _ c _ => ((n : Int) - intOf c).toNat)
  case atStart => exact ⟨0, rfl, by omega, rfl, rfl⟩
  case round =>
    obtain ⟨j, rfl, hj, rfl, rfl⟩ := hrel
    rcases Nat.lt_or_ge j n with h3 | h3
    · have k1 : (j : Int) < n := by omega
      have kw : IntKind.i64.wrap ((j : Int) + 1) = ((j + 1 : Nat) : Int) := IntWalk.i64_in _ (by omega)
      obtain ⟨b, off, hao, hlt, hc⟩ := strAt_at HS.out (by omega)
      subst hao
      have c0 := hc j h3
      obtain ⟨xs, hxs⟩ : ∃ x, x = l[j]! := ⟨_, rfl⟩
      rw [← hxs] at c0
      have hjl : j < l.length := by rw [← HL.out]; exact h3
      have hct : catL (l.take (j + 1)) = catL (l.take j) ++ xs.data.toList := by rw [hxs]; exact catL_take hjl
      have hxs32 : xs.size = 32 := by rw [hxs, getElem!_pos l j hjl]; exact HZ.out _ (List.getElem_mem hjl)
      obtain ⟨S, hS1⟩ : ∃ S : ByteArray, S = ⟨(catL (l.take j)).toArray⟩ := ⟨_, rfl⟩
      obtain ⟨S', hS2⟩ : ∃ S : ByteArray, S = ⟨(catL (l.take (j + 1))).toArray⟩ := ⟨_, rfl⟩
      have hSS : S ++ xs = S' := by
        rw [hS1, hS2, hct]
        apply ByteArray.ext
        simp
      have hSz : S.size ≤ 1000000000 := by
        rw [hS1]
        have h5 : (catL (l.take j)).length = 32 * (l.take j).length := catL_length fun x hx => HZ.out x (List.mem_of_mem_take hx)
        have h6 : (⟨(catL (l.take j)).toArray⟩ : ByteArray).size = (catL (l.take j)).length := by simp [ByteArray.size]
        rw [h6, h5, List.length_take]
        omega
      have hSf : ¬ (9223372036854775807 < S.size + xs.size) := by omega
      rw [← hS1]
      have HS2 := Lib.hid hS2
      clear hS1 hS2 hct hxs32 hSz hc hxs hjl
      go_wp2_with fail
      refine ⟨⟨j + 1, by simp, by omega, by rw [HS2.out], by first | rfl | trivial⟩, ?_⟩
      simp [intOf]
      omega
    · have k1 : decide ((j : Int) < n) = false := decide_eq_false (by omega)
      have k2 : ¬ ((j : Int) < n) := by omega
      obtain rfl : j = n := by omega
      have hkl : l.take j = l := by rw [HL.out]; exact List.take_length
      rw [hkl]
      clear hkl
      go_wp2_with fail
      go_ret
      exact ⟨rfl, rfl⟩
end Go.Proofs.YtjkhmjklmclpoaaGreat.Tr
