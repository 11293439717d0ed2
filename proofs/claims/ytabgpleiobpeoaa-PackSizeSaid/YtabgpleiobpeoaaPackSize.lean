/- The law PackSize answers true. Conditions: none but the memory's reach. (Layer 07.) -/
import Derived.Test.YtabgpleiobpeoaaPackAwake
import Derived.RegionTactic
namespace Go.Proofs.Ytabgpleiobpeoaa.Pak
set_option linter.unusedVariables false
open Go.RowKit Go.Sort Go.Lib
set_option maxRecDepth 100000 in
set_option maxHeartbeats 2000000 in
theorem size_any (ao : Option Addr) (n cap : Nat) (ss : List ByteArray) (turn : Int) (w : World) (h : StrRow w ao n ss) (hcap : n ≤ cap ∧ cap ≤ maxLen) :
    Calls Try.prog 8 #[.slice ao n cap, .int .i64 turn] w fun e w' => e = .returned (.bool true) ∧ Below w.heap.size w w' := by
  have hS := strsAt_row h
  have hsz := h.2.1
  obtain ⟨rfl, -⟩ := h
  have hm := hS.1
  have A := Lib.hid (awake_any w)
  have HS := Lib.hid hS
  have G := Lib.hid (fun w' (hb : Below w.heap.size w w') => great_any ao cap ss w' (hS.later hb) hsz)
  have HC := Lib.hid hcap
  clear hS hsz hcap
  go_enter Try.func8, Try.ntmps8
  go_wp2_with fail
  refine A.out.mono ?_
  rintro e w1 ⟨rfl, hb1⟩
  have H1 := Lib.hid hb1
  clear hb1 A
  go_wp2_with fail
  refine (G.out w1 H1.out).mono ?_
  rintro e w2 ⟨⟨g, rfl, hg⟩, rfl⟩
  clear G
  cases g
  case true =>
    clear hg
    go_wp2_with fail
    go_ret
    exact ⟨rfl, H1.out⟩
  rcases Nat.eq_zero_or_pos ss.length with hl0 | hl0
  · have z : ((ss.length : Int) == 0) = true := beq_iff_eq.2 (by omega)
    clear hl0 hg
    go_wp2_with fail
    go_ret
    exact ⟨rfl, H1.out⟩
  have z : ((ss.length : Int) == 0) = false := by rw [beq_eq_false_iff_ne]; omega
  have z2 : ¬ ((ss.length : Int) = 0) := by omega
  have z3 : ¬ ss = [] := fun e => by rw [e] at hl0; exact Nat.lt_irrefl _ hl0
  obtain ⟨h60, htot⟩ := hg rfl
  have M := Lib.hid (make_any ao cap ss w1 (HS.out.later H1.out) (by omega) (by omega))
  have HG := Lib.hid (And.intro h60 (And.intro htot hl0))
  clear hg h60 htot hl0
  go_wp2_with fail
  obtain ⟨k, hk, hke⟩ : ∃ k : Nat, k < ss.length ∧ wrap64 ((IntKind.u64.wrap turn).tmod ↑ss.length) = (k : Int) := by
    have hl0 := HG.out.2.2
    have ha : 0 ≤ IntKind.u64.wrap turn := by rw [IntKind.wrap_u64]; omega
    refine ⟨((IntKind.u64.wrap turn).tmod ↑ss.length).toNat, ?_, ?_⟩
    · rw [Int.tmod_eq_emod_of_nonneg ha]
      have := Int.emod_lt_of_pos (IntKind.u64.wrap turn) (show (0 : Int) < ss.length by omega)
      have := Int.emod_nonneg (IntKind.u64.wrap turn) (show (ss.length : Int) ≠ 0 by omega)
      omega
    · rw [Int.tmod_eq_emod_of_nonneg ha]
      have := Int.emod_lt_of_pos (IntKind.u64.wrap turn) (show (0 : Int) < ss.length by omega)
      have := Int.emod_nonneg (IntKind.u64.wrap turn) (show (ss.length : Int) ≠ 0 by omega)
      unfold wrap64
      omega
  rw [hke]
  clear hke
  obtain ⟨m, hm0⟩ : ∃ m, m = ss.drop k ++ ss.take k := ⟨_, rfl⟩
  have hpm : ss.Perm m := by
    have h1 : (ss.take k ++ ss.drop k).Perm m := by rw [hm0]; exact List.perm_append_comm
    rwa [List.take_append_drop] at h1
  refine M.out.mono ?_
  rintro e w3 ⟨c, b, rfl, hm3, hb3⟩
  have H3 := Lib.hid (H1.out.trans (hb3.mono H1.out.size))
  have HM3 := Lib.hid hm3
  obtain ⟨bb, off, rfl, hlt, hcell⟩ := HS.out.2 HG.out.2.2
  have hcc := HC.out
  have hml : m.length = ss.length := hpm.length_eq.symm
  have M2 := Lib.hid (fun (ao' : Option Addr) (cap' : Nat) (w' : World) (h : StrsAt w' ao' m) => show Calls Try.prog 11 #[.slice ao' ss.length cap'] w' fun e w'' => MakeOut m w' w'' e from by
    rw [← hml]; exact make_any ao' cap' m w' h (by have := HG.out; omega) (by have := HG.out; have := total_perm hpm; omega))
  have HM0 := Lib.hid (And.intro hm0 (And.intro hpm hml))
  clear hm0 hpm hml
  have g1 : (k : Int) ≤ ss.length := by omega
  have g2 : (ss.length : Int) ≤ cap := by omega
  have g3 : (k : Int) ≤ cap := by omega
  have g4 : (0 : Int) ≤ k := by omega
  clear hm3 hb3 M
  go_wp2_with fail
  have t1 : ((ss.length : Int) - (k : Int)).toNat = ss.length - k := by omega
  have t2 : ((cap : Int) - (k : Int)).toNat = cap - k := by omega
  have hck : ¬ cap = k := by omega
  have SL0 : SlIs (w3.alloc (.cells #[] 9)).drew w3.heap.size 9 1 (.slice (some ⟨w3.heap.size, 0, none⟩) 0 0) 0 [] := by
    have := SlIs.made (n := 0) (size := 1) (BlkIs.new w3 9 #[]) (Nat.le_refl _) rfl (by decide)
    exact this
  have SRC1 : SrcIs Try.prog (w3.alloc (.cells #[] 9)).drew 22 1 (.slice (some ⟨bb, off + k, none⟩) (ss.length - k) (cap - k)) (ss.length - k) (scells (ss.drop k)) := by
    refine SrcIs.cells Try.underlying22 _ 1 _ _ _ _ (by simp [scells]) fun j v hv => ?_
    rw [Addr.add_lit]
    have hj : k + j < ss.length := by
      have := (List.getElem?_eq_some_iff.1 hv).1
      simp [scells] at this
      omega
    have hb : Below w.heap.size w ((w3.alloc (.cells #[] 9)).drew) := below_drewN (H3.out.alloc H3.out.size _) 1
    rw [Nat.add_assoc, hb.cell hlt, hcell (k + j) hj]
    rw [scells, List.getElem?_map, List.getElem?_drop, List.getElem?_eq_getElem hj] at hv
    simpa using hv
  have SRC2 : ∀ w', Below w.heap.size w w' → SrcIs Try.prog w' 22 1 (.slice (some ⟨bb, off, none⟩) k cap) k (scells (ss.take k)) := by
    intro w' hb
    refine SrcIs.cells Try.underlying22 _ 1 _ _ _ _ (by simp [scells]; omega) fun j v hv => ?_
    rw [Addr.add_lit]
    have hj : j < k := by
      have := (List.getElem?_eq_some_iff.1 hv).1
      simp [scells] at this
      omega
    rw [hb.cell hlt, hcell j (by omega)]
    rw [scells, List.getElem?_map, List.getElem?_take, if_pos hj, List.getElem?_eq_getElem (by omega)] at hv
    simpa using hv
  have z60 : ss.length ≤ 60 := HG.out.1
  go_region_law (first
    | (refine step_append_sl rfl _ _ _ 22 (by rfl) el_str (base := w3.heap.size) (.slice (some ⟨w3.heap.size, 0, none⟩) 0 0) 0 [] (by rfl) SL0 _ (ss.length - k) (scells (ss.drop k)) (by rfl) SRC1 (by intro u hu; obtain ⟨x, _, rfl⟩ := List.mem_map.1 hu; rfl) (by unfold maxLen; omega) (by omega) (by simp) ?_
       intro v5 w5 hs5 hg5 hat5
       have hb5 := (show Below w.heap.size w ((w3.alloc (.cells #[] 9)).drew) from below_drewN (H3.out.alloc H3.out.size _) 1).grown hg5 (by simp; exact Nat.le_trans H3.out.size (Nat.le_succ _)) fun j hj => Nat.le_trans H3.out.size (SL0.lt j hj).1
       have hz5 : w3.heap.size ≤ w5.heap.size := by have h := hg5.size; simp at h; omega
       have H5 := Lib.hid (And.intro hs5 (And.intro hb5 hz5))
       clear hs5 hb5 hg5 hat5 hz5)
    | (refine step_append_sl rfl _ _ _ 22 (by rfl) el_str (base := w3.heap.size) v5 (0 + (ss.length - k)) _ (by rfl) H5.out.1 _ k (scells (ss.take k)) (by rfl) (SRC2 _ H5.out.2.1) (by intro u hu; obtain ⟨x, _, rfl⟩ := List.mem_map.1 hu; rfl) (by unfold maxLen; omega) (by omega) H5.out.2.2 ?_
       intro v6 w6 hs6 hg6 hat6
       have hb6 := H5.out.2.1.grown hg6 H5.out.2.1.size fun j hj => Nat.le_trans H3.out.size (H5.out.1.lt j hj).1
       rw [show 0 + (ss.length - k) + k = m.length by rw [HM0.out.2.2]; omega, show [] ++ scells (ss.drop k) ++ scells (ss.take k) = scells m from by rw [HM0.out.1]; simp [scells]] at hs6
       obtain ⟨ao6, cap6, hv6, hS6⟩ := StrsAt.own hs6
       rw [HM0.out.2.2] at hv6
       subst hv6
       have H6 := Lib.hid (And.intro hS6 hb6)
       clear hs6 hb6 hg6 hat6 hS6)
    | (go_simp; go_at_call 11; refine (M2.out _ _ _ H6.out.1).mono ?_
       rintro e w7 ⟨c', b', rfl, hm7, hb7⟩
       have H7 := Lib.hid (And.intro hm7 (H6.out.2.trans (hb7.mono H6.out.2.size)))
       clear hm7 hb7))
  obtain ⟨rfl, rfl⟩ := make_unique HM0.out.2.1 HM3.out H7.out.1
  have HZ := Lib.hid (show (c ≠ 0 ∧ b = []) ∨ (c = 0 ∧ b.length = 1068 + 44 * ss.length + total ss) from by
    by_cases hc : c = 0
    · subst hc
      obtain ⟨L, hf, rfl, hp⟩ := make_read (by have := HG.out; omega) HM3.out
      have hLl : L.length = ss.length := by rw [hp.length_eq]; simp [itemsOf]
      have hdt : (dataB L).length = total ss := by rw [dataB_length]; exact total_perm (snd_perm hp)
      exact Or.inr ⟨rfl, by rw [packB_length hf, hLl, hdt]⟩
    · exact Or.inl ⟨hc, make_zero HM3.out hc⟩)
  obtain ⟨S, hS⟩ : ∃ S : ByteArray, S = ⟨b.toArray⟩ := ⟨_, rfl⟩
  have zS : S.size = b.length := by rw [hS]; exact List.size_toArray
  rw [← hS]
  have hself : (S.toList == S.toList) = true := by simp
  have hcc' : ((c : Int) == (c : Int)) = true := by simp
  have H8 := Lib.hid (And.intro hS (And.intro zS H7.out.2))
  have HSC := Lib.hid (And.intro hlt hcell)
  have h60 := HG.out.1
  clear HM3 H7 hS zS SL0 SRC1 SRC2 M2 H5 H6 g1 g2 g3 g4 t1 t2 hck hcc hlt hcell hk
  go_wp2_with fail
  go_loopw [10, 11] (fun z i wr => ∃ (k q : Nat), z = .int .i64 (1068 + 44 * (ss.length : Int) + (q : Int)) ∧ i = .int .i64 (k : Int) ∧ k ≤ ss.length ∧ q ≤ 262144 ∧ Hid (q = total (ss.take k)) ∧ w7 = wr) (fun _ i _ => ((ss.length : Int) - intOf i).toNat)
  case atStart => exact ⟨0, 0, by simp, rfl, by omega, by omega, Lib.hid (by simp [total]), rfl⟩
  case round =>
    obtain ⟨j, q, rfl, rfl, hj, hq, HQ, rfl⟩ := hrel
    rcases Nat.lt_or_ge j ss.length with hj1 | hj1
    · have ji : (j : Int) < ss.length := by omega
      have c0 := HSC.out.2 j hj1
      rw [← H8.out.2.2.cell (p := ⟨bb, off + j, none⟩) HSC.out.1] at c0
      have htk := total_take ss j hj1
      have htl : total (ss.take (j + 1)) ≤ total ss := by
        unfold total
        rw [List.map_take]
        have h2 := congrArg List.sum (List.take_append_drop (j + 1) (ss.map (·.size)))
        rw [List.sum_append] at h2
        omega
      obtain ⟨y, hy⟩ : ∃ y, y = ss[j] := ⟨_, rfl⟩
      rw [← hy] at c0 htk
      rw [← HQ.out] at htk
      have hq2 : q + y.size ≤ 262144 := by have := HG.out.2.1; omega
      have HT := Lib.hid htk
      clear hy htk htl
      go_wp2_with fail
      refine ⟨⟨j + 1, q + y.size, by simp; omega, rfl, hj1, hq2, Lib.hid HT.out.symm, trivial⟩, ?_⟩
      simp [intOf]
      omega
    · have ji : decide ((j : Int) < ss.length) = false := decide_eq_false (by omega)
      obtain rfl : j = ss.length := by omega
      have hqt : q = total ss := by rw [HQ.out, List.take_length]
      have HQT := Lib.hid hqt
      clear hqt
      rcases HZ.out with ⟨h1, h2⟩ | ⟨h1, h2⟩
      · have d1 : ((c : Int) != 0) = true := by simp; exact h1
        have e1 : S = ⟨#[]⟩ := by rw [H8.out.1, h2]
        subst e1
        clear h1 h2
        go_wp2_with fail
        go_ret
        exact ⟨rfl, H8.out.2.2⟩
      · have e2 : (S.size : Int) = 1068 + 44 * (ss.length : Int) + (q : Int) := by rw [H8.out.2.1, h2, HQT.out]; omega
        subst h1
        have e3 : ((S.size : Int) == 1068 + 44 * (ss.length : Int) + (q : Int)) = true := beq_iff_eq.2 e2
        clear e2 h2
        go_wp2_with fail
        go_ret
        exact ⟨rfl, H8.out.2.2⟩
end Go.Proofs.Ytabgpleiobpeoaa.Pak
