/- The law PackBack answers true. Conditions: none but the memory's reach. (Layer 07.) -/
import Derived.Test.YtabgpleiobpeoaaPackAwake
namespace Go.Proofs.Ytabgpleiobpeoaa.Pak
set_option linter.unusedVariables false
open Go.RowKit Go.Sort Go.Lib
/-- What was read so far, from the end. -/
def backL (L : List It) (k : Nat) : List ByteArray := ((L.drop k).map (·.2)).reverse
theorem backL_step {L : List It} {k : Nat} (h : k < L.length) : backL L k = backL L (k + 1) ++ [L[k].2] := by
  unfold backL
  rw [List.drop_eq_getElem_cons h, List.map_cons, List.reverse_cons]
theorem backL_length (L : List It) (k : Nat) : (backL L k).length = L.length - k := by simp [backL]
theorem backL_perm {l : List ByteArray} {L : List It} (hp : L.Perm (itemsOf l)) : l.Perm (backL L 0) := by
  unfold backL
  rw [List.drop_zero]
  exact (snd_perm hp).symm.trans (List.reverse_perm _).symm
theorem scells_snoc (l : List ByteArray) (s : ByteArray) : scells l ++ [.string s] = scells (l ++ [s]) := by simp [scells]
theorem has_snoc (l : List ByteArray) (d : ByteArray) (q : Nat) (h : q < l.length) : holds (d ∈ l.take (q + 1)) = (holds (d ∈ l.take q) || decide (l[q] = d)) := by
  have e := List.take_succ_eq_append_getElem h
  rw [show (d ∈ l.take (q + 1)) = (d ∈ l.take q ++ [l[q]]) from by rw [e]]
  clear e
  by_cases h1 : d ∈ l.take q
  · rw [holds_true h1, holds_true (List.mem_append_left _ h1)]; rfl
  · rw [holds_false h1]
    by_cases h2 : l[q] = d
    · rw [holds_true (List.mem_append_right _ (List.mem_singleton.2 h2.symm)), decide_eq_true h2]; rfl
    · rw [holds_false (fun h => by
        rcases List.mem_append.1 h with h | h
        · exact h1 h
        · exact h2 (List.mem_singleton.1 h).symm), decide_eq_false h2]; rfl
set_option maxRecDepth 100000 in
set_option maxHeartbeats 2000000 in
theorem back_any (ao : Option Addr) (n cap : Nat) (ss : List ByteArray) (w : World) (h : StrRow w ao n ss) :
    Calls Try.prog 5 #[.slice ao n cap] w fun e w' => e = .returned (.bool true) ∧ Below w.heap.size w w' := by
  have hS := strsAt_row h
  have hsz := h.2.1
  obtain ⟨rfl, -⟩ := h
  have hm := hS.1
  have A := Lib.hid (awake_any w)
  have HS := Lib.hid hS
  have G := Lib.hid (fun w' (hb : Below w.heap.size w w') => great_any ao cap ss w' (hS.later hb) hsz)
  clear hS hsz
  go_enter Try.func5, Try.ntmps5
  go_wp2_with fail
  refine A.out.mono ?_
  rintro e w1 ⟨rfl, hb1⟩
  have H1 := Lib.hid hb1
  clear hb1 A
  go_wp2_with fail
  refine (G.out w1 H1.out).mono ?_
  rintro e w2 ⟨⟨g, rfl, hg⟩, rfl⟩
  clear G
  cases g
  case true =>
    clear hg
    go_wp2_with fail
    go_ret
    exact ⟨rfl, H1.out⟩
  obtain ⟨h60, htot⟩ := hg rfl
  have M := Lib.hid (make_any ao cap ss w1 (HS.out.later H1.out) (by omega) (by omega))
  clear hg
  go_wp2_with fail
  refine M.out.mono ?_
  rintro e w3 ⟨c, b, rfl, hm3, hb3⟩
  have H3 := Lib.hid (H1.out.trans (hb3.mono H1.out.size))
  have HM := Lib.hid hm3
  clear hb3 M
  by_cases hc : c = 0
  case neg =>
    obtain rfl := make_zero hm3 hc
    have d1 : ((c : Int) != 0) = true := by simp; exact hc
    have HC := Lib.hid hc
    clear hm3 hc HM
    go_wp2_with fail
    go_ret
    exact ⟨rfl, H3.out⟩
  subst hc
  obtain ⟨L, hf, rfl, hp⟩ := make_read (by omega) hm3
  have hLl : L.length = ss.length := by rw [hp.length_eq]; simp [itemsOf]
  have hdt : (dataB L).length = total ss := by rw [dataB_length]; exact total_perm (snd_perm hp)
  have R := Lib.hid (fun w => made_reads hf (by omega) w)
  obtain ⟨S, hS⟩ : ∃ S, S = pk L := ⟨_, rfl⟩
  have hS' : (⟨(packB L).toArray⟩ : ByteArray) = S := hS.symm
  rw [hS']
  rw [← hS] at R
  have HL := Lib.hid (And.intro hf (And.intro hp hS))
  have hL60 : L.length ≤ 60 := by omega
  have hll : ((L.length : Int) != (ss.length : Int)) = false := by simp; omega
  have HBT := Lib.hid (show 1068 + 44 * ss.length + total ss ≤ 4194304 by omega)
  have HLL := Lib.hid (And.intro hLl h60)
  clear hm3 hf hp hS hS' hLl hdt h60 htot
  go_wp2_with fail
  refine (R.out _).mono ?_
  rintro e w4 ⟨ao2, cap2, rfl, hi, hb4⟩
  have H4 := Lib.hid (And.intro hi (H3.out.trans (hb4.mono H3.out.size)))
  have hm2 := hi.1
  clear hi hb4 R H3
  go_wp2_with fail
  clear hll
  have H5 := Lib.hid (show ∃ W, W = w4.alloc (.cells #[] 9) ∧ SlIs W w4.heap.size 9 1 (.slice (some ⟨w4.heap.size, 0, none⟩) 0 0) 0 (scells (backL L L.length)) ∧ Below w4.heap.size w4 W from
    ⟨_, rfl, by
      have := SlIs.made (n := 0) (size := 1) (BlkIs.new w4 9 #[]) (Nat.le_refl _) rfl (by decide)
      have e : scells (backL L L.length) = [] := by simp [backL, scells]
      rw [e]; exact this, (Below.refl _ _).alloc (Nat.le_refl _) _⟩)
  obtain ⟨W1, hW1, H5⟩ := H5.out
  rw [← hW1]
  have H5 := Lib.hid H5
  clear hW1
  go_loopw [6, 7] (fun v i wr => ∃ (k : Nat) (z : Int), i = .int .i64 z ∧ z = (k : Int) - 1 ∧ k ≤ L.length ∧ Hid (SlIs wr w4.heap.size 9 1 v (backL L k).length (scells (backL L k)) ∧ Below w4.heap.size w4 wr)) (fun _ i _ => (intOf i + 1).toNat)
  case atStart => exact ⟨L.length, _, rfl, rfl, Nat.le_refl _, Lib.hid (by rw [show (backL L L.length).length = 0 by rw [backL_length]; omega]; exact H5.out)⟩
  case round =>
    obtain ⟨k, z, rfl, hz, hk, HR⟩ := hrel
    have hbr := HR.out.2.size
    rcases Nat.eq_zero_or_pos k with hk0 | hk0
    · have d0 : decide ((0 : Int) ≤ z) = false := decide_eq_false (by omega)
      subst hk0
      clear hz
      have P := Lib.hid (backL_perm HL.out.2.1)
      obtain ⟨bl, hbl⟩ : ∃ bl, bl = backL L 0 := ⟨_, rfl⟩
      have hlb : bl.length = L.length := by rw [hbl, backL_length]; omega
      rw [← hbl] at HR P
      obtain ⟨ao3, cap3, hv3, hs3⟩ := StrsAt.own HR.out.1
      subst hv3
      have htb : total bl = total ss := (total_perm P.out).symm
      have MA := Lib.hid (make_any ao3 cap3 bl wr hs3 (by omega) (by have := HBT.out; have := HLL.out; omega))
      obtain ⟨m, hm⟩ : ∃ m, m = bl.length := ⟨_, rfl⟩
      rw [← hm] at MA ⊢
      clear hs3 hbl htb hlb hm
      go_wp2_with fail
      refine MA.out.mono ?_
      rintro e w5 ⟨c, b, rfl, hm5, hb5⟩
      obtain ⟨rfl, rfl⟩ := make_unique P.out HM.out hm5
      have H6 := Lib.hid (H4.out.2.trans ((HR.out.2.trans (hb5.mono hbr)).mono H4.out.2.size))
      have hS' : (⟨(packB L).toArray⟩ : ByteArray) = S := HL.out.2.2.symm
      rw [hS']
      have hself : (S.toList == S.toList) = true := by simp
      clear hm5 hb5 MA hS'
      go_wp2_with fail
      go_ret
      exact ⟨rfl, H6.out⟩
    · obtain ⟨j, rfl⟩ : ∃ j, k = j + 1 := ⟨k - 1, by omega⟩
      obtain rfl : z = (j : Int) := by omega
      have hj1 : j < L.length := hk
      obtain ⟨WR, hWR⟩ : ∃ WR, WR = wr := ⟨_, rfl⟩
      subst hWR
      have H60 := Lib.hid hL60
      clear hL60 hk hk0 hz
      have hbs := backL_step hj1
      have hmem := List.getElem_mem hj1
      have hids := id_sum HL.out.2.1 hmem
      have hAt := H4.out.1.later HR.out.2
      obtain ⟨b, off, rfl, hlt, hcell⟩ := H4.out.1.2 (by omega)
      obtain ⟨c0, c1⟩ := hcell j hj1
      obtain ⟨x, hx⟩ : ∃ x, x = L[j] := ⟨_, rfl⟩
      rw [← hx] at c0 c1 hids hbs
      have hpre : ∀ i, i + 1 = j → ∃ y : ByteArray, w4.cell? ⟨b, off + i * 2, none⟩ = some (.string y) ∧ y.data.toList < x.1.data.toList := fun i hi => by
        refine ⟨L[i].1, (hcell i (by omega)).1, ?_⟩
        have := List.pairwise_iff_getElem.1 HL.out.1.rise i j (by omega) hj1 (by omega)
        rw [← hx] at this
        exact this
      obtain ⟨I, d⟩ := x
      simp only at c0 c1 hids hbs hpre
      have HPRE := Lib.hid hpre
      have HX := Lib.hid (And.intro hids.1 (And.intro hids.2 hbs))
      have HC := Lib.hid (And.intro c0 (And.intro c1 hlt))
      have hds : d.size ≤ 140737488355328 := by
        have := HL.out.1.sizes _ hmem
        rw [← hx] at this
        simp only at this
        omega
      clear hcell hmem hids hbs hpre hx hAt c0 c1
      have jk : (j : Int) < L.length := by omega
      clear hj1
      go_wp2_with fail
      go_loopw [8, 9] (fun p i wr => ∃ q : Nat, i = .int .i64 (q : Int) ∧ q ≤ ss.length ∧ p = .bool (holds (d ∈ ss.take q)) ∧ DrawsOf WR wr) (fun _ i _ => ((ss.length : Int) - intOf i).toNat)
      case atStart => exact ⟨0, rfl, by omega, by rw [holds_false (by simp)], DrawsOf.refl _⟩
      case round =>
        obtain ⟨q, rfl, hq, rfl, hD⟩ := hrel
        rcases Nat.lt_or_ge q ss.length with hq1 | hq1
        · have qi : (q : Int) < ss.length := by omega
          have hsn := has_snoc ss d q hq1
          obtain ⟨b3, off3, rfl, hlt3, hcell3⟩ := HS.out.2 (by omega)
          have g0 := hcell3 q hq1
          obtain ⟨y, hy⟩ : ∃ y, y = ss[q] := ⟨_, rfl⟩
          rw [← hy] at g0 hsn
          rw [← (H4.out.2.cell (p := ⟨b3, off3 + q, none⟩) hlt3), ← (HR.out.2.cell (p := ⟨b3, off3 + q, none⟩) (Nat.lt_of_lt_of_le hlt3 H4.out.2.size))] at g0
          have g1 : WR.cell? ⟨b, off + j * 2 + 1, none⟩ = some (.string d) := by rw [HR.out.2.cell HC.out.2.2]; exact HC.out.2.1
          rw [← hD.cell] at g0 g1
          obtain ⟨p, hp⟩ : ∃ p, p = holds (d ∈ ss.take q) := ⟨_, rfl⟩
          rw [← hp] at hsn ⊢
          have HSN := Lib.hid hsn
          clear hcell3 hy hsn hp
          cases p
          · by_cases he : y = d
            · have hz := eq_list he
              have HE := Lib.hid he
              clear he
              go_wp2_with fail
              go_quiet (fail)
              go_wp2_with fail
              refine ⟨⟨q + 1, rfl, hq1, by rw [HSN.out, decide_eq_true HE.out]; rfl, hD.drewN _⟩, ?_⟩
              simp [intOf]
              omega
            · have hz := ne_list he
              have HE := Lib.hid he
              clear he
              go_wp2_with fail
              go_quiet (fail)
              go_wp2_with fail
              refine ⟨⟨q + 1, rfl, hq1, by rw [HSN.out, decide_eq_false HE.out]; rfl, hD.drewN _⟩, ?_⟩
              simp [intOf]
              omega
          · go_wp2_with fail
            go_quiet (fail)
            go_wp2_with fail
            refine ⟨⟨q + 1, rfl, hq1, by rw [HSN.out]; rfl, hD.drewN _⟩, ?_⟩
            simp [intOf]
            omega
        · have qi : decide ((q : Int) < ss.length) = false := decide_eq_false (by omega)
          obtain rfl : q = ss.length := by omega
          have hin : holds (d ∈ ss.take ss.length) = true := by rw [List.take_length]; exact holds_true HX.out.2.1
          rw [hin]
          clear hin
          have HD := Lib.hid (And.intro (show SlIs wr w4.heap.size 9 1 u6 (backL L (j + 1)).length (scells (backL L (j + 1))) from HR.out.1.later (hD.below _)) (HR.out.2.trans (hD.below _)))
          clear hD
          have hbq := HD.out.2.size
          have e0 : ∀ u : LaterOf wr, u.w.cell? ⟨b, off + j * 2, none⟩ = some (.string I) := fun u => by rw [u.h.cell (by show b < wr.heap.size; have := HC.out.2.2; omega), HD.out.2.cell HC.out.2.2]; exact HC.out.1
          have e1 : ∀ u : LaterOf wr, u.w.cell? ⟨b, off + j * 2 + 1, none⟩ = some (.string d) := fun u => by rw [u.h.cell (by show b < wr.heap.size; have := HC.out.2.2; omega), HD.out.2.cell HC.out.2.2]; exact HC.out.2.1
          have CS := Lib.hid (fun u : LaterOf wr => Sha.sum_any d u.w hds)
          rw [show (⟨(Sha.sum d.data.toList).toArray⟩ : ByteArray) = I from HX.out.1.symm] at CS
          have hself : (I.toList == I.toList) = true := by simp
          rcases Nat.eq_zero_or_pos j with hj0 | hj0
          · have d2 : decide (0 < j) = false := decide_eq_false (by omega)
            have HJ := Lib.hid hj0
            clear hj0
            go_wp2_with fail
            refine wp_region_all (fun w' => ∃ u : LaterOf wr, w' = u.w) (by kernel_rfl) (by kernel_rfl) ⟨LaterOf.start wr, rfl⟩ ?_
            repeat (go_big_quiet_step (first | with_reducible exact LaterOf.call _ (CS.out _)))
            refine wpQuiet_nil ?_
            intro w8 hw8
            obtain ⟨u, hu⟩ := hw8
            have c8 : w8.cell? ⟨b, off + j * 2 + 1, none⟩ = some (.string d) := by rw [hu]; exact e1 u
            have H8 := Lib.hid (show SlIs w8 w4.heap.size 9 1 u6 (backL L (j + 1)).length (scells (backL L (j + 1))) ∧ Below w4.heap.size w4 w8 from by rw [hu]; exact ⟨HD.out.1.later u.h, HD.out.2.trans (u.h.mono hbq)⟩)
            clear hu u e0 e1 CS
            have hbl := backL_length L (j + 1)
            have hL60 := H60.out
            have hb8 := H8.out.2.size
            obtain ⟨bl, hbb⟩ : ∃ bl, bl = backL L (j + 1) := ⟨_, rfl⟩
            rw [← hbb] at H8 hbl
            obtain ⟨ao6, cap6, hv6, -, -, -⟩ := H8.out.1.form
            subst hv6
            have HBS := Lib.hid (show backL L j = bl ++ [d] from by rw [hbb]; exact HX.out.2.2)
            clear hbb
            go_wp2_with (at_builtin
                         refine wpList_append_sl rfl _ _ _ 22 rfl el_str (.slice ao6 bl.length cap6) bl.length (scells bl) rfl (H8.out.1.alloc _) _ 1 [.string d] rfl (SrcIs.own Try.underlying22 (SlIs.made (base := 0) (BlkIs.new _ _ _) (Nat.zero_le _) rfl (by decide))) (by intro u hu; rcases List.mem_singleton.1 hu with rfl; rfl) (by unfold maxLen; omega) (by omega) (by simp only [World.size_alloc]; omega) ?_
                         intro v9 w9 hs9 hg9 hat9
                         have hb9 := (H8.out.2.alloc hb8 (.cells #[.string d] 9)).grown hg9 (by simp only [World.size_alloc]; omega) fun j hj => (H8.out.1.lt j hj).1
                         rw [scells_snoc] at hs9
                         have H9 := Lib.hid (And.intro hs9 hb9)
                         clear hs9 hb9 hg9 hat9)
            refine ⟨⟨j, (j : Int) - 1, rfl, rfl, by omega, Lib.hid ⟨by rw [HBS.out, List.length_append]; exact H9.out.1, H9.out.2⟩⟩, ?_⟩
            simp [intOf]
          · obtain ⟨i, hi⟩ : ∃ i, i + 1 = j := ⟨j - 1, by omega⟩
            obtain ⟨y, hy, hlow⟩ := HPRE.out i hi
            have d2 : decide (0 < j) = true := decide_eq_true (by omega)
            have e2 : ∀ u : LaterOf wr, u.w.cell? ⟨b, off + i * 2, none⟩ = some (.string y) := fun u => by rw [u.h.cell (by show b < wr.heap.size; have := HC.out.2.2; omega), HD.out.2.cell HC.out.2.2]; exact hy
            have hll2 : Op.bytesLess y.toList I.toList = true := by rw [less_list]; exact decide_eq_true hlow
            have f1 : (j : Int) - 1 = (i : Int) := by omega
            have f2 : IntKind.i64.wrap ((j : Int) - 1) = (i : Int) := by rw [f1]; exact IntWalk.i64_in _ (by omega)
            have ji : (i : Int) < L.length := by omega
            have HI := Lib.hid hi
            clear hy hlow hj0 hi
            go_wp2_with fail
            refine wp_region_all (fun w' => ∃ u : LaterOf wr, w' = u.w) (by kernel_rfl) (by kernel_rfl) ⟨LaterOf.start wr, rfl⟩ ?_
            repeat (go_big_quiet_step (first | with_reducible exact LaterOf.call _ (CS.out _)))
            refine wpQuiet_nil ?_
            intro w8 hw8
            obtain ⟨u, hu⟩ := hw8
            have c8 : w8.cell? ⟨b, off + j * 2 + 1, none⟩ = some (.string d) := by rw [hu]; exact e1 u
            have H8 := Lib.hid (show SlIs w8 w4.heap.size 9 1 u6 (backL L (j + 1)).length (scells (backL L (j + 1))) ∧ Below w4.heap.size w4 w8 from by rw [hu]; exact ⟨HD.out.1.later u.h, HD.out.2.trans (u.h.mono hbq)⟩)
            clear hu u e0 e1 e2 CS hll2 f1 f2
            have hbl := backL_length L (j + 1)
            have hL60 := H60.out
            have hb8 := H8.out.2.size
            obtain ⟨bl, hbb⟩ : ∃ bl, bl = backL L (j + 1) := ⟨_, rfl⟩
            rw [← hbb] at H8 hbl
            obtain ⟨ao6, cap6, hv6, -, -, -⟩ := H8.out.1.form
            subst hv6
            have HBS := Lib.hid (show backL L j = bl ++ [d] from by rw [hbb]; exact HX.out.2.2)
            clear hbb
            go_wp2_with (at_builtin
                         refine wpList_append_sl rfl _ _ _ 22 rfl el_str (.slice ao6 bl.length cap6) bl.length (scells bl) rfl (H8.out.1.alloc _) _ 1 [.string d] rfl (SrcIs.own Try.underlying22 (SlIs.made (base := 0) (BlkIs.new _ _ _) (Nat.zero_le _) rfl (by decide))) (by intro u hu; rcases List.mem_singleton.1 hu with rfl; rfl) (by unfold maxLen; omega) (by omega) (by simp only [World.size_alloc]; omega) ?_
                         intro v9 w9 hs9 hg9 hat9
                         have hb9 := (H8.out.2.alloc hb8 (.cells #[.string d] 9)).grown hg9 (by simp only [World.size_alloc]; omega) fun j hj => (H8.out.1.lt j hj).1
                         rw [scells_snoc] at hs9
                         have H9 := Lib.hid (And.intro hs9 hb9)
                         clear hs9 hb9 hg9 hat9)
            refine ⟨⟨j, (j : Int) - 1, rfl, rfl, by omega, Lib.hid ⟨by rw [HBS.out, List.length_append]; exact H9.out.1, H9.out.2⟩⟩, ?_⟩
            simp [intOf]
end Go.Proofs.Ytabgpleiobpeoaa.Pak
