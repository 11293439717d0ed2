/- The law ShaPieces answers true. -/
import Derived.Test.YtmdchfmcghiaeaaShaHash
import Derived.Test.YtmdchfmcghiaeaaStrs
namespace Go.Proofs.Ytmdchfmcghiaeaa.Sha
open Go.RowKit
theorem pieces_core (ao : Option Addr) (n cap : Nat) (ss : List ByteArray) (w : World) (h : StrRow w ao n ss)
    (dig : List UInt8 → ByteArray) (hdig : ∀ l, dig l = ⟨(sum l).toArray⟩) :
    Calls Try.prog 4 #[.slice ao n cap] w fun e w' => e = .returned (.bool true) ∧ Below w.heap.size w w' := by
  obtain ⟨hn, hss, hnm, hrow⟩ := h
  have hend : ∀ (g B : Nat) (T : List UInt8) (w : World), HashOf w g B T → T.length ≤ 140737488355328 → Calls Try.prog 17 #[.pointer (some ⟨g, 0, none⟩)] w fun e w' => e = .returned (.string (dig T)) ∧ Below w.heap.size w w' := fun g B T w h1 h2 => by
    rw [hdig]; exact hash_end g B T w h1 h2
  have hsum : ∀ (s : ByteArray) (w : World), s.size ≤ 140737488355328 → Calls Try.prog 14 #[.string s] w fun e w' => e = .returned (.string (dig s.data.toList)) ∧ Below w.heap.size w w' := fun s w h1 => by
    rw [hdig]; exact sum_any s w h1
  have Hend := Lib.hid hend; have Hsum := Lib.hid hsum; have Hss := Lib.hid hss; have Hrow := Lib.hid hrow
  clear hend hsum hdig hss hrow
  have hself : ∀ S : ByteArray, (S.toList == S.toList) = true := fun S => by simp
  go_enter Try.func4, Try.ntmps4
  go_wp2_with fail
  refine (awake_any _).mono ?_
  rintro _ w1 ⟨rfl, hb1⟩
  go_wp2_with fail
  refine (hash_new _).mono ?_
  rintro e w2 ⟨g, rfl, hh2, hb2⟩
  have hgw := hh2.lt
  have hBw : w1.heap.size < w2.heap.size := by obtain ⟨_, _, _, h3⟩ := hh2; omega
  have H2 := Lib.hid (And.intro hh2 (hb1.trans (hb2.mono hb1.size)))
  have hB1 : w.heap.size ≤ w1.heap.size := hb1.size
  clear hh2 hb1 hb2
  go_wp2_with fail
  refine (Hend.out g _ [] w2 H2.out.1 (by decide)).mono ?_
  rintro e w3 ⟨rfl, hb3⟩
  go_wp2_with fail
  refine (Hsum.out ⟨#[]⟩ w3 (by decide)).mono ?_
  rintro e w4 ⟨rfl, hb4⟩
  have e0 : dig (ByteArray.mk #[]).data.toList = dig [] := rfl
  rw [e0]
  have H4 := Lib.hid (And.intro (H2.out.1.later (hb3.trans (hb4.mono hb3.size))) (H2.out.2.trans ((hb3.trans (hb4.mono hb3.size)).mono H2.out.2.size)))
  have hw4 : w2.heap.size ≤ w4.heap.size := Nat.le_trans hb3.size hb4.size
  clear hb3 hb4 H2 e0
  obtain ⟨D0, hD0⟩ : ∃ D0, D0 = dig [] := ⟨_, rfl⟩
  rw [← hD0]
  have hs0 := hself D0
  go_wp2_with fail
  clear hs0
  clear hD0 D0
  go_loopw [4, 5] (fun s i wr => ∃ (S : ByteArray) (k : Nat), s = .string S ∧ i = .int .i64 k ∧ k ≤ n ∧ S.size ≤ 65536 ∧ HashOf wr g w1.heap.size S.data.toList ∧ Below w.heap.size w wr) (fun _ i _ => n - (intOf i).toNat)
  case atStart => exact ⟨⟨#[]⟩, 0, rfl, rfl, Nat.zero_le _, by decide, H4.out.1, H4.out.2⟩
  case round =>
    obtain ⟨S, k, rfl, rfl, hkn, hS, hh, hbe⟩ := hrel
    have Hc := Lib.hid (And.intro hh hbe)
    have hsz : S.data.toList.length = S.size := rfl
    have Hsz := Lib.hid hsz
    clear hh hbe hsz
    have hSi : (S.size : Int) ≤ 65536 := by omega
    by_cases hgo : k < n ∧ k < 100
    · obtain ⟨hk1, hk2⟩ := hgo
      obtain ⟨b, off, rfl, hbw, hcell⟩ := Hrow.out (by omega)
      obtain ⟨t, hts, d1, d1w⟩ : ∃ t : ByteArray, t.size ≤ 140737488351232 ∧ wr.cell? ⟨b, off + k, none⟩ = some (.string t) ∧ w.cell? ⟨b, off + k, none⟩ = some (.string t) := by
        refine ⟨ss.getD k ByteArray.empty, Hss.out _ ?_, ?_, hcell k hk1⟩
        · rw [List.getD_eq_getElem?_getD, List.getElem?_eq_getElem (by omega)]; exact List.getElem_mem _
        · rw [Hc.out.2.cell hbw, hcell k hk1]
      clear hcell
      have D1w := Lib.hid d1w
      clear d1w
      have hi1 : (k : Int) < n := by omega
      have hi2 : (k : Int) < 100 := by omega
      by_cases hov : S.size + t.size > 65536
      · have hov1 : 65536 < (S.size : Int) + t.size := by omega
        go_wp2_with fail
        go_ret
        exact ⟨rfl, Hc.out.2⟩
      · have hov1 : (S.size : Int) + t.size ≤ 65536 := by omega
        go_wp2_with fail
        refine (hash_add g w1.heap.size t _ wr Hc.out.1 (by rw [Hsz.out]; omega)).mono ?_
        rintro e w5 ⟨rfl, hh5, hb5⟩
        have hb5' : Below w.heap.size wr w5 := hb5.mono hB1
        have d2 : w5.cell? ⟨b, off + k, none⟩ = some (.string t) := by rw [hb5'.cell hbw, d1]
        have hUs : (S ++ t).size ≤ 65536 := by rw [ByteArray.size_append]; omega
        have hUl : (S ++ t).data.toList = S.data.toList ++ t.data.toList := by simp
        rw [← hUl] at hh5
        have H5 := Lib.hid (And.intro hh5 (Hc.out.2.trans hb5'))
        have Hz := Lib.hid (show (S ++ t).data.toList.length = (S ++ t).size from rfl)
        clear hh5 hb5 hb5' hUl d1
        have hmm : (k : Int) % 3 = 2 ∨ (k : Int) % 3 ≠ 2 := by omega
        rcases hmm with hm1 | hm1
        · go_wp2_with fail
          refine (Hend.out g _ (S ++ t).data.toList w5 H5.out.1 (by rw [Hz.out]; omega)).mono ?_
          rintro e w6 ⟨rfl, hb6⟩
          go_wp2_with fail
          refine (Hsum.out (S ++ t) w6 (by omega)).mono ?_
          rintro e w7 ⟨rfl, hb7⟩
          have hh7 := hb6.trans (hb7.mono hb6.size)
          have H7 := Lib.hid (And.intro (H5.out.1.later hh7) (H5.out.2.trans (hh7.mono H5.out.2.size)))
          clear hb6 hb7 hh7
          have hs7 := hself (dig (S ++ t).data.toList)
          go_wp2_with fail
          go_roundw
          case rel => exact ⟨S ++ t, k + 1, rfl, by go_num, by omega, hUs, H7.out.1, H7.out.2⟩
          case measure => simp [intOf]; omega
        · go_wp2_with fail
          go_roundw
          case rel => exact ⟨S ++ t, k + 1, rfl, by go_num, by omega, hUs, H5.out.1, H5.out.2⟩
          case measure => simp [intOf]; omega
    · have hno : ¬ ((k : Int) < n) ∨ ((k : Int) < n ∧ ¬ ((k : Int) < 100)) := by omega
      have hfin : ∀ x : Int, x = x := fun _ => rfl
      rcases hno with h1 | ⟨h1, h2⟩ <;>
      · go_wp2_with fail
        refine (nil_add _ _).mono ?_
        rintro e w5 ⟨rfl, rfl⟩
        go_wp2_with fail
        refine (Hend.out g _ S.data.toList wr Hc.out.1 (by rw [Hsz.out]; omega)).mono ?_
        rintro e w6 ⟨rfl, hb6⟩
        go_wp2_with fail
        refine (Hsum.out S w6 (by omega)).mono ?_
        rintro e w7 ⟨rfl, hb7⟩
        have hh7 := hb6.trans (hb7.mono hb6.size)
        have H7 := Lib.hid (And.intro (Hc.out.1.later hh7) (Hc.out.2.trans (hh7.mono Hc.out.2.size)))
        clear hb6 hb7 hh7
        have hs7 := hself (dig S.data.toList)
        go_wp2_with fail
        refine (Hend.out g _ S.data.toList w7 H7.out.1 (by rw [Hsz.out]; omega)).mono ?_
        rintro e w8 ⟨rfl, hb8⟩
        go_wp2_with fail
        refine (Hsum.out S w8 (by omega)).mono ?_
        rintro e w9 ⟨rfl, hb9⟩
        have hh9 := hb8.trans (hb9.mono hb8.size)
        have H9 := Lib.hid (H7.out.2.trans (hh9.mono H7.out.2.size))
        clear hb8 hb9 hh9
        go_wp2_with fail
        refine (nil_end _).mono ?_
        rintro e w10 ⟨rfl, rfl⟩
        go_wp2_with fail
        go_ret
        exact ⟨rfl, H9.out⟩
theorem pieces_any (ao : Option Addr) (n cap : Nat) (ss : List ByteArray) (w : World) (h : StrRow w ao n ss) :
    Calls Try.prog 4 #[.slice ao n cap] w fun e w' => e = .returned (.bool true) ∧ Below w.heap.size w w' :=
  pieces_core ao n cap ss w h (fun l => ⟨(sum l).toArray⟩) (fun _ => rfl)
end Go.Proofs.Ytmdchfmcghiaeaa.Sha
