/- The law PackTells answers true. Conditions: none but the memory's reach. (Layer 07.) -/
import Derived.Test.YtabgpleiobpeoaaPackAwake
namespace Go.Proofs.Ytabgpleiobpeoaa.Pak
set_option linter.unusedVariables false
open Go.RowKit Go.Sort Go.Lib
theorem tells {l T : List UInt8} {k : Nat} {d : UInt8} (hk : k < l.length) (hl : 32 ≤ l.length) (hd : l[k] ≠ d) (hT : T = l.take k ++ [d] ++ l.drop (k + 1))
    (h1 : Sha.sum (l.take (l.length - 32)) = l.drop (l.length - 32)) (h2 : Sha.sum (T.take (T.length - 32)) = T.drop (T.length - 32)) :
    k < l.length - 32 ∧ Sha.sum (T.take (l.length - 32)) = Sha.sum (l.take (l.length - 32)) := by
  have hTl : T.length = l.length := by rw [hT]; simp; omega
  rw [hTl] at h2
  rcases Nat.lt_or_ge k (l.length - 32) with h3 | h3
  · refine ⟨h3, ?_⟩
    rw [h1, h2, hT, List.drop_append]
    have e1 : (l.take k ++ [d]).length = k + 1 := by simp; omega
    rw [List.drop_of_length_le (by rw [e1]; omega), e1, List.nil_append, List.drop_drop]
    congr 1
    omega
  · exfalso
    have e1 : T.take (l.length - 32) = l.take (l.length - 32) := by
      rw [hT, List.append_assoc, List.take_append_of_le_length (by simp; omega), List.take_take]
      congr 1
      omega
    have e2 : T = l := by
      have e4 : T.drop (l.length - 32) = l.drop (l.length - 32) := by rw [← h2, ← h1, e1]
      have e5 := List.take_append_drop (l.length - 32) T
      rw [e1, e4, List.take_append_drop] at e5
      exact e5.symm
    have e3 : T[k]? = some d := by
      rw [hT, List.append_assoc, List.getElem?_append_right (by simp; omega)]
      have : k - (l.take k).length = 0 := by simp; omega
      rw [this]
      rfl
    rw [e2, List.getElem?_eq_getElem hk] at e3
    exact hd (by simpa using e3)
set_option maxRecDepth 100000 in
set_option maxHeartbeats 2000000 in
theorem tells_any (ao : Option Addr) (n cap : Nat) (ss : List ByteArray) (at_ by_ : Int) (w : World) (h : StrRow w ao n ss) (hw1 : (Lit.int .i64 at_).wf = true) (hw2 : (Lit.int .u8 by_).wf = true) :
    Calls Try.prog 7 #[.slice ao n cap, .int .i64 at_, .int .u8 by_] w fun e w' => e = .returned (.bool true) ∧ Below w.heap.size w w' := by
  have hS := strsAt_row h
  have hsz := h.2.1
  obtain ⟨rfl, -⟩ := h
  have hm := hS.1
  have A := Lib.hid (awake_any w)
  have HS := Lib.hid hS
  have G := Lib.hid (fun w' (hb : Below w.heap.size w w') => great_any ao cap ss w' (hS.later hb) hsz)
  have HW := Lib.hid (And.intro hw1 hw2)
  clear hS hsz hw1 hw2
  go_enter Try.func7, Try.ntmps7
  go_wp2_with fail
  refine A.out.mono ?_
  rintro e w1 ⟨rfl, hb1⟩
  have H1 := Lib.hid hb1
  clear hb1 A
  go_wp2_with fail
  refine (G.out w1 H1.out).mono ?_
  rintro e w2 ⟨⟨g, rfl, hg⟩, rfl⟩
  clear G
  cases g
  case true =>
    clear hg
    go_wp2_with fail
    go_ret
    exact ⟨rfl, H1.out⟩
  by_cases h0 : by_ = 0
  case pos =>
    subst h0
    clear hg
    go_wp2_with fail
    go_ret
    exact ⟨rfl, H1.out⟩
  have d0 : ((by_ : Int) == 0) = false := by simpa using h0
  obtain ⟨h60, htot⟩ := hg rfl
  have M := Lib.hid (make_any ao cap ss w1 (HS.out.later H1.out) (by omega) (by omega))
  have HB0 := Lib.hid h0
  clear hg h0
  go_wp2_with fail
  refine M.out.mono ?_
  rintro e w3 ⟨c, b, rfl, hm3, hb3⟩
  have H3 := Lib.hid (H1.out.trans (hb3.mono H1.out.size))
  clear hb3 M
  by_cases hc : c = 0
  case neg =>
    have d1 : ((c : Int) != 0) = true := by simp; exact hc
    clear hm3 hc
    go_wp2_with fail
    go_ret
    exact ⟨rfl, H3.out⟩
  subst hc
  obtain ⟨L, hf, rfl, hp⟩ := make_read (by omega) hm3
  have hLl : L.length = ss.length := by rw [hp.length_eq]; simp [itemsOf]
  have hdt : (dataB L).length = total ss := by rw [dataB_length]; exact total_perm (snd_perm hp)
  have zS := pk_size hf
  have hSl := pk_list L
  obtain ⟨S, hS⟩ : ∃ S, S = pk L := ⟨_, rfl⟩
  have hS' : (⟨(packB L).toArray⟩ : ByteArray) = S := hS.symm
  rw [hS']
  rw [← hS] at zS hSl
  have hs1 : 1112 ≤ S.size := by have := hf.ne; have := List.length_pos_iff.2 hf.ne; omega
  have hs2 : S.size ≤ 4194304 := by omega
  have HL := Lib.hid (And.intro hf (And.intro hSl hS))
  clear hm3 hf hp hS hS' hLl hdt h60 htot zS hSl
  go_wp2_with fail
  obtain ⟨k, hk, hke⟩ : ∃ k : Nat, k < S.size ∧ wrap64 ((IntKind.u64.wrap at_).tmod ↑S.size) = (k : Int) := by
    have ha : 0 ≤ IntKind.u64.wrap at_ := by rw [IntKind.wrap_u64]; omega
    refine ⟨((IntKind.u64.wrap at_).tmod ↑S.size).toNat, ?_, ?_⟩
    · rw [Int.tmod_eq_emod_of_nonneg ha]
      have := Int.emod_lt_of_pos (IntKind.u64.wrap at_) (show (0 : Int) < S.size by omega)
      have := Int.emod_nonneg (IntKind.u64.wrap at_) (show (S.size : Int) ≠ 0 by omega)
      omega
    · rw [Int.tmod_eq_emod_of_nonneg ha]
      have := Int.emod_lt_of_pos (IntKind.u64.wrap at_) (show (0 : Int) < S.size by omega)
      have := Int.emod_nonneg (IntKind.u64.wrap at_) (show (S.size : Int) ≠ 0 by omega)
      unfold wrap64
      omega
  rw [hke]
  have ki : (k : Int) < S.size := by omega
  have ki2 : (k : Int) + 1 ≤ S.size := by omega
  obtain ⟨bt, rfl⟩ : ∃ bt : UInt8, by_ = (bt.toNat : Int) := by
    have hb := HW.out.2
    have hb : 0 ≤ by_ ∧ by_ < 256 := by
      simp [Lit.wf, IntKind.min, IntKind.max, IntKind.signed, IntKind.bits] at hb
      omega
    refine ⟨UInt8.ofNat by_.toNat, ?_⟩
    rw [UInt8.toNat_ofNat']
    omega
  obtain ⟨d, hd⟩ : ∃ d, d = S[k] ^^^ bt := ⟨_, rfl⟩
  have hx : bits .xor .u8 (S[k].toNat : Int) (bt.toNat : Int) = (d.toNat : Int) := by
    rw [hd, UInt8.toNat_xor]
    exact u8_xor_nat _ _ S[k].toNat_lt bt.toNat_lt
  have hne : S[k] ≠ d := by
    intro e
    have hb : bt = 0 := by
      have h1 : S[k] ^^^ S[k] ^^^ bt = 0 ^^^ bt := by rw [UInt8.xor_self]
      rw [UInt8.xor_assoc, ← hd, ← e, UInt8.xor_self, UInt8.zero_xor] at h1
      exact h1.symm
    exact HB0.out (by rw [hb]; rfl)
  have kle : k ≤ S.size := by omega
  obtain ⟨D, hD⟩ : ∃ D : ByteArray, D = ⟨#[d]⟩ := ⟨_, rfl⟩
  have ht : (convert 37 9 (.slice (some ⟨w3.heap.size, 0, none⟩) 1 1)).run Try.prog ((w3.alloc (.cells #[.int .u8 (d.toNat : Int)] 5)).drew) = .ok (.string D) ((w3.alloc (.cells #[.int .u8 (d.toNat : Int)] 5)).drew) := by
    rw [hD]
    refine run_convert_bytes_back _ 37 9 5 ⟨w3.heap.size, 0, none⟩ 1 [d] Try.underlying37 Try.underlying5 Try.underlying9 fun j hj => ?_
    obtain rfl : j = 0 := by simpa using hj
    rw [Addr.add_lit]
    exact (BlkIs.new w3 5 #[.int .u8 (d.toNat : Int)]).drew.cell 0
  have HD := Lib.hid hD
  clear hd
  have zD : D.size = 1 := by rw [hD]; rfl
  have s1 : ¬ 9223372036854775807 < (S.extract 0 k).size + D.size := by rw [ByteArray.size_extract]; omega
  have s2 : ¬ 9223372036854775807 < (S.extract 0 k ++ D).size + (S.extract (k + 1) S.size).size := by rw [ByteArray.size_append, ByteArray.size_extract, ByteArray.size_extract]; omega
  obtain ⟨T, hT⟩ : ∃ T, T = S.extract 0 k ++ D ++ S.extract (k + 1) S.size := ⟨_, rfl⟩
  have zT : T.size = S.size := by rw [hT, ByteArray.size_append, ByteArray.size_append, ByteArray.size_extract, ByteArray.size_extract]; omega
  have hTl : T.data.toList = S.data.toList.take k ++ [d] ++ S.data.toList.drop (k + 1) := by
    rw [hT, app_list, app_list, ext_list, ext_list, hD, List.drop_zero, Nat.sub_zero]
    congr 1
    exact List.take_of_length_le (by rw [List.length_drop, data_len]; omega)
  have hkl : k < S.data.toList.length := by rw [data_len]; exact hk
  have HTL := Lib.hid (fun h2 => tells (l := S.data.toList) (T := T.data.toList) hkl (by rw [data_len]; omega) (by exact hne) hTl (by
    have e := body_take HL.out.1
    rw [HL.out.2.1, e.1, e.2]) h2)
  have R := Lib.hid (fun w => read_any T w (by omega))
  have HTX := Lib.hid hT
  clear hke hne hTl hkl hT
  go_region
  subst hD
  rw [← HTX.out]
  clear ht hx s1 s2
  obtain ⟨W5, hW5⟩ : ∃ W5, W5 = (w3.alloc (.cells #[.int .u8 (d.toNat : Int)] 5)).drew := ⟨_, rfl⟩
  have H5 := Lib.hid (show Below w.heap.size w W5 from by rw [hW5]; exact below_drewN (H3.out.alloc H3.out.size _) 1)
  rw [← hW5]
  clear hW5
  go_wp2_with fail
  refine (R.out W5).mono ?_
  rintro e w6 ⟨c, L', ao6, cap6, hr, rfl, hi, hb6⟩
  have H6 := Lib.hid (H5.out.trans (hb6.mono H5.out.size))
  by_cases hc : c = 0
  case neg =>
    have d1 : ((c : Int) != 0) = true := by simp; exact hc
    have hL0 : L' = [] := by cases hr <;> first | rfl | exact absurd rfl hc
    subst hL0
    clear hr hc hi hb6 R
    go_wp2_with fail
    go_ret
    exact ⟨rfl, H6.out⟩
  subst hc
  have hsum : Sha.sum (T.data.toList.take (T.data.toList.length - 32)) = T.data.toList.drop (T.data.toList.length - 32) := by
    cases hr; assumption
  obtain ⟨h1, h2⟩ := HTL.out hsum
  rw [data_len] at h1 h2
  have dk : decide ((k : Int) < (S.size : Int) - 32) = true := decide_eq_true (by omega)
  obtain ⟨A1, hA1⟩ : ∃ A1 : ByteArray, A1 = ⟨(Sha.sum (T.extract 0 (S.size - 32)).data.toList).toArray⟩ := ⟨_, rfl⟩
  have CT := Lib.hid (fun u : LaterOf w6 => Sha.sum_any (T.extract 0 (S.size - 32)) u.w (by rw [ByteArray.size_extract]; omega))
  have CS := Lib.hid (fun u : LaterOf w6 => Sha.sum_any (S.extract 0 (S.size - 32)) u.w (by rw [ByteArray.size_extract]; omega))
  have eA : (⟨(Sha.sum (S.extract 0 (S.size - 32)).data.toList).toArray⟩ : ByteArray) = A1 := by
    rw [hA1, ext_list, ext_list, List.drop_zero, List.drop_zero, Nat.sub_zero, h2]
  rw [← hA1] at CT
  rw [eA] at CS
  have hself : (A1.toList == A1.toList) = true := by simp
  have t32 : (32 : Int) ≤ S.size := by omega
  have t33 : (S.size : Int) - 32 ≤ T.size := by omega
  clear hr hi hb6 R hsum h1 h2 hA1 eA
  go_wp2_with fail
  refine wp_region_all (fun w' => ∃ u : LaterOf w6, w' = u.w) (by kernel_rfl) (by kernel_rfl) ⟨LaterOf.start w6, rfl⟩ ?_
  repeat (go_big_quiet_step (first | with_reducible exact LaterOf.call _ (CT.out _) | with_reducible exact LaterOf.call _ (CS.out _)))
  refine wpQuiet_nil ?_
  intro w8 hw8
  obtain ⟨u, hu⟩ := hw8
  have H8 := Lib.hid (show Below w.heap.size w w8 from by rw [hu]; exact H6.out.trans (u.h.mono H6.out.size))
  clear hu u
  go_wp2_with fail
  go_ret
  exact ⟨rfl, H8.out⟩
end Go.Proofs.Ytabgpleiobpeoaa.Pak
