/- The reference's Read (pack), walked, of at most 4,194,304 bytes. (Layer 07.) -/
import Derived.Test.YtabgpleiobpeoaaPack9
import Derived.Test.YtabgpleiobpeoaaShaRef4
namespace Go.Proofs.Ytabgpleiobpeoaa.Pak
set_option linter.unusedVariables false
open Go.RowKit Go.Sort Go.Lib
open Oct (le32 val takeR Rd Moved RRd)
set_option maxRecDepth 100000 in
set_option maxHeartbeats 2000000 in
theorem rread_any (s : ByteArray) (w : World) (hs : s.size ≤ 4194304) :
    Calls Try.prog 14 #[.string s] w fun e w' => ReadOut s w w' e := by
  have hsl : s.data.toList.length = s.size := by rw [Array.length_toList]; rfl
  have HSL := Lib.hid hsl
  have d0 : decide ((4194304 : Int) < s.size) = false := decide_eq_false (by omega)
  by_cases h0 : 1112 ≤ s.size
  case neg =>
    have d1 : decide ((s.size : Int) < 1112) = true := decide_eq_true (by omega)
    have H0 := Lib.hid h0
    clear h0 hsl
    go_enter Try.func14, Try.ntmps14
    go_wp2_with fail
    refine bodyPost_ret (v := .tuple #[.slice none 0 0, .int .i64 3]) (by simp [results, Try.results14, go_sem]) rfl ?_
    exact ⟨3, [], none, 0, .short (by rw [HSL.out]; have := H0.out; omega), rfl, nil_items _, Below.refl _ _⟩
  case pos =>
  have d1 : decide ((s.size : Int) < 1112) = false := decide_eq_false (by omega)
  obtain ⟨P, hP⟩ : ∃ P, P = s.extract 0 (s.size - 32) := ⟨_, rfl⟩
  have hPs : P.size ≤ 140737488355232 := by rw [hP, ByteArray.size_extract]; omega
  obtain ⟨A, hA⟩ : ∃ A : ByteArray, A = ⟨(Sha.sum P.data.toList).toArray⟩ := ⟨_, rfl⟩
  have hAB : A = s.extract (s.size - 32) s.size ↔ Sha.sum (s.data.toList.take (s.data.toList.length - 32)) = s.data.toList.drop (s.data.toList.length - 32) := by
    rw [hA, hP]; exact sum_ext s (by omega)
  have HAB := Lib.hid hAB
  have CS := Lib.hid (fun u : LaterOf w => Sha.refsum_any P u.w hPs)
  rw [← hA, hP] at CS
  have HP := Lib.hid (And.intro hP hA)
  clear hP hA hPs hAB hsl
  have k1 : (32 : Int) ≤ s.size := by omega
  by_cases hF : A = s.extract (s.size - 32) s.size
  case neg =>
    have hz := ne_list hF
    have HF := Lib.hid hF
    clear hF
    go_enter Try.func14, Try.ntmps14
    go_wp2_with fail
    refine wp_region_heads (fun w' => ∃ u : LaterOf w, w' = u.w) 11 (by kernel_rfl) (by kernel_rfl) ⟨LaterOf.start w, rfl⟩ ?_
    simp only [List.take_succ_cons, List.take_zero, List.drop_succ_cons, List.drop_zero]
    repeat (go_big_quiet_step (first | with_reducible exact LaterOf.call _ (CS.out _)))
    refine wpQuiet_nil ?_
    intro w8 hw8
    obtain ⟨u, hu⟩ := hw8
    have HU := Lib.hid (show Below w.heap.size w w8 from by rw [hu]; exact u.h)
    clear hu u
    go_wp2_with fail
    refine bodyPost_ret (v := .tuple #[.slice none 0 0, .int .i64 20]) (by simp [results, Try.results14, go_sem]) rfl ?_
    exact ⟨20, [], none, 0, .sum (by rw [HSL.out]; omega) (fun h => HF.out (HAB.out.2 h)), rfl, nil_items _, HU.out⟩
  case pos =>
  have hz := eq_list hF
  have HF := Lib.hid (HAB.out.1 hF)
  clear hF
  obtain ⟨l, hl⟩ : ∃ l, l = s.data.toList := ⟨_, rfl⟩
  obtain ⟨n, hn⟩ : ∃ n, n = many l := ⟨_, rfl⟩
  have SA := Lib.hid (show ∀ w, Calls Try.prog 31 #[.string s] w fun e w' => RItemsOut l n w w' e from fun w => by rw [hn, hl]; exact ritems_any s w h0 hs)
  have HL := Lib.hid (And.intro hl hn)
  have HLEN := Lib.hid (show l.length = s.size from by rw [hl]; exact HSL.out)
  clear hl hn
  go_enter Try.func14, Try.ntmps14
  go_wp2_with fail
  refine wp_region_heads (fun w' => ∃ u : LaterOf w, w' = u.w) 11 (by kernel_rfl) (by kernel_rfl) ⟨LaterOf.start w, rfl⟩ ?_
  simp only [List.take_succ_cons, List.take_zero, List.drop_succ_cons, List.drop_zero]
  repeat (go_big_quiet_step (first | with_reducible exact LaterOf.call _ (CS.out _)))
  refine wpQuiet_nil ?_
  intro w8 hw8
  obtain ⟨u, hu⟩ := hw8
  have HU := Lib.hid (show Below w.heap.size w w8 from by rw [hu]; exact u.h)
  clear hu u
  go_wp2_with fail
  refine (SA.out w8).mono ?_
  rintro e w1 (⟨hns, ⟨v1, rfl⟩, hb1⟩ | ⟨hsh, ao1, cap1, rfl, hen, hb1⟩)
  · have HN := Lib.hid (And.intro hns hb1)
    clear hns hb1 SA
    go_wp2_with fail
    refine bodyPost_ret (v := .tuple #[.slice none 0 0, .int .i64 4]) (by simp [results, Try.results14, go_sem]) rfl ?_
    exact ⟨4, [], none, 0, .form (by rw [HSL.out]; omega) HF.out (by rw [← HL.out.1]; exact HN.out.1), rfl, nil_items _, HU.out.trans (HN.out.2.mono HU.out.size)⟩
  have hn1 : n ≤ 1024 := by rw [HL.out.2]; exact hsh.head.most
  have hn0 : 1 ≤ n := by rw [HL.out.2]; exact hsh.head.one
  have hfit : 1036 + 44 * n + 32 ≤ s.size := by have := hsh.head.fits; rw [← HL.out.2, HLEN.out] at this; exact this
  obtain ⟨b, off, rfl, hlt, hcell⟩ := hen.2 (by rw [readK_length]; omega)
  have HS := Lib.hid (And.intro hsh (And.intro (And.intro hlt (And.intro hcell hen)) (HU.out.trans (hb1.mono HU.out.size))))
  clear hsh hcell hen hb1 SA hlt
  go_wp2_with fail
  go_loopw [6] (fun i wr => ∃ k : Nat, i = .int .i64 (k : Int) ∧ k ≤ n ∧ Hid ((∀ j, j < k → crc (dataAt l j) = ckAt l j ∧ Sha.sum (dataAt l j) = idAt l j) ∧ Below w1.heap.size w1 wr)) (fun i _ => ((n : Int) - intOf i).toNat)
  case atStart => exact ⟨0, rfl, by omega, Lib.hid ⟨fun j h => by omega, Below.refl _ _⟩⟩
  case round =>
    obtain ⟨k, rfl, hk, HR⟩ := hrel
    have hbw := HR.out.2.size
    rcases Nat.lt_or_ge k n with hk1 | hk1
    · have ki : (k : Int) < n := by omega
      have hbl : b < wr.heap.size := Nat.lt_of_lt_of_le HS.out.2.1.1 hbw
      obtain ⟨idb, hid⟩ : ∃ idb : ByteArray, idb = ⟨(idAt l k).toArray⟩ := ⟨_, rfl⟩
      obtain ⟨d, hd⟩ : ∃ d : ByteArray, d = ⟨(dataAt l k).toArray⟩ := ⟨_, rfl⟩
      obtain ⟨c0, c1⟩ := HS.out.2.1.2.1 k (by rw [readK_length]; exact hk1)
      rw [← HR.out.2.cell HS.out.2.1.1, readK_get] at c0 c1
      simp only [← hid, ← hd] at c0 c1
      have hdl : d.data.toList = dataAt l k := by rw [hd]
      have hds : d.size ≤ 140737488355232 := by
        have e : d.size = (dataAt l k).length := by rw [hd]; rfl
        have e2 : (dataAt l k).length ≤ l.length := by unfold dataAt; rw [List.length_take, List.length_drop]; omega
        rw [HLEN.out] at e2
        omega
      have e0 : ∀ u : LaterOf wr, u.w.cell? ⟨b, off + k * 2, none⟩ = some (.string idb) := fun u => by rw [u.h.cell hbl]; exact c0
      have e1 : ∀ u : LaterOf wr, u.w.cell? ⟨b, off + k * 2 + 1, none⟩ = some (.string d) := fun u => by rw [u.h.cell hbl]; exact c1
      obtain ⟨cv, hcv⟩ : ∃ cv, cv = crc d.data.toList := ⟨_, rfl⟩
      obtain ⟨ck, hck⟩ : ∃ ck, ck = ckAt l k := ⟨_, rfl⟩
      obtain ⟨B, hB⟩ : ∃ B : ByteArray, B = ⟨(Sha.sum d.data.toList).toArray⟩ := ⟨_, rfl⟩
      have CC := Lib.hid (fun u : LaterOf wr => rcrcsum_any d u.w (by omega))
      have CB := Lib.hid (fun u : LaterOf wr => Sha.refsum_any d u.w hds)
      have CN := Lib.hid (fun u : LaterOf wr => rnum_at s (1036 + 44 * k + 40) (1036 + 44 * (k : Int) + 40) u.w (by omega) (by omega) (by omega))
      rw [← hcv] at CC
      rw [← hB] at CB
      rw [← HL.out.1, show nAt l (1036 + 44 * k + 40) = ck from hck.symm] at CN
      have hcvl : cv < 4294967296 := by rw [hcv]; exact crc_lt _
      have hcw : wrap64 (cv : Int) = cv := by unfold wrap64; omega
      have g1 : IntKind.i64.wrap (1036 + 44 * (k : Int) + 40) = 1036 + 44 * k + 40 := IntWalk.i64_in _ (by omega)
      have HE := Lib.hid (And.intro hid (And.intro hdl (And.intro hcv (And.intro hck hB))))
      clear hid hd hdl hcv hck hB c0 c1 hds hbl hcvl
      go_wp2_with fail
      by_cases hc : cv = ck
      case neg =>
        have d5 : ((cv : Int) != (ck : Int)) = true := by simp; omega
        have HC := Lib.hid hc
        clear hc
        refine wp_region_heads (fun w' => ∃ u : LaterOf wr, w' = u.w) 27 (by kernel_rfl) (by kernel_rfl) ⟨LaterOf.start wr, rfl⟩ ?_
        simp only [List.take_succ_cons, List.take_zero, List.drop_succ_cons, List.drop_zero]
        repeat (go_big_quiet_step (first | with_reducible exact LaterOf.call_same _ (CC.out _) | with_reducible exact LaterOf.call _ (CB.out _) | with_reducible exact LaterOf.call _ (CN.out _)))
        refine wpQuiet_nil ?_
        intro w9 hw9
        obtain ⟨u, hu⟩ := hw9
        have H9 := Lib.hid (show Below w1.heap.size w1 w9 from by rw [hu]; exact HR.out.2.trans (u.h.mono hbw))
        clear hu u e0 e1 CC CB CN g1 hcw
        go_wp2_with fail
        refine bodyPost_ret (v := .tuple #[.slice none 0 0, .int .i64 20]) (by simp [results, Try.results14, go_sem]) rfl ?_
        exact ⟨20, [], none, 0, .wrong (by rw [HSL.out]; omega) HF.out (by rw [← HL.out.1]; exact HS.out.1) (fun h => HC.out (by rw [← HL.out.1] at h; have hr := h k (by rw [← HL.out.2]; exact hk1); rw [HE.out.2.2.1, HE.out.2.1, HE.out.2.2.2.1]; exact hr.1)), rfl, nil_items _, HS.out.2.2.trans (H9.out.mono HS.out.2.2.size)⟩
      subst hc
      have d5 : ((cv : Int) != (cv : Int)) = false := by simp
      by_cases hc : B = idb
      case neg =>
        have hz2 := ne_list hc
        have HC := Lib.hid hc
        clear hc
        refine wp_region_heads (fun w' => ∃ u : LaterOf wr, w' = u.w) 27 (by kernel_rfl) (by kernel_rfl) ⟨LaterOf.start wr, rfl⟩ ?_
        simp only [List.take_succ_cons, List.take_zero, List.drop_succ_cons, List.drop_zero]
        repeat (go_big_quiet_step (first | with_reducible exact LaterOf.call_same _ (CC.out _) | with_reducible exact LaterOf.call _ (CB.out _) | with_reducible exact LaterOf.call _ (CN.out _)))
        refine wpQuiet_nil ?_
        intro w9 hw9
        obtain ⟨u, hu⟩ := hw9
        have H9 := Lib.hid (show Below w1.heap.size w1 w9 from by rw [hu]; exact HR.out.2.trans (u.h.mono hbw))
        clear hu u e0 e1 CC CB CN g1 hcw
        go_wp2_with fail
        refine bodyPost_ret (v := .tuple #[.slice none 0 0, .int .i64 20]) (by simp [results, Try.results14, go_sem]) rfl ?_
        exact ⟨20, [], none, 0, .wrong (by rw [HSL.out]; omega) HF.out (by rw [← HL.out.1]; exact HS.out.1) (fun h => HC.out (by rw [← HL.out.1] at h; have hr := h k (by rw [← HL.out.2]; exact hk1); rw [HE.out.2.2.2.2, HE.out.2.1, HE.out.1, hr.2])), rfl, nil_items _, HS.out.2.2.trans (H9.out.mono HS.out.2.2.size)⟩
      case pos =>
        have hz2 := eq_list hc
        have HC := Lib.hid hc
        clear hc
        refine wp_region_heads (fun w' => ∃ u : LaterOf wr, w' = u.w) 27 (by kernel_rfl) (by kernel_rfl) ⟨LaterOf.start wr, rfl⟩ ?_
        simp only [List.take_succ_cons, List.take_zero, List.drop_succ_cons, List.drop_zero]
        repeat (go_big_quiet_step (first | with_reducible exact LaterOf.call_same _ (CC.out _) | with_reducible exact LaterOf.call _ (CB.out _) | with_reducible exact LaterOf.call _ (CN.out _)))
        refine wpQuiet_nil ?_
        intro w9 hw9
        obtain ⟨u, hu⟩ := hw9
        have H9 := Lib.hid (show Below w1.heap.size w1 w9 from by rw [hu]; exact HR.out.2.trans (u.h.mono hbw))
        clear hu u e0 e1 CC CB CN g1 hcw
        go_wp2_with fail
        refine ⟨⟨k + 1, rfl, hk1, Lib.hid ⟨fun j hj => ?_, H9.out⟩⟩, ?_⟩
        · rcases Nat.lt_or_ge j k with h1 | h1
          · exact HR.out.1 j h1
          · obtain rfl : j = k := by omega
            exact ⟨by rw [← HE.out.2.1, ← HE.out.2.2.1, HE.out.2.2.2.1], by
              have q1 := HC.out
              rw [HE.out.2.2.2.2, HE.out.1] at q1
              have q2 := congrArg (fun x : ByteArray => x.data.toList) q1
              rw [← HE.out.2.1]
              simpa using q2⟩
        · simp [intOf]
          omega
    · have hkn : n = k := by omega
      subst hkn
      have ki : decide ((n : Int) < n) = false := by simp
      have hLn : readL l = readK l n := by rw [HL.out.2]; rfl
      have HLN := Lib.hid hLn
      clear hLn
      go_wp2_with fail
      refine bodyPost_ret (v := .tuple #[.slice (some ⟨b, off, none⟩) n cap1, .int .i64 0]) (by simp [results, Try.results14, go_sem]) rfl ?_
      refine ⟨0, readL l, some ⟨b, off, none⟩, cap1, ?_, by rw [HLN.out, readK_length], by rw [HLN.out]; exact HS.out.2.1.2.2.later HR.out.2, HS.out.2.2.trans (HR.out.2.mono HS.out.2.2.size)⟩
      have hh : 1112 ≤ s.data.toList.length := by rw [HSL.out]; omega
      have hA := HF.out
      have hS := HS.out.1
      have hR : Right l := fun i hi => HR.out.1 i (by rw [HL.out.2]; exact hi)
      rw [← HL.out.1] at hh hA ⊢
      exact .ok hh hA hS hR
end Go.Proofs.Ytabgpleiobpeoaa.Pak
