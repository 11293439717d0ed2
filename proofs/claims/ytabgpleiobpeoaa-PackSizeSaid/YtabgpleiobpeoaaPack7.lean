/- pack.Read, walked, of at most 4,194,304 bytes. (Layer 07.) -/
import Derived.Test.YtabgpleiobpeoaaPack6
import Derived.Test.YtabgpleiobpeoaaCrc1
namespace Go.Proofs.Ytabgpleiobpeoaa.Pak
set_option linter.unusedVariables false
open Go.RowKit Go.Sort Go.Lib
open Oct (le32 val takeR Rd Moved)
def readK (l : List UInt8) (k : Nat) : List It := (List.range k).map fun i => (⟨(idAt l i).toArray⟩, ⟨(dataAt l i).toArray⟩)
theorem readK_length (l : List UInt8) (k : Nat) : (readK l k).length = k := by simp [readK]
theorem readK_snoc (l : List UInt8) (k : Nat) : readK l k ++ [(⟨(idAt l k).toArray⟩, ⟨(dataAt l k).toArray⟩)] = readK l (k + 1) := by
  unfold readK
  rw [List.range_succ, List.map_append]
  rfl
theorem sumTo_mono (l : List UInt8) {a b : Nat} (h : a ≤ b) : sumTo l a ≤ sumTo l b := by
  induction b with
  | zero => obtain rfl : a = 0 := by omega
            exact Nat.le_refl _
  | succ b ih =>
    rcases Nat.lt_or_ge b a with h1 | h1
    · obtain rfl : a = b + 1 := by omega
      exact Nat.le_refl _
    · exact Nat.le_trans (ih h1) (Nat.le_add_right _ _)
theorem nil_items (w : World) : ItemsAt w none [] := ⟨by decide, fun h => absurd h (Nat.lt_irrefl _)⟩
/-- What Read answers, and where. -/
def ReadOut (s : ByteArray) (w w' : World) (e : Ending) : Prop :=
  ∃ c L ao cap, ReadIs s.data.toList c L ∧ e = .returned (.tuple #[.slice ao L.length cap, .int .i64 c]) ∧ ItemsAt w' ao L ∧ Below w.heap.size w w'
theorem sum_ext (s : ByteArray) (h : 32 ≤ s.size) : ((⟨(Sha.sum (s.extract 0 (s.size - 32)).data.toList).toArray⟩ : ByteArray) = s.extract (s.size - 32) s.size) ↔ Sha.sum (s.data.toList.take (s.data.toList.length - 32)) = s.data.toList.drop (s.data.toList.length - 32) := by
  have hl : s.data.toList.length = s.size := by rw [Array.length_toList]; rfl
  have e2 : (s.extract (s.size - 32) s.size).data.toList = s.data.toList.drop (s.size - 32) := by
    rw [ext_list, List.take_of_length_le (by rw [List.length_drop]; omega)]
  have e1 : (s.extract 0 (s.size - 32)).data.toList = s.data.toList.take (s.size - 32) := by
    rw [ext_list, List.drop_zero, Nat.sub_zero]
  rw [hl, ← e1, ← e2]
  constructor
  · intro h
    have := congrArg (fun x : ByteArray => x.data.toList) h
    simpa using this
  · intro h
    apply data_inj
    simpa using h
theorem eq_list {S T : ByteArray} (h : S = T) : (S.toList == T.toList) = true := by rw [h]; simp
set_option maxRecDepth 100000 in
set_option maxHeartbeats 2000000 in
theorem read_any (s : ByteArray) (w : World) (hs : s.size ≤ 4194304) :
    Calls Try.prog 13 #[.string s] w fun e w' => ReadOut s w w' e := by
  have hsl : s.data.toList.length = s.size := by rw [Array.length_toList]; rfl
  have HSL := Lib.hid hsl
  have d0 : decide ((4194304 : Int) < s.size) = false := decide_eq_false (by omega)
  by_cases h0 : 1112 ≤ s.size
  case neg =>
    have d1 : decide ((s.size : Int) < 1112) = true := decide_eq_true (by omega)
    have H0 := Lib.hid h0
    clear h0 hsl
    go_enter Try.func13, Try.ntmps13
    go_wp2_with fail
    refine bodyPost_ret (v := .tuple #[.slice none 0 0, .int .i64 3]) (by simp [results, Try.results13, go_sem]) rfl ?_
    exact ⟨3, [], none, 0, .short (by rw [HSL.out]; have := H0.out; omega), rfl, nil_items _, Below.refl _ _⟩
  case pos =>
  have d1 : decide ((s.size : Int) < 1112) = false := decide_eq_false (by omega)
  obtain ⟨P, hP⟩ : ∃ P, P = s.extract 0 (s.size - 32) := ⟨_, rfl⟩
  have hPs : P.size ≤ 140737488355328 := by rw [hP, ByteArray.size_extract]; omega
  obtain ⟨A, hA⟩ : ∃ A : ByteArray, A = ⟨(Sha.sum P.data.toList).toArray⟩ := ⟨_, rfl⟩
  have hAB : A = s.extract (s.size - 32) s.size ↔ Sha.sum (s.data.toList.take (s.data.toList.length - 32)) = s.data.toList.drop (s.data.toList.length - 32) := by
    rw [hA, hP]; exact sum_ext s (by omega)
  have HAB := Lib.hid hAB
  have CS := Lib.hid (fun u : LaterOf w => Sha.sum_any P u.w hPs)
  rw [← hA, hP] at CS
  have HP := Lib.hid (And.intro hP hA)
  clear hP hA hPs hAB hsl
  have k1 : (32 : Int) ≤ s.size := by omega
  by_cases hF : A = s.extract (s.size - 32) s.size
  case neg =>
    have hz := ne_list hF
    have HF := Lib.hid hF
    clear hF
    go_enter Try.func13, Try.ntmps13
    go_wp2_with fail
    refine wp_region_heads (fun w' => ∃ u : LaterOf w, w' = u.w) 12 (by kernel_rfl) (by kernel_rfl) ⟨LaterOf.start w, rfl⟩ ?_
    simp only [List.take_succ_cons, List.take_zero, List.drop_succ_cons, List.drop_zero]
    repeat (go_big_quiet_step (first | with_reducible exact LaterOf.call _ (CS.out _)))
    refine wpQuiet_nil ?_
    intro w8 hw8
    obtain ⟨u, hu⟩ := hw8
    have HU := Lib.hid (show Below w.heap.size w w8 from by rw [hu]; exact u.h)
    clear hu u
    go_wp2_with fail
    refine bodyPost_ret (v := .tuple #[.slice none 0 0, .int .i64 20]) (by simp [results, Try.results13, go_sem]) rfl ?_
    exact ⟨20, [], none, 0, .sum (by rw [HSL.out]; omega) (fun h => HF.out (HAB.out.2 h)), rfl, nil_items _, HU.out⟩
  case pos =>
  have hz := eq_list hF
  have HF := Lib.hid (HAB.out.1 hF)
  clear hF
  obtain ⟨l, hl⟩ : ∃ l, l = s.data.toList := ⟨_, rfl⟩
  obtain ⟨n, hn⟩ : ∃ n, n = many l := ⟨_, rfl⟩
  obtain ⟨D, hD⟩ : ∃ D, D = s.extract (1036 + n * 44) (s.size - 32) := ⟨_, rfl⟩
  have SA := Lib.hid (show ∀ w, Calls Try.prog 30 #[.string s] w fun e w' => (¬ Shaped l ∧ (∃ v1 v2, e = .returned (.tuple #[v1, v2, .bool false])) ∧ Below w.heap.size w w') ∨
      (Shaped l ∧ ∃ ao cap, e = .returned (.tuple #[.slice ao n cap, .string D, .bool true]) ∧ EntriesAt w' ao n l ∧ Below w.heap.size w w') from fun w => by rw [hD, hn, hl]; exact shaped_any s w h0 hs)
  have HL := Lib.hid (And.intro hl (And.intro hn hD))
  have HAL := Lib.hid (show Sha.sum (l.take (l.length - 32)) = l.drop (l.length - 32) from by rw [hl]; exact HF.out)
  have HLEN := Lib.hid (show l.length = s.size from by rw [hl]; exact HSL.out)
  clear hl hn hD
  go_enter Try.func13, Try.ntmps13
  go_wp2_with fail
  refine wp_region_heads (fun w' => ∃ u : LaterOf w, w' = u.w) 12 (by kernel_rfl) (by kernel_rfl) ⟨LaterOf.start w, rfl⟩ ?_
  simp only [List.take_succ_cons, List.take_zero, List.drop_succ_cons, List.drop_zero]
  repeat (go_big_quiet_step (first | with_reducible exact LaterOf.call _ (CS.out _)))
  refine wpQuiet_nil ?_
  intro w8 hw8
  obtain ⟨u, hu⟩ := hw8
  have HU := Lib.hid (show Below w.heap.size w w8 from by rw [hu]; exact u.h)
  clear hu u
  go_wp2_with fail
  refine (SA.out w8).mono ?_
  rintro e w1 (⟨hns, ⟨v1, v2, rfl⟩, hb1⟩ | ⟨hsh, ao1, cap1, rfl, hen, hb1⟩)
  · have HN := Lib.hid (And.intro hns hb1)
    clear hns hb1 SA
    go_wp2_with fail
    refine bodyPost_ret (v := .tuple #[.slice none 0 0, .int .i64 4]) (by simp [results, Try.results13, go_sem]) rfl ?_
    exact ⟨4, [], none, 0, .form (by rw [HSL.out]; omega) HF.out (by rw [← HL.out.1]; exact HN.out.1), rfl, nil_items _, HU.out.trans (HN.out.2.mono HU.out.size)⟩
  have hn1 : n ≤ 1024 := by rw [HL.out.2.1]; exact hsh.head.most
  have hn0 : 1 ≤ n := by rw [HL.out.2.1]; exact hsh.head.one
  have hDs : D.size + (1036 + 44 * n + 32) = s.size := by
    have := hsh.head.fits
    rw [← HL.out.2.1, HLEN.out] at this
    rw [HL.out.2.2, ByteArray.size_extract]
    omega
  have hsn : sumTo l n = D.size := by
    have := hsh.whole
    rw [← HL.out.2.1, HLEN.out] at this
    omega
  obtain ⟨b, off, rfl, hlt, hcell⟩ := hen (by omega)
  have HS := Lib.hid (And.intro hsh (And.intro hcell (And.intro hsn (And.intro hlt (HU.out.trans (hb1.mono HU.out.size))))))
  clear hsh hcell hen hb1 SA hsn hlt
  go_wp2_with fail
  go_loopw [7, 42] (fun va i wr => ∃ k : Nat, i = .int .i64 (k : Int) ∧ k ≤ n ∧ Hid ((∀ j, j < k → crc (dataAt l j) = ckAt l j ∧ Sha.sum (dataAt l j) = idAt l j) ∧ SlIs wr w1.heap.size 34 2 va k (icells (readK l k)) ∧ Below w1.heap.size w1 wr)) (fun _ i _ => ((n : Int) - intOf i).toNat)
  case atStart => exact ⟨0, rfl, by omega, Lib.hid ⟨fun j h => by omega, SlIs.nil_ _ _ _ _, Below.refl _ _⟩⟩
  case round =>
    obtain ⟨k, rfl, hk, HR⟩ := hrel
    have hbw := HR.out.2.2.size
    obtain ⟨ao2, cap2, hv2, hnc2, hcm2, hao2⟩ := HR.out.2.1.form
    subst hv2
    rcases Nat.lt_or_ge k n with hk1 | hk1
    · have ki : (k : Int) < n := by omega
      obtain ⟨idb, hid⟩ : ∃ idb : ByteArray, idb = ⟨(idAt l k).toArray⟩ := ⟨_, rfl⟩
      obtain ⟨at_, hat⟩ : ∃ a, a = atAt l k := ⟨_, rfl⟩
      obtain ⟨sz, hsz⟩ : ∃ a, a = szAt l k := ⟨_, rfl⟩
      obtain ⟨ck, hck⟩ : ∃ a, a = ckAt l k := ⟨_, rfl⟩
      have hev : entryV l k = #[.string idb, .int .i64 at_, .int .i64 sz, .int .u32 ck] := by rw [hid, hat, hsz, hck]; rfl
      have y0 : wr.cell? ⟨b, off + k * 4, none⟩ = some (.string idb) := by rw [HR.out.2.2.cell HS.out.2.2.2.1, show off + k * 4 = off + k * 4 + 0 from rfl, HS.out.2.1 k hk1 0 (by decide), hev]; rfl
      have y1 : wr.cell? ⟨b, off + k * 4 + 1, none⟩ = some (.int .i64 at_) := by rw [HR.out.2.2.cell HS.out.2.2.2.1, HS.out.2.1 k hk1 1 (by decide), hev]; rfl
      have y2 : wr.cell? ⟨b, off + k * 4 + 2, none⟩ = some (.int .i64 sz) := by rw [HR.out.2.2.cell HS.out.2.2.2.1, HS.out.2.1 k hk1 2 (by decide), hev]; rfl
      have y3 : wr.cell? ⟨b, off + k * 4 + 3, none⟩ = some (.int .u32 ck) := by rw [HR.out.2.2.cell HS.out.2.2.2.1, HS.out.2.1 k hk1 3 (by decide), hev]; rfl
      have hat2 : at_ = sumTo l k := by rw [hat]; exact HS.out.1.ats k (by rw [← HL.out.2.1]; exact hk1)
      have hsz2 : sz ≤ 131072 := by rw [hsz]; exact HS.out.1.szs k (by rw [← HL.out.2.1]; exact hk1)
      have hfit : at_ + sz ≤ D.size := by
        have e1 : at_ + sz = sumTo l (k + 1) := by rw [hat2, hsz]; rfl
        rw [e1, ← HS.out.2.2.1]
        exact sumTo_mono l hk1
      obtain ⟨d, hd⟩ : ∃ d, d = D.extract at_ (at_ + sz) := ⟨_, rfl⟩
      have hdl : d.data.toList = dataAt l k := by
        rw [hd, ext_list, HL.out.2.2, ext_list, Nat.add_sub_cancel_left, List.drop_take, List.drop_drop, List.take_take]
        unfold dataAt
        rw [← HL.out.1, ← HL.out.2.1, ← hsz, ← hat2]
        congr 1
        · omega
        · congr 1; omega
      have hds : d.size ≤ 140737488355328 := by rw [hd, ByteArray.size_extract]; omega
      have HE := Lib.hid (And.intro hid (And.intro hck (And.intro hev hdl)))
      have k3 : (at_ : Int) + sz ≤ D.size := by omega
      clear hid hat hsz hck hev hdl hat2
      go_upto_region 15 with (fail)
      rw [← hd]
      clear hd
      obtain ⟨W, hW⟩ : ∃ W, W = wr.alloc (.cells #[.string idb, .int .i64 at_, .int .i64 sz, .int .u32 ck] 66) := ⟨_, rfl⟩
      rw [← hW]
      have hwW : wr.heap.size < W.heap.size := by rw [hW]; simp
      have H3 := Lib.hid (show BlkIs W wr.heap.size 66 #[.string idb, .int .i64 at_, .int .i64 sz, .int .u32 ck] ∧ SlIs W w1.heap.size 34 2 (.slice ao2 k cap2) k (icells (readK l k)) ∧ Below w1.heap.size w1 W from by
        rw [hW]; exact ⟨BlkIs.new _ _ _, HR.out.2.1.alloc _, HR.out.2.2.alloc hbw _⟩)
      have e0 : ∀ u : LaterOf W, u.w.cell? ⟨wr.heap.size, 0, none⟩ = some (.string idb) := fun u => (u.blk H3.out.1).cell 0
      have e3 : ∀ u : LaterOf W, u.w.cell? ⟨wr.heap.size, 3, none⟩ = some (.int .u32 ck) := fun u => (u.blk H3.out.1).cell 3
      obtain ⟨cv, hcv⟩ : ∃ cv, cv = crc d.data.toList := ⟨_, rfl⟩
      obtain ⟨B, hB⟩ : ∃ B : ByteArray, B = ⟨(Sha.sum d.data.toList).toArray⟩ := ⟨_, rfl⟩
      have CC := Lib.hid (fun u : LaterOf W => crcsum_any d u.w hds)
      have CB := Lib.hid (fun u : LaterOf W => Sha.sum_any d u.w hds)
      rw [← hcv] at CC
      rw [← hB] at CB
      have HCB := Lib.hid (And.intro hcv hB)
      clear hcv hB hW y0 y1 y2 y3 hds
      have hbW := H3.out.2.2.size
      by_cases hc : cv = ck
      case neg =>
        have d5 : ((cv : Int) != (ck : Int)) = true := by simp; omega
        have HC := Lib.hid hc
        clear hc
        refine wp_region_heads (fun w' => ∃ u : LaterOf W, w' = u.w) 11 (by kernel_rfl) (by kernel_rfl) ⟨LaterOf.start W, rfl⟩ ?_
        simp only [List.take_succ_cons, List.take_zero, List.drop_succ_cons, List.drop_zero]
        repeat (go_big_quiet_step (first | with_reducible exact LaterOf.call _ (CC.out _) | with_reducible exact LaterOf.call _ (CB.out _)))
        refine wpQuiet_nil ?_
        intro w8 hw8
        obtain ⟨u, hu⟩ := hw8
        have H8 := Lib.hid (show BlkIs w8 wr.heap.size 66 #[.string idb, .int .i64 at_, .int .i64 sz, .int .u32 ck] ∧ SlIs w8 w1.heap.size 34 2 (.slice ao2 k cap2) k (icells (readK l k)) ∧ Below w1.heap.size w1 w8 from by
          rw [hu]; exact ⟨u.blk H3.out.1, H3.out.2.1.later u.h, H3.out.2.2.trans (u.h.mono hbW)⟩)
        clear hu u e0 e3 CC CB
        go_wp2_with fail
        refine bodyPost_ret (v := .tuple #[.slice none 0 0, .int .i64 20]) (by simp [results, Try.results13, go_sem]) rfl ?_
        exact ⟨20, [], none, 0, .wrong (by rw [HSL.out]; omega) HF.out (by rw [← HL.out.1]; exact HS.out.1) (fun h => HC.out (by rw [← HL.out.1] at h; have hr := h k (by rw [← HL.out.2.1]; exact hk1); rw [← HE.out.2.2.2] at hr; rw [HCB.out.1, HE.out.2.1]; exact hr.1)), rfl, nil_items _, HS.out.2.2.2.2.trans (H8.out.2.2.mono HS.out.2.2.2.2.size)⟩
      subst hc
      have d5 : ((cv : Int) != (cv : Int)) = false := by simp
      by_cases hc : B = idb
      case neg =>
        have hz2 := ne_list hc
        have HC := Lib.hid hc
        clear hc
        refine wp_region_heads (fun w' => ∃ u : LaterOf W, w' = u.w) 11 (by kernel_rfl) (by kernel_rfl) ⟨LaterOf.start W, rfl⟩ ?_
        simp only [List.take_succ_cons, List.take_zero, List.drop_succ_cons, List.drop_zero]
        repeat (go_big_quiet_step (first | with_reducible exact LaterOf.call _ (CC.out _) | with_reducible exact LaterOf.call _ (CB.out _)))
        refine wpQuiet_nil ?_
        intro w8 hw8
        obtain ⟨u, hu⟩ := hw8
        have H8 := Lib.hid (show BlkIs w8 wr.heap.size 66 #[.string idb, .int .i64 at_, .int .i64 sz, .int .u32 cv] ∧ SlIs w8 w1.heap.size 34 2 (.slice ao2 k cap2) k (icells (readK l k)) ∧ Below w1.heap.size w1 w8 from by
          rw [hu]; exact ⟨u.blk H3.out.1, H3.out.2.1.later u.h, H3.out.2.2.trans (u.h.mono hbW)⟩)
        clear hu u e0 e3 CC CB
        go_wp2_with fail
        refine bodyPost_ret (v := .tuple #[.slice none 0 0, .int .i64 20]) (by simp [results, Try.results13, go_sem]) rfl ?_
        exact ⟨20, [], none, 0, .wrong (by rw [HSL.out]; omega) HF.out (by rw [← HL.out.1]; exact HS.out.1) (fun h => HC.out (by rw [← HL.out.1] at h; have hr := h k (by rw [← HL.out.2.1]; exact hk1); rw [← HE.out.2.2.2] at hr; rw [HCB.out.2, HE.out.1, hr.2])), rfl, nil_items _, HS.out.2.2.2.2.trans (H8.out.2.2.mono HS.out.2.2.2.2.size)⟩
      have hz2 := eq_list hc
      have HC := Lib.hid hc
      clear hc
      refine wp_region_heads (fun w' => ∃ u : LaterOf W, w' = u.w) 11 (by kernel_rfl) (by kernel_rfl) ⟨LaterOf.start W, rfl⟩ ?_
      simp only [List.take_succ_cons, List.take_zero, List.drop_succ_cons, List.drop_zero]
      repeat (go_big_quiet_step (first | with_reducible exact LaterOf.call _ (CC.out _) | with_reducible exact LaterOf.call _ (CB.out _)))
      refine wpQuiet_nil ?_
      intro w8 hw8
      obtain ⟨u, hu⟩ := hw8
      have H8 := Lib.hid (show BlkIs w8 wr.heap.size 66 #[.string idb, .int .i64 at_, .int .i64 sz, .int .u32 cv] ∧ SlIs w8 w1.heap.size 34 2 (.slice ao2 k cap2) k (icells (readK l k)) ∧ Below w1.heap.size w1 w8 from by
        rw [hu]; exact ⟨u.blk H3.out.1, H3.out.2.1.later u.h, H3.out.2.2.trans (u.h.mono hbW)⟩)
      clear hu u e0 e3 CC CB
      have y0 : w8.cell? ⟨wr.heap.size, 0, none⟩ = some (.string idb) := H8.out.1.cell 0
      have hb8 := H8.out.2.2.size
      have HI := Lib.hid (show icells (readK l k) ++ encI (idb, d) = icells (readK l (k + 1)) from by
        rw [icells_snoc, ← readK_snoc, HE.out.1, ← HE.out.2.2.2])
      have hlen := readK_length l k
      go_wp2_with (at_builtin
                   refine wpList_append_sl rfl _ _ _ 28 rfl el_item (.slice ao2 k cap2) k (icells (readK l k)) rfl (H8.out.2.1.alloc _) _ 1 (encI (idb, d)) rfl (SrcIs.own Try.underlying28 (SlIs.made (base := 0) (BlkIs.new _ _ _) (Nat.zero_le _) rfl (by decide))) (enc_one (idb, d)) (by unfold maxLen; omega) (by omega) (by simp only [World.size_alloc]; omega) ?_
                   intro v9 w9 hs1 hg1 hat1
                   have hb9 := (H8.out.2.2.alloc hb8 (.cells #[.string idb, .string d] 34)).grown hg1 (by simp only [World.size_alloc]; omega) fun j hj => (H8.out.2.1.lt j hj).1
                   rw [HI.out] at hs1
                   have H9 := Lib.hid (And.intro hs1 hb9)
                   clear hs1 hb9 hg1 hat1)
      refine ⟨⟨k + 1, rfl, hk1, Lib.hid ⟨fun j hj => ?_, H9.out⟩⟩, ?_⟩
      · rcases Nat.lt_or_ge j k with h1 | h1
        · exact HR.out.1 j h1
        · obtain rfl : j = k := by omega
          exact ⟨by rw [← HE.out.2.2.2, ← HCB.out.1, HE.out.2.1], by
            have e1 := HC.out
            rw [HCB.out.2, HE.out.1] at e1
            have e2 := congrArg (fun x : ByteArray => x.data.toList) e1
            rw [← HE.out.2.2.2]
            simpa using e2⟩
      · simp [intOf]
        omega
    · have hkn : n = k := by omega
      subst hkn
      have ki : decide ((n : Int) < n) = false := by simp
      have hlen : (readK l n).length = n := readK_length l n
      have HI := HR.out.2.1
      rw [show SlIs wr w1.heap.size 34 2 (.slice ao2 n cap2) n (icells (readK l n)) = SlIs wr w1.heap.size 34 2 (.slice ao2 n cap2) (readK l n).length (icells (readK l n)) from by rw [hlen]] at HI
      obtain ⟨ao3, cap3, hv3, hIA⟩ := ItemsAt.own HI
      injection hv3 with e1 e2 e3
      subst e1 e3
      have HIA := Lib.hid hIA
      clear hIA HI e2
      have hLn : readL l = readK l n := by rw [HL.out.2.1]; rfl
      have HLN := Lib.hid (And.intro hLn hlen)
      clear hLn hlen
      go_wp2_with fail
      refine bodyPost_ret (v := .tuple #[.slice ao2 n cap2, .int .i64 0]) (by simp [results, Try.results13, go_sem]) rfl ?_
      refine ⟨0, readL l, ao2, cap2, ?_, by rw [HLN.out.1, HLN.out.2], by rw [HLN.out.1]; exact HIA.out, HS.out.2.2.2.2.trans (HR.out.2.2.mono HS.out.2.2.2.2.size)⟩
      have hh : 1112 ≤ s.data.toList.length := by rw [HSL.out]; omega
      have hA := HF.out
      have hS := HS.out.1
      have hR : Right l := fun i hi => HR.out.1 i (by rw [HL.out.2.1]; exact hi)
      rw [← HL.out.1] at hh hA ⊢
      exact .ok hh hA hS hR
end Go.Proofs.Ytabgpleiobpeoaa.Pak
