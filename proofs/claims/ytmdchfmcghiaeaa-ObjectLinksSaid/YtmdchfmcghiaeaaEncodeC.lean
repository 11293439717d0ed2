/- object.Encode of commits, walked. Conditions: the fields can be a commit's. -/
import Derived.Test.YtmdchfmcghiaeaaEncode3
namespace Go.Proofs.Ytmdchfmcghiaeaa.Obj
open Go.RowKit
/-- The bytes of a commit. -/
def comB (t : ByteArray) (np : Nat) (f : Nat → ByteArray) (hh : Nat) (nt : ByteArray) : List UInt8 := 3 :: (t.data.toList ++ Oct.le32 np ++ catB f np ++ (Oct.le32 hh ++ Oct.txt nt.data.toList))
theorem commit_fields {t : ByteArray} {np : Nat} {f : Nat → ByteArray} {h : Int} {nt : ByteArray} (hok : commitOk t np f h nt = true) : np ≤ 8 ∧ ids f np = true ∧ 0 ≤ h ∧ h ≤ 1073741824 ∧ t.size = 32 ∧ (nt.size : Int) ≤ 1000 := by
  unfold commitOk at hok
  simp only [Bool.and_eq_true, decide_eq_true_eq, beq_iff_eq] at hok
  obtain ⟨⟨⟨⟨⟨h1, _⟩, h2⟩, ⟨⟨h3, h4⟩, _⟩⟩, h5⟩, h6⟩ := hok
  exact ⟨by omega, h2, h3, h4, by omega, h6⟩
set_option maxRecDepth 100000 in
set_option maxHeartbeats 600000 in
theorem encode_commit (d : ByteArray) (es : Value) (t : ByteArray) (ao : Option Addr) (n cap : Nat) (f : Nat → ByteArray) (hh : Nat) (nt : ByteArray) (w : World) (hp : StrsAt w ao n f) (hcap : n ≤ cap) (hok : commitOk t n f (hh : Int) nt = true) :
    Calls Try.prog 28 #[obj 3 d es t (.slice ao n cap) (hh : Int) nt] w fun e w' => e = .returned (.tuple #[.string ⟨(comB t n f hh nt).toArray⟩, .int .i64 0]) ∧ Below w.heap.size w w' := by
  obtain ⟨hn, hids, hh0, hh1, hts, hns⟩ := commit_fields hok
  have hg : ∀ w1 : World, StrsAt w1 ao n f → Calls Try.prog 29 #[obj 3 d es t (.slice ao n cap) (hh : Int) nt] w1 fun e w' => e = .returned (.bool true) ∧ Below w1.heap.size w1 w' := fun w1 h1 => by
    have := good_commit3 d es t (.slice ao n cap) (hh : Int) nt w1 _ fun w2 hb => good_commit 3 d es t ao n cap f (hh : Int) nt w2 (h1.later hb)
    rw [hok] at this
    exact this
  have Hg := Lib.hid hg
  have hni : (n : Int) ≤ 8 := by omega
  have Hnum := Lib.hid (Oct.num n)
  have Hnum2 := Lib.hid (Oct.num hh)
  have HJ := Lib.hid (fun w (h : StrsAt w ao n f) => join_any ao n cap f w h hids hn hcap)
  have hb0 := (Below.refl w.heap.size w).alloc (Nat.le_refl _) (.cells #[.int .i64 3, .string d, es, .string t, .slice ao n cap, .int .i64 (hh : Int), .string nt] 34)
  have Hp0 := Lib.hid (hp.later hb0)
  have Hb0 := Lib.hid hb0
  obtain ⟨M, hM⟩ : ∃ M : ByteArray, M = ⟨(Oct.le32 hh).toArray⟩ := ⟨_, rfl⟩
  obtain ⟨T, hT⟩ : ∃ T : ByteArray, T = ⟨(Oct.txt nt.data.toList).toArray⟩ := ⟨_, rfl⟩
  have hTx := fun w => Oct.text nt w (by omega)
  rw [← hT] at hTx
  rw [← hM] at Hnum2
  have hMs : M.size = 4 := by rw [hM]; rfl
  have hTs : T.size = 4 + nt.size := by rw [hT]; show (Oct.le32 _ ++ nt.data.toList).length = _; rw [List.length_append, Oct.le32_length]; rfl
  have HTx := Lib.hid hTx
  have HMT := Lib.hid (And.intro hM hT)
  clear hM hT hTx
  obtain ⟨N, hN⟩ : ∃ N : ByteArray, N = ⟨(Oct.le32 n).toArray⟩ := ⟨_, rfl⟩
  obtain ⟨J, hJ⟩ : ∃ J : ByteArray, J = ⟨(catB f n).toArray⟩ := ⟨_, rfl⟩
  rw [← hN] at Hnum
  rw [← hJ] at HJ
  have hNs : N.size = 4 := by rw [hN]; rfl
  have hJs : J.size = 32 * n := by rw [hJ]; exact catB_length f n hids
  have HNJ := Lib.hid (And.intro hN hJ)
  have hcm := hp.1
  clear hg hp hok hb0 hids hN hJ hcap hh0
  unfold obj at *
  go_enter Try.func28, Try.ntmps28
  go_wp2_with fail
  refine (Hg.out _ Hp0.out).mono ?_
  rintro e w1 ⟨rfl, hb1⟩
  have hb := Hb0.out.trans (hb1.mono (by simp))
  have hp1 := Hp0.out.later hb1
  have hblk := (BlkIs.new w 34 #[.int .i64 3, .string d, es, .string t, .slice ao n cap, .int .i64 (hh : Int), .string nt]).below hb1 (by simp)
  have hlt := hblk.lt
  have d0 : w1.cell? ⟨w.heap.size, 0, none⟩ = some (.int .i64 3) := hblk.cell 0
  have H1 := Lib.hid (And.intro hblk (And.intro hb hp1))
  clear hb1 hb hblk hp1
  go_wp2_with fail
  have hw1 := H1.out.2.1.size
  refine (Bld.writeByte w1.heap.size w1.heap.size [] 3 _ (Bld.Is.new _) (by decide) (by simp)).mono ?_
  rintro e w2 ⟨rfl, h2, hb2⟩
  have hb2' := (((Below.refl w1.heap.size w1).alloc (Nat.le_refl _) _).trans hb2)
  have hblk2 := H1.out.1.below hb2' hlt
  have hz2 := hb2'.size
  have e0 : w2.cell? ⟨w.heap.size, 0, none⟩ = some (.int .i64 3) := hblk2.cell 0
  have x3 : ∀ x : LaterOf w2, x.w.cell? ⟨w.heap.size, 3, none⟩ = some (.string t) := fun x => (x.blk hblk2).cell 3
  have x4 : ∀ x : LaterOf w2, x.w.cell? ⟨w.heap.size, 4, none⟩ = some (.slice ao n cap) := fun x => (x.blk hblk2).cell 4
  have HJx := Lib.hid (fun x : LaterOf w2 => HJ.out x.w ((H1.out.2.2.later hb2').later x.h))
  have Hnx := Lib.hid (fun x : LaterOf w2 => Hnum.out x.w)
  have HC := Lib.hid (And.intro h2 (And.intro hblk2 (And.intro (H1.out.2.2.later hb2') (And.intro (H1.out.2.1.trans (hb2'.mono hw1)) hz2))))
  have HR := Lib.hid (And.intro hNs (And.intro hJs (And.intro hts (And.intro hns (And.intro hMs hTs)))))
  have hcat3 : ¬ (9223372036854775807 < M.size + T.size) := by omega
  have hcat1 : ¬ (9223372036854775807 < t.size + N.size) := by omega
  have hcat2 : ¬ (9223372036854775807 < t.size + N.size + J.size) := by omega
  clear h2 hb2 hb2' hblk2 d0 hNs hJs hts hns hMs hTs
  go_upto_region 17 with (fail)
  refine wp_region_heads (fun w' => ∃ x : LaterOf w2, w' = x.w) 12 (by kernel_rfl) (by kernel_rfl) ⟨LaterOf.start w2, rfl⟩ ?_
  simp only [List.take_succ_cons, List.take_zero, List.drop_succ_cons, List.drop_zero]
  repeat (go_big_quiet_step (first | exact LaterOf.call _ (Hnx.out _) | exact LaterOf.call _ (HJx.out _)))
  refine wpQuiet_nil ?_
  intro w3 hw3
  obtain ⟨x, rfl⟩ := hw3
  have hz3 := x.h.size
  have hw1z := HC.out.2.2.2.2
  have HX := Lib.hid (And.intro (HC.out.1.later x.h) (And.intro (x.blk HC.out.2.1) (HC.out.2.2.2.1.trans (x.h.mono HC.out.2.2.2.1.size))))
  obtain ⟨w3, hx3⟩ := x
  clear x3 x4 HJx Hnx hcat1 hcat2
  go_wp2_with fail
  refine (Bld.writeString w1.heap.size w1.heap.size _ _ _ HX.out.1 (by obtain ⟨hNs, hJs, hts, -⟩ := HR.out; rw [ByteArray.size_append, ByteArray.size_append]; simp only [List.length_cons, List.length_append, List.length_nil]; omega) (Nat.le_trans hw1z hz3)).mono ?_
  rintro e w4 ⟨rfl, h4, hb4⟩
  have hblk4 := HX.out.2.1.below hb4 hlt
  have hb4' := HX.out.2.2.trans (hb4.mono hw1)
  have x5 : ∀ x : LaterOf w4, x.w.cell? ⟨w.heap.size, 5, none⟩ = some (.int .i64 (hh : Int)) := fun x => (x.blk hblk4).cell 5
  have x6 : ∀ x : LaterOf w4, x.w.cell? ⟨w.heap.size, 6, none⟩ = some (.string nt) := fun x => (x.blk hblk4).cell 6
  have Hn2 := Lib.hid (fun x : LaterOf w4 => Hnum2.out x.w)
  have HT2 := Lib.hid (fun x : LaterOf w4 => HTx.out x.w)
  have H4 := Lib.hid (And.intro h4 (And.intro hb4' (Nat.le_trans (Nat.le_trans hw1z hz3) hb4.size)))
  clear h4 hb4 hblk4 hb4'
  go_upto_region 18 with (fail)
  refine wp_region_heads (fun w' => ∃ x : LaterOf w4, w' = x.w) 8 (by kernel_rfl) (by kernel_rfl) ⟨LaterOf.start w4, rfl⟩ ?_
  simp only [List.take_succ_cons, List.take_zero, List.drop_succ_cons, List.drop_zero]
  repeat (go_big_quiet_step (first | exact LaterOf.call _ (Hn2.out _) | exact LaterOf.call _ (HT2.out _)))
  refine wpQuiet_nil ?_
  intro w5 hw5
  obtain ⟨x, rfl⟩ := hw5
  have hz5 := x.h.size
  have HY := Lib.hid (And.intro (H4.out.1.later x.h) (And.intro (H4.out.2.1.trans (x.h.mono H4.out.2.1.size)) (Nat.le_trans H4.out.2.2 hz5)))
  obtain ⟨w5, hx5⟩ := x
  clear x5 x6 Hn2 HT2
  go_wp2_with fail
  refine (Bld.writeString w1.heap.size w1.heap.size _ _ _ HY.out.1 (by obtain ⟨hNs, hJs, hts, hns, hMs, hTs⟩ := HR.out; have e1 : (t ++ N ++ J).data.toList.length = (t ++ N ++ J).size := rfl; rw [ByteArray.size_append, ByteArray.size_append] at e1; rw [ByteArray.size_append]; simp only [List.length_cons, List.length_append, List.length_nil, e1]; omega) HY.out.2.2).mono ?_
  rintro e w6 ⟨rfl, h6, hb6⟩
  have e1 : (t ++ N ++ J).data.toList = t.data.toList ++ Oct.le32 n ++ catB f n := by rw [HNJ.out.1, HNJ.out.2]; simp
  have e2 : (M ++ T).data.toList = Oct.le32 hh ++ Oct.txt nt.data.toList := by rw [HMT.out.1, HMT.out.2]; simp
  have hl : ([] ++ [3] ++ (t ++ N ++ J).data.toList ++ (M ++ T).data.toList) = comB t n f hh nt := by rw [e1, e2]; simp [comB]
  have h6 : Bld.Is w6 w1.heap.size w1.heap.size (comB t n f hh nt) := by rw [← hl]; exact h6
  have H6 := Lib.hid (And.intro h6 (HY.out.2.1.trans (hb6.mono hw1)))
  clear h6 hb6 e1 e2 hl
  go_wp2_with fail
  refine (Bld.string w1.heap.size w1.heap.size _ _ H6.out.1 (by simp [comB])).mono ?_
  rintro e w7 ⟨rfl, hb7⟩
  have hb8 := H6.out.2.trans (hb7.mono hw1)
  clear hb7
  go_wp2_with fail
  go_ret2
  exact ⟨rfl, hb8⟩
end Go.Proofs.Ytmdchfmcghiaeaa.Obj
