/- The reference's Encode of a commit, walked, and of any object: the program's very bytes. Conditions: the fields are a commit's, the parents' cells readable. -/
import Derived.Test.YtmdchfmcghiaeaaRefEnc
namespace Go.Proofs.Ytmdchfmcghiaeaa.Obj
open Go.RowKit
set_option maxRecDepth 100000 in
set_option maxHeartbeats 2000000 in
theorem renc_commit (d : ByteArray) (ao : Option Addr) (ne cap : Nat) (t : ByteArray) (ap : Option Addr) (np cp : Nat) (f : Nat → ByteArray) (hh : Nat) (n : ByteArray) (w : World) (hp : StrsAt w ap np f)
    (hg : ∀ w1, Below w.heap.size w w1 → Calls Try.prog 32 #[obj 3 d (.slice ao ne cap) t (.slice ap np cp) (hh : Int) n] w1 fun e w' => e = .returned (.bool true) ∧ Below w1.heap.size w1 w') (hok : commitOk t np f (hh : Int) n = true) :
    Calls Try.prog 31 #[obj 3 d (.slice ao ne cap) t (.slice ap np cp) (hh : Int) n] w fun e w' => e = .returned (.tuple #[.string ⟨(comB t np f hh n).toArray⟩, .int .i64 0]) ∧ Below w.heap.size w w' := by
  obtain ⟨g1, g2, g3, g4, g5, g6⟩ := commit_fields hok
  obtain ⟨R, hR⟩ : ∃ R : ByteArray, R = ⟨(comB t np f hh n).toArray⟩ := ⟨_, rfl⟩
  have hRl : R.data.toList = 3 :: (t.data.toList ++ Oct.le32 np ++ catB f np ++ (Oct.le32 hh ++ Oct.txt n.data.toList)) := by rw [hR]; rfl
  rw [← hR]
  have HR := Lib.hid hRl
  clear hR hRl
  obtain ⟨N, hN⟩ : ∃ N : ByteArray, N = ⟨(Oct.le32 np).toArray⟩ := ⟨_, rfl⟩
  have hN4 : N.size = 4 := by rw [hN]; rfl
  have hNn := Oct.ref_num np
  rw [← hN] at hNn
  obtain ⟨M, hM⟩ : ∃ M : ByteArray, M = ⟨(Oct.le32 hh).toArray⟩ := ⟨_, rfl⟩
  have hM4 : M.size = 4 := by rw [hM]; rfl
  have hMn := Oct.ref_num hh
  rw [← hM] at hMn
  obtain ⟨T, hT⟩ : ∃ T : ByteArray, T = ⟨(Oct.txt n.data.toList).toArray⟩ := ⟨_, rfl⟩
  have hTl : T.data.toList = Oct.txt n.data.toList := by rw [hT]
  have hTs : T.size = 4 + n.size := by show T.data.toList.length = _; rw [hTl, txt_len]; rfl
  have hTc := fun w => Oct.ref_text n w (by omega)
  rw [← hT] at hTc
  obtain ⟨B3, hB3⟩ : ∃ B : ByteArray, B = ⟨#[3]⟩ := ⟨_, rfl⟩
  have hB31 : B3.size = 1 := by rw [hB3]; rfl
  have hcv : ∀ (w' : World) (g : Nat), w'.cell? ⟨g, 0, none⟩ = some (.int .u8 3) → (convert 31 9 (.slice (some ⟨g, 0, none⟩) 1 1)).run Try.prog w' = .ok (.string B3) w' := fun w' g hc => by rw [hB3]; exact conv_one 3 w' g hc
  have HX := Lib.hid (And.intro hB3 (And.intro hN (And.intro hM hTl)))
  have HN := Lib.hid hNn
  have HM := Lib.hid hMn
  have HT := Lib.hid hTc
  have HG2 := Lib.hid g2
  have hmw : IntKind.u32.wrap (np : Int) = (np : Int) := by rw [IntKind.wrap_u32]; omega
  have hmm : (np : Int) % 4294967296 = (np : Int) := by omega
  have hhw : IntKind.u32.wrap (hh : Int) = (hh : Int) := by rw [IntKind.wrap_u32]; omega
  have hhm : (hh : Int) % 4294967296 = (hh : Int) := by omega
  have hb := (Below.refl w.heap.size w).alloc (Nat.le_refl _) (.cells #[.int .i64 3, .string d, .slice ao ne cap, .string t, .slice ap np cp, .int .i64 (hh : Int), .string n] 34)
  have k1 := BlkIs.new w 34 #[.int .i64 3, .string d, .slice ao ne cap, .string t, .slice ap np cp, .int .i64 (hh : Int), .string n]
  have H0 := Lib.hid (And.intro k1 hb)
  have HG := Lib.hid (hg _ hb)
  have HP := Lib.hid hp
  clear hb k1 hg hp hN hNn hM hMn hT hTl hTc hB3 g2 hok
  unfold obj at HG ⊢
  go_enter Try.func31, Try.ntmps31
  go_wp2_with fail
  refine HG.out.mono ?_
  rintro e w1 ⟨rfl, hb1⟩
  have H1 := Lib.hid (And.intro (H0.out.1.below hb1 H0.out.1.lt) (H0.out.2.trans (hb1.mono H0.out.2.size)))
  clear H0 HG hb1
  have c0 : w1.cell? ⟨w.heap.size, 0, none⟩ = some (.int .i64 3) := H1.out.1.cell 0
  have hlt1 := H1.out.1.lt
  go_upto_region 14 with (fail)
  have kO := H1.out.1.alloc (.cells #[.int .u8 3] 5)
  have hbO := H1.out.2.alloc H1.out.2.size (.cells #[.int .u8 3] 5)
  obtain ⟨W, hW⟩ : ∃ W, W = w1.alloc (.cells #[.int .u8 3] 5) := ⟨_, rfl⟩
  rw [← hW] at kO hbO ⊢
  have x3 : ∀ x : LaterOf W, x.w.cell? ⟨w.heap.size, 3, none⟩ = some (.string t) := fun x => (x.blk kO).cell 3
  have x4 : ∀ x : LaterOf W, x.w.cell? ⟨w.heap.size, 4, none⟩ = some (.slice ap np cp) := fun x => (x.blk kO).cell 4
  have LN := Lib.hid (fun x : LaterOf W => HN.out x.w)
  have HW := Lib.hid (And.intro kO hbO)
  have hcat1 : ¬ (9223372036854775807 < B3.size + t.size) := by omega
  have hcat2 : ¬ (9223372036854775807 < B3.size + t.size + N.size) := by omega
  clear hW kO hbO c0
  refine wp_region_all (fun w' => ∃ x : LaterOf W, w' = x.w) (by kernel_rfl) (by kernel_rfl) ⟨LaterOf.start W, rfl⟩ ?_
  repeat (go_big_quiet_step (exact LaterOf.call _ (LN.out _)))
  refine wpQuiet_nil ?_
  intro w2 hw2
  obtain ⟨x, rfl⟩ := hw2
  have H2 := Lib.hid (And.intro (x.blk HW.out.1) (HW.out.2.trans (x.h.mono HW.out.2.size)))
  obtain ⟨w2, hw2⟩ : ∃ w2, w2 = x.w := ⟨_, rfl⟩
  rw [← hw2] at H2 ⊢
  clear hw2 x3 x4 LN HW hcat1 hcat2
  go_wp2_with fail
  go_loopw [4, 7] (fun v i wr => ∃ (j : Nat) (s : ByteArray), i = .int .i64 (j : Int) ∧ v = .string s ∧ j ≤ np ∧ Hid (s.data.toList = 3 :: (t.data.toList ++ Oct.le32 np ++ catB f j)) ∧ s.size = 37 + j * 32 ∧ BlkIs wr w.heap.size 34 #[.int .i64 3, .string d, .slice ao ne cap, .string t, .slice ap np cp, .int .i64 (hh : Int), .string n] ∧ Below w.heap.size w wr) (fun _ i _ => ((np : Int) - intOf i).toNat)
  case atStart => exact ⟨0, B3 ++ t ++ N, rfl, rfl, by omega, Lib.hid (by rw [HX.out.1, HX.out.2.1]; simp [catB]), by rw [ByteArray.size_append, ByteArray.size_append]; omega, H2.out.1, H2.out.2⟩
  case round =>
    obtain ⟨j, s, rfl, rfl, hj, hs, hsz, hblk, hbw⟩ := hrel
    have c4 : wr.cell? ⟨w.heap.size, 4, none⟩ = some (.slice ap np cp) := hblk.cell 4
    rcases Nat.lt_or_ge j np with hj1 | hj1
    case inl =>
      have ji : (j : Int) < np := by omega
      obtain ⟨b, off, rfl, hbo, hcell⟩ := HP.out.2 (by omega)
      have p0 : wr.cell? ⟨b, off + j, none⟩ = some (.string (f j)) := by rw [hbw.cell hbo]; exact hcell j hj1
      have hf32 := ids_at HG2.out hj1
      have hcat1 : ¬ (9223372036854775807 < s.size + (f j).size) := by omega
      have H := Lib.hid (And.intro hblk hbw)
      clear hblk hbw hcell
      go_wp2_with fail
      refine ⟨⟨j + 1, s ++ f j, rfl, rfl, hj1, Lib.hid ?_, ?_, H.out.1, H.out.2⟩, ?_⟩
      · simp [hs.out, catB]
      · rw [ByteArray.size_append]
        omega
      · simp [intOf]
        omega
    case inr =>
      have ji : (np : Int) ≤ j := by omega
      obtain rfl : j = np := by omega
      have x5 : ∀ x : LaterOf wr, x.w.cell? ⟨w.heap.size, 5, none⟩ = some (.int .i64 (hh : Int)) := fun x => (x.blk hblk).cell 5
      have x6 : ∀ x : LaterOf wr, x.w.cell? ⟨w.heap.size, 6, none⟩ = some (.string n) := fun x => (x.blk hblk).cell 6
      have LM := Lib.hid (fun x : LaterOf wr => HM.out x.w)
      have LT := Lib.hid (fun x : LaterOf wr => HT.out x.w)
      have hcat1 : ¬ (9223372036854775807 < s.size + M.size) := by omega
      have hcat2 : ¬ (9223372036854775807 < s.size + M.size + T.size) := by omega
      have H := Lib.hid hbw
      clear hblk hbw
      go_upto_region 19 with (fail)
      refine wp_region_all (fun w' => ∃ x : LaterOf wr, w' = x.w) (by kernel_rfl) (by kernel_rfl) ⟨LaterOf.start wr, rfl⟩ ?_
      repeat (go_big_quiet_step (first | exact LaterOf.call _ (LM.out _) | exact LaterOf.call _ (LT.out _)))
      refine wpQuiet_nil ?_
      intro w3 hw3
      obtain ⟨x, rfl⟩ := hw3
      have H3 := Lib.hid (H.out.trans (x.h.mono H.out.size))
      obtain ⟨w3, hw3⟩ : ∃ w3, w3 = x.w := ⟨_, rfl⟩
      rw [← hw3] at H3 ⊢
      clear hw3 x5 x6 LM LT
      have hRs0 : R = s ++ M ++ T := by
        apply ByteArray.ext
        apply Array.ext'
        rw [HR.out]
        simp [hs.out, HX.out.2.2.1, HX.out.2.2.2]
      have hRs := Lib.hid hRs0
      clear hRs0
      go_wp2_with fail
      go_ret2
      exact ⟨by rw [hRs.out]; rfl, H3.out⟩
/-- The reference's Encode of any object. -/
theorem renc_any (o : Plain) (es ps : Value) (w : World) (he : EntsV w es o) (hp : StrsV w ps o) :
    Calls Try.prog 31 #[obj o.k o.d es o.t ps o.h o.n] w fun e w' => e = .returned (.tuple #[.string (enc o), .int .i64 (if o.good then 0 else 1)]) ∧ Below w.heap.size w w' := by
  have hG := fun w1 (hb : Below w.heap.size w w1) => rgood_any o es ps w1 (he.later hb) (hp.later hb)
  obtain ⟨ao, cap, rfl, hE⟩ := he
  obtain ⟨ap, cp, rfl, hP⟩ := hp
  cases hg : o.good
  · rw [hg] at hG
    unfold enc
    rw [hg]
    exact renc_bad o.k o.d ao o.ne cap o.t ap o.np cp o.h o.n w hG
  · rw [hg] at hG
    rcases good_kinds hg with hk | hk | hk
    · have e : enc o = ⟨(1 :: o.d.data.toList).toArray⟩ := by unfold enc encB; rw [if_pos hg, if_pos hk]
      have h := hg
      unfold Plain.good at h
      rw [if_pos hk, decide_eq_true_eq] at h
      rw [e]
      rw [hk] at hG ⊢
      exact renc_blob o.d ao o.ne cap o.t ap o.np cp o.h o.n w hG (by omega)
    · obtain ⟨e, h1, h2, _⟩ := enc_tree hg hk
      rw [e]
      rw [hk] at hG ⊢
      exact renc_tree o.d ao o.ne cap o.nm o.kd o.id o.t ap o.np cp o.h o.n w hE hG h1 h2
    · obtain ⟨e, h1⟩ := enc_commit hg hk
      obtain ⟨_, _, h0, _⟩ := commit_fields h1
      obtain ⟨hh, hhh⟩ := Int.eq_ofNat_of_zero_le h0
      rw [e]
      rw [hk, hhh] at hG ⊢
      rw [hhh] at h1
      exact renc_commit o.d ao o.ne cap o.t ap o.np cp o.f hh o.n w hP hG h1
end Go.Proofs.Ytmdchfmcghiaeaa.Obj
