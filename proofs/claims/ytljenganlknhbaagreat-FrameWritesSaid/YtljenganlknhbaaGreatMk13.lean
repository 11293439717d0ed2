/- mark.Encode, walked: the bytes of marks that can be. (Layer 12.) -/
import Derived.Test.YtljenganlknhbaaGreatMk12
namespace Go.Proofs.YtljenganlknhbaaGreat.Mk
set_option linter.unusedVariables false
open Go.RowKit Oct
theorem encode_bad (m : MkR) (w : World) (h : m.Reads w) (hf : Fit m.tombs) (hg : goodB m.mk_ = false) : Calls Tryz.prog 71 #[aMk m] w fun e w' => e = .returned (.tuple #[.string ⟨#[]⟩, .int .i64 1]) ∧ Below w.heap.size w w' := by
  have hb1 : Below w.heap.size w (w.alloc (.cells #[m.rv, m.kv, m.bv] 28)) := (Below.refl _ _).alloc (Nat.le_refl _) _
  have G := good_any m (w.alloc (.cells #[m.rv, m.kv, m.bv] 28)) (h.later hb1) hf
  rw [hg] at G
  obtain ⟨refs, toks, zs, rv, kv, bv⟩ := m
  have G := Lib.hid (show Calls Tryz.prog 34 #[.agg #[rv, kv, bv]] (w.alloc (.cells #[rv, kv, bv] 28)) fun e w' => e = .returned (.bool false) ∧ Below (w.alloc (.cells #[rv, kv, bv] 28)).heap.size (w.alloc (.cells #[rv, kv, bv] 28)) w' from G)
  have HB := Lib.hid hb1
  show Calls Tryz.prog 71 #[.agg #[rv, kv, bv]] w fun e w' => e = .returned (.tuple #[.string ⟨#[]⟩, .int .i64 1]) ∧ Below w.heap.size w w'
  clear h hf hg hb1
  go_enter Tryz.func71, Tryz.ntmps71
  go_wp2_with fail
  refine G.out.mono ?_
  rintro e w2 ⟨rfl, hb⟩
  have H2 := Lib.hid (HB.out.trans (hb.mono HB.out.size))
  clear G hb
  go_wp2_with fail
  go_ret2
  exact ⟨rfl, H2.out⟩
set_option maxRecDepth 100000 in
set_option maxHeartbeats 16000000 in
theorem encode_good (m : MkR) (w : World) (h : m.Reads w) (hf : Fit m.tombs) (hg : goodB m.mk_ = true) : Calls Tryz.prog 71 #[aMk m] w fun e w' => e = .returned (.tuple #[.string (enMk m.mk_), .int .i64 0]) ∧ Below w.heap.size w w' := by
  have hb1 : Below w.heap.size w (w.alloc (.cells #[m.rv, m.kv, m.bv] 28)) := (Below.refl _ _).alloc (Nat.le_refl _) _
  have G := good_any m (w.alloc (.cells #[m.rv, m.kv, m.bv] 28)) (h.later hb1) hf
  rw [hg] at G
  have hok := ok_mk hg
  obtain ⟨refs, toks, zs, rv, kv, bv⟩ := m
  obtain ⟨M, hM⟩ : ∃ M, M = Mks.mk refs toks (zs.map (·.t)) := ⟨_, rfl⟩
  have hok2 : okMk M := by rw [hM]; exact hok
  clear hok
  obtain ⟨h1, h2, h3⟩ := h
  dsimp only at h1 h2 h3
  obtain ⟨o1, f1, rfl, -, -⟩ := h1.form
  obtain ⟨o2, f2, rfl, -, -⟩ := h2.form
  obtain ⟨o3, f3, rfl, -, -⟩ := h3.1.form
  obtain ⟨E, hE⟩ : ∃ E, E = enMk M := ⟨_, rfl⟩
  show Calls Tryz.prog 71 #[.agg #[.slice o1 refs.length f1, .slice o2 toks.length f2, .slice o3 zs.length f3]] w fun e w' => e = .returned (.tuple #[.string (enMk (Mks.mk refs toks (zs.map (·.t)))), .int .i64 0]) ∧ Below w.heap.size w w'
  rw [← hM, ← hE]
  have G : Calls Tryz.prog 34 #[.agg #[.slice o1 refs.length f1, .slice o2 toks.length f2, .slice o3 zs.length f3]] (w.alloc (.cells #[.slice o1 refs.length f1, .slice o2 toks.length f2, .slice o3 zs.length f3] 28)) fun e w' => e = .returned (.bool true) ∧ Below (w.alloc (.cells #[.slice o1 refs.length f1, .slice o2 toks.length f2, .slice o3 zs.length f3] 28)).heap.size (w.alloc (.cells #[.slice o1 refs.length f1, .slice o2 toks.length f2, .slice o3 zs.length f3] 28)) w' := G
  obtain ⟨n1, hn1⟩ : ∃ n, n = refs.length := ⟨_, rfl⟩
  obtain ⟨n2, hn2⟩ : ∃ n, n = toks.length := ⟨_, rfl⟩
  obtain ⟨n3, hn3⟩ : ∃ n, n = zs.length := ⟨_, rfl⟩
  rw [← hn1, ← hn2, ← hn3] at G ⊢
  have hc1 : n1 ≤ 64 := by rw [hn1]; have := hok2.1.1; rw [hM] at this; exact this
  have hc2 : n2 ≤ 256 := by rw [hn2]; have := hok2.2.1.1; rw [hM] at this; exact this
  have hc3 : n3 ≤ 64 := by rw [hn3]; have := hok2.2.2.1; rw [hM] at this; simpa using this
  have HL := Lib.hid (And.intro hn1 (And.intro hn2 hn3))
  have HM := Lib.hid (And.intro hM (And.intro hok2 hE))
  have HR := Lib.hid (show RowAt 3 vRf w (.slice o1 n1 f1) refs ∧ RowAt 3 vTok w (.slice o2 n2 f2) toks ∧ TombsAt w (.slice o3 n3 f3) zs from by rw [hn1, hn2, hn3]; exact ⟨h1, h2, h3⟩)
  have k1 := BlkIs.new w 28 #[.slice o1 n1 f1, .slice o2 n2 f2, .slice o3 n3 f3]
  have HB1 := Lib.hid (show BlkIs (w.alloc (.cells #[.slice o1 n1 f1, .slice o2 n2 f2, .slice o3 n3 f3] 28)) w.heap.size 28 #[.slice o1 n1 f1, .slice o2 n2 f2, .slice o3 n3 f3] ∧ Below w.heap.size w (w.alloc (.cells #[.slice o1 n1 f1, .slice o2 n2 f2, .slice o3 n3 f3] 28)) from ⟨k1, (Below.refl _ _).alloc (Nat.le_refl _) _⟩)
  have G := Lib.hid G
  clear h1 h2 h3 hf hg hb1 hok2 hM hE hn1 hn2 hn3 k1
  go_enter Tryz.func71, Tryz.ntmps71
  go_wp2_with fail
  refine G.out.mono ?_
  rintro e w2 ⟨rfl, hb⟩
  have H2 := Lib.hid (show BlkIs w2 w.heap.size 28 #[.slice o1 n1 f1, .slice o2 n2 f2, .slice o3 n3 f3] ∧ Below w.heap.size w w2 from ⟨HB1.out.1.below hb HB1.out.1.lt, HB1.out.2.trans (hb.mono HB1.out.2.size)⟩)
  clear G hb HB1
  have HC := Lib.hid (show RowAt 3 vRf w2 (.slice o1 n1 f1) refs ∧ RowAt 3 vTok w2 (.slice o2 n2 f2) toks ∧ TombsAt w2 (.slice o3 n3 f3) zs from ⟨HR.out.1.later H2.out.2, HR.out.2.1.later H2.out.2, HR.out.2.2.later H2.out.2⟩)
  have hN := Bld.Out.new w2
  obtain ⟨g, hgg⟩ : ∃ g, g = w2.heap.size := ⟨_, rfl⟩
  obtain ⟨W0, hW0⟩ : ∃ W0, W0 = w2.alloc (.cells #[.pointer none, .slice none 0 0] 132) := ⟨_, rfl⟩
  rw [← hW0, ← hgg] at hN
  have HN := Lib.hid hN
  have HW0 := Lib.hid hW0
  have HG := Lib.hid hgg
  have hbl0 : Below w2.heap.size w2 W0 := by rw [hW0]; exact (Below.refl _ _).alloc (Nat.le_refl _) _
  have d0 : (w2.alloc (.cells #[.pointer none, .slice none 0 0] 132)).cell? ⟨w.heap.size, 0, none⟩ = some (.slice o1 n1 f1) := by rw [← hW0]; exact (H2.out.1.below hbl0 H2.out.1.lt).cell 0
  clear hN hW0 hgg hbl0
  go_wp2_with fail
  rw [← HW0.out, ← HG.out]
  clear d0
  refine (mnum_any (n1 : Int) ⟨by omega, by omega⟩ W0).mono ?_
  rintro e w5 ⟨rfl, hb⟩
  have HO5 := Lib.hid (HN.out.later hb)
  clear hb
  go_wp2_with fail
  refine (HO5.out.write (enNum (n1 : Int)) (by rw [enNum_size]; show 0 + 4 ≤ _; omega)).mono ?_
  rintro e w6 ⟨rfl, ho, hkb, hsz⟩
  have HO6 := Lib.hid ho
  have HK6 := Lib.hid (And.intro hkb hsz)
  clear ho hkb hsz HO5
  have HS1 := Lib.hid (show Bld.Out w2 g (pre1 M 0) w6 from by
    have := HO6.out
    rw [nil_app] at this
    have e : pre1 M 0 = enNum (n1 : Int) := by
      unfold pre1
      rw [HM.out.1, HL.out.1, List.take_zero]
      exact app_nil _
    rw [e]; exact this)
  clear HO6 HK6
  have d0 : w6.cell? ⟨w.heap.size, 0, none⟩ = some (.slice o1 n1 f1) := (H2.out.1.below (by have := HS1.out.2.1; rwa [HS1.out.2.2.2] at this) H2.out.1.lt).cell 0
  go_wp2_with fail
  go_loopw [26] (fun i wr => ∃ k : Nat, i = .int .i64 (k : Int) ∧ k ≤ n1 ∧ Hid (Bld.Out w2 g (pre1 M k) wr)) (fun i _ => n1 - (intOf i).toNat)
  case atStart => exact ⟨0, rfl, Nat.zero_le _, HS1⟩
  case round =>
    obtain ⟨k, rfl, hkl, HO⟩ := hrel
    clear d0
    have HBw := Lib.hid (show Below w2.heap.size w2 wr from by have := HO.out.2.1; rwa [HO.out.2.2.2] at this)
    rcases Nat.lt_or_ge k n1 with hlt | hge
    · have ki : (k : Int) < n1 := by omega
      have hkL : k < refs.length := by rw [← HL.out.1]; exact hlt
      have hkM : k < M.refs.length := by rw [HM.out.1]; exact hkL
      obtain ⟨b, off, rfl, hblt, hc⟩ := HC.out.1.at_ (by omega)
      obtain ⟨x, hx⟩ : ∃ x, x = refs[k] := ⟨_, rfl⟩
      have hxM : M.refs[k] = x := by rw [hx]; simp only [HM.out.1]
      have hokx : okRf x := by rw [← hxM]; exact HM.out.2.1.1.2 _ (List.getElem_mem hkM)
      have hsuc := pre1_succ hkM
      rw [hxM] at hsuc
      have hps := pre1_size HM.out.2.1 k
      obtain ⟨a0, a1, a2⟩ := x
      have hsz := enText_size a0
      have T1 := mtext_any a0 (by have := hokx.1; dsimp only at this; omega)
      have T2 := mnum_any a2 hokx.2.2
      have hs1 : a0.size ≤ 255 := hokx.1
      have hs2 : a1.size = 32 := hokx.2.1
      have hen : enRf ⟨a0, a1, a2⟩ = enText a0 ++ a1 ++ enNum a2 := rfl
      obtain ⟨T, hT⟩ : ∃ T, T = enText a0 := ⟨_, rfl⟩
      obtain ⟨N, hN⟩ : ∃ N, N = enNum a2 := ⟨_, rfl⟩
      have hNs : N.size = 4 := by rw [hN]; exact enNum_size _
      rw [← hT] at T1 hsz hen
      rw [← hN] at T2 hen
      have T1 := Lib.hid T1
      have T2 := Lib.hid T2
      have HSuc := Lib.hid (hsuc.trans (by rw [hen]))
      have hcat1 : ¬ (9223372036854775807 < T.size + a1.size) := by omega
      have hcat2 : ¬ (9223372036854775807 < T.size + a1.size + N.size) := by omega
      have hfit : (pre1 M k).size + (T.size + a1.size + N.size) ≤ 140737488355328 := by omega
      have x0 : wr.cell? ⟨b, off + k * 3, none⟩ = some (.string a0) := by
        have := hc k hkL 0 (.string a0) (by rw [← hx]; rfl)
        rw [HBw.out.cell hblt]; simpa using this
      have x1 : wr.cell? ⟨b, off + k * 3 + 1, none⟩ = some (.string a1) := by
        have := hc k hkL 1 (.string a1) (by rw [← hx]; rfl)
        rw [HBw.out.cell hblt]; simpa using this
      have x2 : wr.cell? ⟨b, off + k * 3 + 2, none⟩ = some (.int .i64 a2) := by
        have := hc k hkL 2 (.int .i64 a2) (by rw [← hx]; rfl)
        rw [HBw.out.cell hblt]; simpa using this
      obtain ⟨W3, hW3⟩ : ∃ W3, W3 = wr.alloc (.cells #[.string a0, .string a1, .int .i64 a2] 51) := ⟨_, rfl⟩
      have hb3 : Below wr.heap.size wr W3 := by rw [hW3]; exact (Below.refl _ _).alloc (Nat.le_refl _) _
      have k3 : BlkIs W3 wr.heap.size 51 #[.string a0, .string a1, .int .i64 a2] := by rw [hW3]; exact BlkIs.new _ _ _
      have HO3 := Lib.hid (HO.out.later hb3)
      have u0 : ∀ X : LaterOf W3, X.w.cell? ⟨wr.heap.size, 0, none⟩ = some (.string a0) := fun X => (X.blk k3).cell 0
      have u1 : ∀ X : LaterOf W3, X.w.cell? ⟨wr.heap.size, 1, none⟩ = some (.string a1) := fun X => (X.blk k3).cell 1
      have u2 : ∀ X : LaterOf W3, X.w.cell? ⟨wr.heap.size, 2, none⟩ = some (.int .i64 a2) := fun X => (X.blk k3).cell 2
      have HW3 := Lib.hid hW3
      have HSz := Lib.hid hfit
      clear hc hx hxM hokx hsuc hps hsz hs1 hs2 hen hT hN hNs hb3 k3 hfit
      go_wp2_with fail
      rw [← HW3.out]
      clear hW3
      refine wp_region_heads (fun w' => ∃ x : LaterOf W3, w' = x.w) 10 (by kernel_rfl) (by kernel_rfl) ⟨LaterOf.start W3, rfl⟩ ?_
      simp only [List.take_succ_cons, List.take_zero, List.drop_succ_cons, List.drop_zero]
      repeat (go_big_quiet_step (first | with_reducible exact LaterOf.call _ (T1.out _) | with_reducible exact LaterOf.call _ (T2.out _)))
      refine wpQuiet_nil ?_
      intro w4 hw4
      obtain ⟨X, rfl⟩ := hw4
      have HOX := Lib.hid (HO3.out.later X.h)
      obtain ⟨w4, hx4⟩ := X
      clear u0 u1 u2 x0 x1 x2 hcat1 hcat2 T1 T2
      go_wp2_with fail
      refine (HOX.out.write (T ++ a1 ++ N) (by rw [ByteArray.size_append, ByteArray.size_append]; exact HSz.out)).mono ?_
      rintro e w5 ⟨rfl, ho, -, -⟩
      rw [← HSuc.out] at ho
      have HO5 := Lib.hid ho
      clear ho
      go_wp2_with fail
      exact ⟨⟨k + 1, by simp, by omega, HO5⟩, by simp [intOf]; omega⟩
    · have ki : decide (k < n1) = false := decide_eq_false (by omega)
      obtain rfl : n1 = k := by omega
      have HE1 := Lib.hid (show Bld.Out w2 g (enMany enRf M.refs) wr from by
        have := HO.out
        rw [HL.out.1] at this
        have e : refs.length = M.refs.length := by rw [HM.out.1]
        rwa [e, pre1_end] at this)
      have d1 : wr.cell? ⟨w.heap.size, 1, none⟩ = some (.slice o2 n2 f2) := (H2.out.1.below HBw.out H2.out.1.lt).cell 1
      go_wp2_with fail
      obtain ⟨Wa, hWa⟩ : ∃ Wa, Wa = wr := ⟨_, rfl⟩
      subst hWa
      clear HO
      clear d1
      refine (mnum_any (n2 : Int) ⟨by omega, by omega⟩ Wa).mono ?_
      rintro e w5 ⟨rfl, hb⟩
      have HO5 := Lib.hid (HE1.out.later hb)
      clear hb
      go_wp2_with fail
      refine (HO5.out.write (enNum (n2 : Int)) (by rw [enNum_size]; have := pre1_size HM.out.2.1 M.refs.length; rw [pre1_end] at this; omega)).mono ?_
      rintro e w6 ⟨rfl, ho, hkb, hsz⟩
      have HO6 := Lib.hid ho
      have HK6 := Lib.hid (And.intro hkb hsz)
      clear ho hkb hsz HO5
      have HS2 := Lib.hid (show Bld.Out w2 g (pre2 M 0) w6 from by
        have := HO6.out
        have e : pre2 M 0 = enMany enRf M.refs ++ enNum (n2 : Int) := by
          unfold pre2
          rw [HM.out.1, HL.out.2.1, List.take_zero]
          exact congrArg _ (app_nil _)
        rw [e]; exact this)
      clear HO6 HK6 HE1
      have d1 : w6.cell? ⟨w.heap.size, 1, none⟩ = some (.slice o2 n2 f2) := (H2.out.1.below (by have := HS2.out.2.1; rwa [HS2.out.2.2.2] at this) H2.out.1.lt).cell 1
      go_wp2_with fail
      go_loopw [50] (fun i wr => ∃ k : Nat, i = .int .i64 (k : Int) ∧ k ≤ n2 ∧ Hid (Bld.Out w2 g (pre2 M k) wr)) (fun i _ => n2 - (intOf i).toNat)
      case atStart => exact ⟨0, rfl, Nat.zero_le _, HS2⟩
      case round =>
        obtain ⟨k, rfl, hkl, HO⟩ := hrel
        clear d1
        have HBw2 := Lib.hid (show Below w2.heap.size w2 wr from by have := HO.out.2.1; rwa [HO.out.2.2.2] at this)
        rcases Nat.lt_or_ge k n2 with hlt | hge
        · have ki : (k : Int) < n2 := by omega
          have hkL : k < toks.length := by rw [← HL.out.2.1]; exact hlt
          have hkM : k < M.toks.length := by rw [HM.out.1]; exact hkL
          obtain ⟨b, off, rfl, hblt, hc⟩ := HC.out.2.1.at_ (by omega)
          obtain ⟨x, hx⟩ : ∃ x, x = toks[k] := ⟨_, rfl⟩
          have hxM : M.toks[k] = x := by rw [hx]; simp only [HM.out.1]
          have hokx : okTok x := by rw [← hxM]; exact HM.out.2.1.2.1.2 _ (List.getElem_mem hkM)
          have hsuc := pre2_succ hkM
          rw [hxM] at hsuc
          have hps := pre2_size HM.out.2.1 k
          obtain ⟨a0, a1, a2⟩ := x
          have T1 := mnum_any a0 hokx.1
          have T2 := mnum_any a1 hokx.2.1
          have hs2 : a2.size = 32 := hokx.2.2
          have hen : enTok ⟨a0, a1, a2⟩ = enNum a0 ++ enNum a1 ++ a2 := rfl
          obtain ⟨T, hT⟩ : ∃ T, T = enNum a0 := ⟨_, rfl⟩
          obtain ⟨N, hN⟩ : ∃ N, N = enNum a1 := ⟨_, rfl⟩
          have hNs : N.size = 4 := by rw [hN]; exact enNum_size _
          have hTs : T.size = 4 := by rw [hT]; exact enNum_size _
          rw [← hT] at T1 hen
          rw [← hN] at T2 hen
          have T1 := Lib.hid T1
          have T2 := Lib.hid T2
          have HSuc := Lib.hid (hsuc.trans (by rw [hen]))
          have hcat1 : ¬ (9223372036854775807 < T.size + N.size) := by omega
          have hcat2 : ¬ (9223372036854775807 < T.size + N.size + a2.size) := by omega
          have hfit : (pre2 M k).size + (T.size + N.size + a2.size) ≤ 140737488355328 := by omega
          have x0 : wr.cell? ⟨b, off + k * 3, none⟩ = some (.int .i64 a0) := by
            have := hc k hkL 0 (.int .i64 a0) (by rw [← hx]; rfl)
            rw [HBw2.out.cell hblt]; simpa using this
          have x1 : wr.cell? ⟨b, off + k * 3 + 1, none⟩ = some (.int .i64 a1) := by
            have := hc k hkL 1 (.int .i64 a1) (by rw [← hx]; rfl)
            rw [HBw2.out.cell hblt]; simpa using this
          have x2 : wr.cell? ⟨b, off + k * 3 + 2, none⟩ = some (.string a2) := by
            have := hc k hkL 2 (.string a2) (by rw [← hx]; rfl)
            rw [HBw2.out.cell hblt]; simpa using this
          obtain ⟨W3, hW3⟩ : ∃ W3, W3 = wr.alloc (.cells #[.int .i64 a0, .int .i64 a1, .string a2] 102) := ⟨_, rfl⟩
          have hb3 : Below wr.heap.size wr W3 := by rw [hW3]; exact (Below.refl _ _).alloc (Nat.le_refl _) _
          have k3 : BlkIs W3 wr.heap.size 102 #[.int .i64 a0, .int .i64 a1, .string a2] := by rw [hW3]; exact BlkIs.new _ _ _
          have HO3 := Lib.hid (HO.out.later hb3)
          have u0 : ∀ X : LaterOf W3, X.w.cell? ⟨wr.heap.size, 0, none⟩ = some (.int .i64 a0) := fun X => (X.blk k3).cell 0
          have u1 : ∀ X : LaterOf W3, X.w.cell? ⟨wr.heap.size, 1, none⟩ = some (.int .i64 a1) := fun X => (X.blk k3).cell 1
          have u2 : ∀ X : LaterOf W3, X.w.cell? ⟨wr.heap.size, 2, none⟩ = some (.string a2) := fun X => (X.blk k3).cell 2
          have HW3 := Lib.hid hW3
          have HSz := Lib.hid hfit
          clear hc hx hxM hokx hsuc hps hs2 hen hT hN hNs hTs hb3 k3 hfit
          go_wp2_with fail
          rw [← HW3.out]
          clear hW3
          refine wp_region_heads (fun w' => ∃ x : LaterOf W3, w' = x.w) 10 (by kernel_rfl) (by kernel_rfl) ⟨LaterOf.start W3, rfl⟩ ?_
          simp only [List.take_succ_cons, List.take_zero, List.drop_succ_cons, List.drop_zero]
          repeat (go_big_quiet_step (first | with_reducible exact LaterOf.call _ (T1.out _) | with_reducible exact LaterOf.call _ (T2.out _)))
          refine wpQuiet_nil ?_
          intro w4 hw4
          obtain ⟨X, rfl⟩ := hw4
          have HOX := Lib.hid (HO3.out.later X.h)
          obtain ⟨w4, hx4⟩ := X
          clear u0 u1 u2 x0 x1 x2 hcat1 hcat2 T1 T2
          go_wp2_with fail
          refine (HOX.out.write (T ++ N ++ a2) (by rw [ByteArray.size_append, ByteArray.size_append]; exact HSz.out)).mono ?_
          rintro e w5 ⟨rfl, ho, -, -⟩
          rw [← HSuc.out] at ho
          have HO5 := Lib.hid ho
          clear ho
          go_wp2_with fail
          exact ⟨⟨k + 1, by simp, by omega, HO5⟩, by simp [intOf]; omega⟩
        · have ki : decide (k < n2) = false := decide_eq_false (by omega)
          obtain rfl : n2 = k := by omega
          have HE2 := Lib.hid (show Bld.Out w2 g (enMany enRf M.refs ++ enMany enTok M.toks) wr from by
            have := HO.out
            rw [HL.out.2.1] at this
            have e : toks.length = M.toks.length := by rw [HM.out.1]
            rwa [e, pre2_end] at this)
          have d2 : wr.cell? ⟨w.heap.size, 2, none⟩ = some (.slice o3 n3 f3) := (H2.out.1.below HBw2.out H2.out.1.lt).cell 2
          go_wp2_with fail
          obtain ⟨Wb, hWb⟩ : ∃ Wb, Wb = wr := ⟨_, rfl⟩
          subst hWb
          clear HO
          clear d2
          refine (mnum_any (n3 : Int) ⟨by omega, by omega⟩ Wb).mono ?_
          rintro e w5 ⟨rfl, hb⟩
          have HO5 := Lib.hid (HE2.out.later hb)
          clear hb
          go_wp2_with fail
          refine (HO5.out.write (enNum (n3 : Int)) (by rw [enNum_size]; have := pre2_size HM.out.2.1 M.toks.length; rw [pre2_end] at this; omega)).mono ?_
          rintro e w6 ⟨rfl, ho, hkb, hsz⟩
          have HO6 := Lib.hid ho
          have HK6 := Lib.hid (And.intro hkb hsz)
          clear ho hkb hsz HO5
          have HS3 := Lib.hid (show Bld.Out w2 g (pre3 M 0) w6 from by
            have := HO6.out
            have e : pre3 M 0 = enMany enRf M.refs ++ enMany enTok M.toks ++ enNum (n3 : Int) := by
              unfold pre3
              rw [HM.out.1, List.length_map, HL.out.2.2, List.take_zero]
              exact congrArg _ (app_nil _)
            rw [e]; exact this)
          clear HO6 HK6 HE2
          have d2 : w6.cell? ⟨w.heap.size, 2, none⟩ = some (.slice o3 n3 f3) := (H2.out.1.below (by have := HS3.out.2.1; rwa [HS3.out.2.2.2] at this) H2.out.1.lt).cell 2
          go_wp2_with fail
          go_loopw [74] (fun i wr => ∃ k : Nat, i = .int .i64 (k : Int) ∧ k ≤ n3 ∧ Hid (Bld.Out w2 g (pre3 M k) wr)) (fun i _ => n3 - (intOf i).toNat)
          case atStart => exact ⟨0, rfl, Nat.zero_le _, HS3⟩
          case round =>
            obtain ⟨k, rfl, hkl, HO⟩ := hrel
            clear d2
            have HBw3 := Lib.hid (show Below w2.heap.size w2 wr from by have := HO.out.2.1; rwa [HO.out.2.2.2] at this)
            rcases Nat.lt_or_ge k n3 with hlt | hge
            rotate_left
            · have ki : decide (k < n3) = false := decide_eq_false (by omega)
              obtain rfl : n3 = k := by omega
              have HE3 := Lib.hid (show Bld.Out w2 g E wr from by
                have := HO.out
                rw [HL.out.2.2] at this
                have e : zs.length = M.tombs.length := by rw [HM.out.1]; simp
                rwa [e, pre3_end, ← HM.out.2.2] at this)
              go_wp2_with fail
              refine (HE3.out.string (by rw [HM.out.2.2]; unfold enMk enMany; simp only [ByteArray.size_append, enNum_size]; omega)).mono ?_
              rintro e w5 ⟨rfl, hb⟩
              have H5 := Lib.hid (H2.out.2.trans (hb.mono H2.out.2.size))
              clear hb
              go_wp2_with fail
              go_ret2
              exact ⟨rfl, H5.out⟩
            · obtain ⟨Wc, hWc⟩ : ∃ Wc, Wc = wr := ⟨_, rfl⟩
              subst hWc
              have ki : (k : Int) < n3 := by omega
              have hkL : k < zs.length := by rw [← HL.out.2.2]; exact hlt
              have hkM : k < M.tombs.length := by rw [HM.out.1]; simpa using hkL
              obtain ⟨b, off, rfl, hblt, hc⟩ := HC.out.2.2.1.at_ (by omega)
              obtain ⟨x, hx⟩ : ∃ x, x = zs[k] := ⟨_, rfl⟩
              have hxm : x ∈ zs := by rw [hx]; exact List.getElem_mem hkL
              have hxM : M.tombs[k] = x.t := by rw [hx]; simp only [HM.out.1, List.getElem_map]
              have hokx : okTb x.t := by rw [← hxM]; exact HM.out.2.1.2.2.2 _ (List.getElem_mem hkM)
              have hsuc := pre3_succ hkM
              rw [hxM] at hsuc
              have hps := pre3_size HM.out.2.1 k
              have hre := HC.out.2.2.2 x hxm
              obtain ⟨p1, f4, hv1, -, -⟩ := hre.1.form
              obtain ⟨p2, f5, hv2, -, -⟩ := hre.2.form
              obtain ⟨m1, hm1⟩ : ∃ m, m = x.t.cov.length := ⟨_, rfl⟩
              obtain ⟨m2, hm2⟩ : ∃ m, m = x.t.acks.length := ⟨_, rfl⟩
              rw [← hm1] at hv1
              rw [← hm2] at hv2
              obtain ⟨⟨a0, a1, a2, a5, a6⟩, a3, a4⟩ := x
              dsimp only at hv1 hv2 hsuc hokx hxM hre hm1 hm2
              subst hv1 hv2
              have hre1 : RowAt 3 vTok w2 (.slice p1 m1 f4) a5 := hre.1
              have hre2 : RowAt 1 vInt w2 (.slice p2 m2 f5) a6 := hre.2
              have HRe := Lib.hid (And.intro hre1 hre2)
              have hmm1 : m1 ≤ 256 := by rw [hm1]; exact hokx.2.1.1
              have hmm2 : m2 ≤ 7 := by rw [hm2]; exact hokx.2.2.1
              have HOk := Lib.hid (And.intro hokx.2.1.2 hokx.2.2.2)
              have HMl := Lib.hid (And.intro hm1 hm2)
              have T1 := mnum_any a0 hokx.1.1
              have T2 := mnum_any a1 hokx.1.2.1
              have T3 := mnum_any (m1 : Int) ⟨by omega, by omega⟩
              have hs2 : a2.size = 32 := hokx.1.2.2
              obtain ⟨T, hT⟩ : ∃ T, T = enNum a0 := ⟨_, rfl⟩
              obtain ⟨N, hN⟩ : ∃ N, N = enNum a1 := ⟨_, rfl⟩
              obtain ⟨C, hC⟩ : ∃ C, C = enNum (m1 : Int) := ⟨_, rfl⟩
              have hTs : T.size = 4 := by rw [hT]; exact enNum_size _
              have hNs : N.size = 4 := by rw [hN]; exact enNum_size _
              have hCs : C.size = 4 := by rw [hC]; exact enNum_size _
              rw [← hT] at T1
              rw [← hN] at T2
              rw [← hC] at T3
              have T1 := Lib.hid T1
              have T2 := Lib.hid T2
              have T3 := Lib.hid T3
              have HSuc := Lib.hid (show pre3 M (k + 1) = pre3 M k ++ (T ++ N ++ a2 ++ C) ++ enAll enCov a5 ++ enNum (m2 : Int) ++ enAll enNum a6 by
                rw [hsuc, hT, hN, hC, hm1, hm2]
                unfold enTb enMany
                simp only [ByteArray.append_assoc])
              have hcat1 : ¬ (9223372036854775807 < T.size + N.size) := by omega
              have hcat2 : ¬ (9223372036854775807 < T.size + N.size + a2.size) := by omega
              have hcat3 : ¬ (9223372036854775807 < T.size + N.size + a2.size + C.size) := by omega
              obtain ⟨P0, hP0⟩ : ∃ P0, P0 = pre3 M k ++ (T ++ N ++ a2 ++ C) := ⟨_, rfl⟩
              have hP0s : P0.size ≤ 170044 := by rw [hP0]; simp only [ByteArray.size_append]; omega
              have hfit : (pre3 M k).size + (T.size + N.size + a2.size + C.size) ≤ 140737488355328 := by omega
              have HP0 := Lib.hid hP0
              have x0 : Wc.cell? ⟨b, off + k * 5, none⟩ = some (.int .i64 a0) := by
                have := hc k hkL 0 (.int .i64 a0) (by rw [← hx]; rfl)
                rw [HBw3.out.cell hblt]; simpa using this
              have x1 : Wc.cell? ⟨b, off + k * 5 + 1, none⟩ = some (.int .i64 a1) := by
                have := hc k hkL 1 (.int .i64 a1) (by rw [← hx]; rfl)
                rw [HBw3.out.cell hblt]; simpa using this
              have x2 : Wc.cell? ⟨b, off + k * 5 + 2, none⟩ = some (.string a2) := by
                have := hc k hkL 2 (.string a2) (by rw [← hx]; rfl)
                rw [HBw3.out.cell hblt]; simpa using this
              have x3 : Wc.cell? ⟨b, off + k * 5 + 3, none⟩ = some (.slice p1 m1 f4) := by
                have := hc k hkL 3 (.slice p1 m1 f4) (by rw [← hx]; rfl)
                rw [HBw3.out.cell hblt]; simpa using this
              have x4 : Wc.cell? ⟨b, off + k * 5 + 4, none⟩ = some (.slice p2 m2 f5) := by
                have := hc k hkL 4 (.slice p2 m2 f5) (by rw [← hx]; rfl)
                rw [HBw3.out.cell hblt]; simpa using this
              obtain ⟨W3, hW3⟩ : ∃ W3, W3 = Wc.alloc (.cells #[.int .i64 a0, .int .i64 a1, .string a2, .slice p1 m1 f4, .slice p2 m2 f5] 54) := ⟨_, rfl⟩
              have hb3 : Below Wc.heap.size Wc W3 := by rw [hW3]; exact (Below.refl _ _).alloc (Nat.le_refl _) _
              have k3 : BlkIs W3 Wc.heap.size 54 #[.int .i64 a0, .int .i64 a1, .string a2, .slice p1 m1 f4, .slice p2 m2 f5] := by rw [hW3]; exact BlkIs.new _ _ _
              have HO3 := Lib.hid (HO.out.later hb3)
              have hgl : g ≠ Wc.heap.size := by have := HO.out.2.2.1; omega
              obtain ⟨B3, hB3⟩ : ∃ B3, B3 = Wc.heap.size := ⟨_, rfl⟩
              rw [← hB3] at k3 hgl
              have HB3 := Lib.hid hB3
              have u0 : ∀ X : LaterOf W3, X.w.cell? ⟨B3, 0, none⟩ = some (.int .i64 a0) := fun X => (X.blk k3).cell 0
              have u1 : ∀ X : LaterOf W3, X.w.cell? ⟨B3, 1, none⟩ = some (.int .i64 a1) := fun X => (X.blk k3).cell 1
              have u2 : ∀ X : LaterOf W3, X.w.cell? ⟨B3, 2, none⟩ = some (.string a2) := fun X => (X.blk k3).cell 2
              have u3 : ∀ X : LaterOf W3, X.w.cell? ⟨B3, 3, none⟩ = some (.slice p1 m1 f4) := fun X => (X.blk k3).cell 3
              have HK3 := Lib.hid k3
              have HGl := Lib.hid hgl
              have HW3 := Lib.hid hW3
              have HSz := Lib.hid hfit
              clear hc hx hxm hxM hokx hsuc hps hre hre1 hre2 hm1 hm2 hs2 hT hN hC hTs hNs hCs hb3 k3 hgl hfit hP0 hB3
              go_wp2_with fail
              rw [← HW3.out, ← HB3.out]
              clear hW3
              refine wp_region_heads (fun w' => ∃ x : LaterOf W3, w' = x.w) 15 (by kernel_rfl) (by kernel_rfl) ⟨LaterOf.start W3, rfl⟩ ?_
              simp only [List.take_succ_cons, List.take_zero, List.drop_succ_cons, List.drop_zero]
              repeat (go_big_quiet_step (first | with_reducible exact LaterOf.call _ (T1.out _) | with_reducible exact LaterOf.call _ (T2.out _) | with_reducible exact LaterOf.call _ (T3.out _)))
              refine wpQuiet_nil ?_
              intro w4 hw4
              obtain ⟨X, rfl⟩ := hw4
              have HOX := Lib.hid (HO3.out.later X.h)
              have HKX := Lib.hid (X.blk HK3.out)
              obtain ⟨w4, hx4⟩ := X
              clear u0 u1 u2 u3 x0 x1 x2 x3 x4 hcat1 hcat2 hcat3 T1 T2 T3
              go_wp2_with fail
              refine (HOX.out.write (T ++ N ++ a2 ++ C) (by simp only [ByteArray.size_append]; exact HSz.out)).mono ?_
              rintro e w5 ⟨rfl, ho, hkb, -⟩
              rw [← HP0.out] at ho
              have HO5 := Lib.hid (show Bld.Out w2 g (P0 ++ enAll enCov (a5.take 0)) w5 ∧ BlkIs w5 B3 54 #[.int .i64 a0, .int .i64 a1, .string a2, .slice p1 m1 f4, .slice p2 m2 f5] from
                ⟨by rw [List.take_zero]; show Bld.Out w2 g (P0 ++ ⟨#[]⟩) w5; rw [app_nil]; exact ho, hkb B3 _ _ HKX.out (Ne.symm HGl.out) (by decide)⟩)
              have d3 : w5.cell? ⟨B3, 3, none⟩ = some (.slice p1 m1 f4) := HO5.out.2.cell 3
              clear ho hkb HO3 HOX HKX
              go_wp2_with fail
              go_loopw [97] (fun i wr => ∃ j : Nat, i = .int .i64 (j : Int) ∧ j ≤ m1 ∧ Hid (Bld.Out w2 g (P0 ++ enAll enCov (a5.take j)) wr ∧ BlkIs wr B3 54 #[.int .i64 a0, .int .i64 a1, .string a2, .slice p1 m1 f4, .slice p2 m2 f5])) (fun i _ => m1 - (intOf i).toNat)
              case atStart => exact ⟨0, rfl, Nat.zero_le _, HO5⟩
              case round =>
                obtain ⟨j, rfl, hjl, HJ⟩ := hrel
                clear d3 HO5
                have HBj := Lib.hid (show Below w2.heap.size w2 wr from by have := HJ.out.1.2.1; rwa [HJ.out.1.2.2.2] at this)
                have hcs := enAll_size (en := enCov) (c := 8) (a5.take j) fun x _ => enCov_size x
                have hcl : (a5.take j).length ≤ a5.length := List.length_take_le' _ _
                rw [← HMl.out.1] at hcl
                have hcs2 : (enAll enCov (a5.take j)).size ≤ 2048 := by omega
                clear hcs hcl
                rcases Nat.lt_or_ge j m1 with hlt2 | hge2
                · have ji : (j : Int) < m1 := by omega
                  have hjL : j < a5.length := by rw [← HMl.out.1]; exact hlt2
                  obtain ⟨b5, off5, rfl, hblt5, hc5⟩ := HRe.out.1.at_ (by omega)
                  obtain ⟨y, hy⟩ : ∃ y, y = a5[j] := ⟨_, rfl⟩
                  have hyo := HOk.out.1 y (by rw [hy]; exact List.getElem_mem hjL)
                  have hsn : enAll enCov (a5.take (j + 1)) = enAll enCov (a5.take j) ++ enCov y := by rw [take_snoc' hjL, enAll_snoc, hy]
                  obtain ⟨b0, b1, b2⟩ := y
                  have T1 := mnum_any b0 hyo.1
                  have T2 := mnum_any b1 hyo.2.1
                  obtain ⟨T, hT⟩ : ∃ T, T = enNum b0 := ⟨_, rfl⟩
                  obtain ⟨N, hN⟩ : ∃ N, N = enNum b1 := ⟨_, rfl⟩
                  have hTs : T.size = 4 := by rw [hT]; exact enNum_size _
                  have hNs : N.size = 4 := by rw [hN]; exact enNum_size _
                  rw [← hT] at T1
                  rw [← hN] at T2
                  have T1 := Lib.hid T1
                  have T2 := Lib.hid T2
                  have HSn := Lib.hid (show P0 ++ enAll enCov (a5.take (j + 1)) = P0 ++ enAll enCov (a5.take j) ++ (T ++ N) by rw [hsn, ByteArray.append_assoc, hT, hN]; rfl)
                  have hcat1 : ¬ (9223372036854775807 < T.size + N.size) := by omega
                  have hfit : P0.size + (enAll enCov (a5.take j)).size + (T.size + N.size) ≤ 140737488355328 := by omega
                  have y0 : wr.cell? ⟨b5, off5 + j * 3, none⟩ = some (.int .i64 b0) := by
                    have := hc5 j hjL 0 (.int .i64 b0) (by rw [← hy]; rfl)
                    rw [HBj.out.cell hblt5]; simpa using this
                  have y1 : wr.cell? ⟨b5, off5 + j * 3 + 1, none⟩ = some (.int .i64 b1) := by
                    have := hc5 j hjL 1 (.int .i64 b1) (by rw [← hy]; rfl)
                    rw [HBj.out.cell hblt5]; simpa using this
                  have y2 : wr.cell? ⟨b5, off5 + j * 3 + 2, none⟩ = some (.string b2) := by
                    have := hc5 j hjL 2 (.string b2) (by rw [← hy]; rfl)
                    rw [HBj.out.cell hblt5]; simpa using this
                  obtain ⟨W6, hW6⟩ : ∃ W6, W6 = wr.alloc (.cells #[.int .i64 b0, .int .i64 b1, .string b2] 102) := ⟨_, rfl⟩
                  have hb6 : Below wr.heap.size wr W6 := by rw [hW6]; exact (Below.refl _ _).alloc (Nat.le_refl _) _
                  have k6 : BlkIs W6 wr.heap.size 102 #[.int .i64 b0, .int .i64 b1, .string b2] := by rw [hW6]; exact BlkIs.new _ _ _
                  have HJ6 := Lib.hid (show Bld.Out w2 g (P0 ++ enAll enCov (a5.take j)) W6 ∧ BlkIs W6 B3 54 #[.int .i64 a0, .int .i64 a1, .string a2, .slice (some ⟨b5, off5, none⟩) m1 f4, .slice p2 m2 f5] from ⟨HJ.out.1.later hb6, HJ.out.2.below hb6 HJ.out.2.lt⟩)
                  have v0 : ∀ X : LaterOf W6, X.w.cell? ⟨wr.heap.size, 0, none⟩ = some (.int .i64 b0) := fun X => (X.blk k6).cell 0
                  have v1 : ∀ X : LaterOf W6, X.w.cell? ⟨wr.heap.size, 1, none⟩ = some (.int .i64 b1) := fun X => (X.blk k6).cell 1
                  have HW6 := Lib.hid hW6
                  have HSz2 := Lib.hid hfit
                  clear hc5 hy hyo hsn hT hN hTs hNs hb6 k6 hfit
                  go_wp2_with fail
                  rw [← HW6.out]
                  clear hW6
                  refine wp_region_heads (fun w' => ∃ x : LaterOf W6, w' = x.w) 7 (by kernel_rfl) (by kernel_rfl) ⟨LaterOf.start W6, rfl⟩ ?_
                  simp only [List.take_succ_cons, List.take_zero, List.drop_succ_cons, List.drop_zero]
                  repeat (go_big_quiet_step (first | with_reducible exact LaterOf.call _ (T1.out _) | with_reducible exact LaterOf.call _ (T2.out _)))
                  refine wpQuiet_nil ?_
                  intro w4 hw4
                  obtain ⟨X, rfl⟩ := hw4
                  have HOX := Lib.hid (show Bld.Out w2 g (P0 ++ enAll enCov (a5.take j)) X.w ∧ BlkIs X.w B3 54 #[.int .i64 a0, .int .i64 a1, .string a2, .slice (some ⟨b5, off5, none⟩) m1 f4, .slice p2 m2 f5] from ⟨HJ6.out.1.later X.h, X.blk HJ6.out.2⟩)
                  obtain ⟨w7, hx7⟩ := X
                  clear v0 v1 y0 y1 y2 hcat1 T1 T2
                  go_wp2_with fail
                  refine (HOX.out.1.write (T ++ N) (by simp only [ByteArray.size_append]; exact HSz2.out)).mono ?_
                  rintro e w8 ⟨rfl, ho, hkb, -⟩
                  rw [← HSn.out] at ho
                  have HO8 := Lib.hid (And.intro ho (hkb B3 _ _ HOX.out.2 (Ne.symm HGl.out) (by decide)))
                  clear ho hkb
                  go_wp2_with fail
                  exact ⟨⟨j + 1, by simp, by omega, HO8⟩, by simp [intOf]; omega⟩
                · have ji : decide (j < m1) = false := decide_eq_false (by omega)
                  obtain rfl : m1 = j := by omega
                  obtain ⟨P1, hP1⟩ : ∃ P1, P1 = P0 ++ enAll enCov a5 := ⟨_, rfl⟩
                  have hP1s : P1.size ≤ 172100 := by
                    have : a5.take m1 = a5 := by rw [HMl.out.1, List.take_length]
                    rw [this] at hcs2
                    rw [hP1, ByteArray.size_append]; omega
                  have HE4 := Lib.hid (show Bld.Out w2 g P1 wr ∧ BlkIs wr B3 54 #[.int .i64 a0, .int .i64 a1, .string a2, .slice p1 m1 f4, .slice p2 m2 f5] from by
                    have h0 := HJ.out
                    have : a5.take m1 = a5 := by rw [HMl.out.1, List.take_length]
                    rw [this, ← hP1] at h0
                    exact h0)
                  have HP1 := Lib.hid hP1
                  have d4 : wr.cell? ⟨B3, 4, none⟩ = some (.slice p2 m2 f5) := HE4.out.2.cell 4
                  have T5 := Lib.hid (mnum_any (m2 : Int) ⟨by omega, by omega⟩)
                  clear HJ hP1 hcs2
                  obtain ⟨Wd, hWd⟩ : ∃ Wd, Wd = wr := ⟨_, rfl⟩
                  subst hWd
                  go_wp2_with fail
                  refine (T5.out Wd).mono ?_
                  rintro e w8 ⟨rfl, hb⟩
                  have HE5 := Lib.hid (show Bld.Out w2 g P1 w8 ∧ BlkIs w8 B3 54 #[.int .i64 a0, .int .i64 a1, .string a2, .slice p1 m1 f4, .slice p2 m2 f5] from ⟨HE4.out.1.later hb, HE4.out.2.below hb HE4.out.2.lt⟩)
                  clear hb d4 T5
                  go_wp2_with fail
                  refine (HE5.out.1.write (enNum (m2 : Int)) (by rw [enNum_size]; omega)).mono ?_
                  rintro e w9 ⟨rfl, ho, hkb, -⟩
                  obtain ⟨P2, hP2⟩ : ∃ P2, P2 = P1 ++ enNum (m2 : Int) := ⟨_, rfl⟩
                  have hP2s : P2.size ≤ 172104 := by rw [hP2, ByteArray.size_append, enNum_size]; omega
                  rw [← hP2] at ho
                  have HP2 := Lib.hid hP2
                  have HO9 := Lib.hid (show Bld.Out w2 g (P2 ++ enAll enNum (a6.take 0)) w9 ∧ BlkIs w9 B3 54 #[.int .i64 a0, .int .i64 a1, .string a2, .slice p1 m1 f4, .slice p2 m2 f5] from
                    ⟨by rw [List.take_zero]; show Bld.Out w2 g (P2 ++ ⟨#[]⟩) w9; rw [app_nil]; exact ho, hkb B3 _ _ HE5.out.2 (Ne.symm HGl.out) (by decide)⟩)
                  have d4 : w9.cell? ⟨B3, 4, none⟩ = some (.slice p2 m2 f5) := HO9.out.2.cell 4
                  clear ho hkb hP2 HE4 HE5
                  go_wp2_with fail
                  go_loopw [118] (fun i wr => ∃ j : Nat, i = .int .i64 (j : Int) ∧ j ≤ m2 ∧ Hid (Bld.Out w2 g (P2 ++ enAll enNum (a6.take j)) wr ∧ BlkIs wr B3 54 #[.int .i64 a0, .int .i64 a1, .string a2, .slice p1 m1 f4, .slice p2 m2 f5])) (fun i _ => m2 - (intOf i).toNat)
                  case atStart => exact ⟨0, rfl, Nat.zero_le _, HO9⟩
                  case round =>
                    obtain ⟨q, rfl, hql, HQ⟩ := hrel
                    clear d4 HO9
                    have HBq := Lib.hid (show Below w2.heap.size w2 wr from by have := HQ.out.1.2.1; rwa [HQ.out.1.2.2.2] at this)
                    have hcs := enAll_size (en := enNum) (c := 4) (a6.take q) fun x _ => Nat.le_of_eq (enNum_size x)
                    have hcl : (a6.take q).length ≤ a6.length := List.length_take_le' _ _
                    rw [← HMl.out.2] at hcl
                    have hcs2 : (enAll enNum (a6.take q)).size ≤ 28 := by omega
                    clear hcs hcl
                    rcases Nat.lt_or_ge q m2 with hlt3 | hge3
                    · have qi : (q : Int) < m2 := by omega
                      have hqL : q < a6.length := by rw [← HMl.out.2]; exact hlt3
                      obtain ⟨b6, off6, rfl, hblt6, hc6⟩ := HRe.out.2.at_ (by omega)
                      obtain ⟨z, hz⟩ : ∃ z, z = a6[q] := ⟨_, rfl⟩
                      have hzo := HOk.out.2 z (by rw [hz]; exact List.getElem_mem hqL)
                      have HSn := Lib.hid (show P2 ++ enAll enNum (a6.take (q + 1)) = P2 ++ enAll enNum (a6.take q) ++ enNum z by rw [take_snoc' hqL, enAll_snoc, ByteArray.append_assoc, hz])
                      have T6 := Lib.hid (mnum_any z hzo)
                      have z0 : wr.cell? ⟨b6, off6 + q, none⟩ = some (.int .i64 z) := by
                        have := hc6 q hqL 0 (.int .i64 z) (by rw [← hz]; rfl)
                        rw [HBq.out.cell hblt6]; simpa using this
                      clear hc6 hz hzo
                      go_wp2_with fail
                      refine (T6.out wr).mono ?_
                      rintro e w10 ⟨rfl, hb⟩
                      have HQ2 := Lib.hid (show Bld.Out w2 g (P2 ++ enAll enNum (a6.take q)) w10 ∧ BlkIs w10 B3 54 #[.int .i64 a0, .int .i64 a1, .string a2, .slice p1 m1 f4, .slice (some ⟨b6, off6, none⟩) m2 f5] from ⟨HQ.out.1.later hb, HQ.out.2.below hb HQ.out.2.lt⟩)
                      clear hb z0 T6
                      go_wp2_with fail
                      refine (HQ2.out.1.write (enNum z) (by rw [enNum_size, ByteArray.size_append]; omega)).mono ?_
                      rintro e w11 ⟨rfl, ho, hkb, -⟩
                      rw [← HSn.out] at ho
                      have HO11 := Lib.hid (And.intro ho (hkb B3 _ _ HQ2.out.2 (Ne.symm HGl.out) (by decide)))
                      clear ho hkb
                      go_wp2_with fail
                      exact ⟨⟨q + 1, by simp, by omega, HO11⟩, by simp [intOf]; omega⟩
                    · have qi : decide (q < m2) = false := decide_eq_false (by omega)
                      obtain rfl : m2 = q := by omega
                      have HE9 := Lib.hid (show Bld.Out w2 g (pre3 M (k + 1)) wr from by
                        have h0 := HQ.out.1
                        have : a6.take m2 = a6 := by rw [HMl.out.2, List.take_length]
                        rw [this, HP2.out, HP1.out, HP0.out, ← HSuc.out] at h0
                        exact h0)
                      go_wp2_with fail
                      exact ⟨⟨k + 1, by simp, by omega, HE9⟩, by simp [intOf]; omega⟩
end Go.Proofs.YtljenganlknhbaaGreat.Mk
