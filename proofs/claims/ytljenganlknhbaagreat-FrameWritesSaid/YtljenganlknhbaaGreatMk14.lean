/- reliquaryref12.Encode, walked: the bytes of marks that can be. (Layer 12.) -/
import Derived.Test.YtljenganlknhbaaGreatMk12
import Derived.Test.YtljenganlknhbaaGreatPkB
namespace Go.Proofs.YtljenganlknhbaaGreat.Mk
set_option linter.unusedVariables false
open Go.RowKit Oct
theorem rnum_any (n : Int) (h : okN n) (w : World) : Calls Tryz.prog 119 #[.int .i64 n] w fun e w' => e = .returned (.string (enNum n)) ∧ Below w.heap.size w w' := by
  obtain ⟨h1, h2⟩ := h
  obtain ⟨k, rfl⟩ := Int.eq_ofNat_of_zero_le h1
  have hn := Oct.ref_num k
  have e : (enNum (k : Int)) = ⟨(le32 k).toArray⟩ := rfl
  rw [← e] at hn
  obtain ⟨T, hT⟩ : ∃ T, T = enNum (k : Int) := ⟨_, rfl⟩
  rw [← hT] at hn ⊢
  have Hn := Lib.hid hn
  have hw : IntKind.u32.wrap (k : Int) = (k : Int) := by rw [IntKind.wrap_u32]; omega
  clear hn e hT h1 h2
  go_enter Tryz.func119, Tryz.ntmps119
  go_wp2_with fail
  refine (Hn.out _).mono ?_
  rintro e w2 ⟨rfl, hb⟩
  have H := Lib.hid hb
  clear hb
  go_wp2_with fail
  go_ret
  exact ⟨rfl, H.out⟩
theorem rtext_any (s : ByteArray) (h : s.size ≤ 140737488355328) (w : World) : Calls Tryz.prog 73 #[.string s] w fun e w' => e = .returned (.string (enText s)) ∧ Below w.heap.size w w' := Oct.ref_text s w h
set_option maxRecDepth 100000 in
theorem rencode_bad (m : MkR) (w : World) (h : m.Reads w) (hf : Fit m.tombs) (hl : m.toks.length ≤ 1000000) (hg : goodB m.mk_ = false) : Calls Tryz.prog 74 #[aMk m] w fun e w' => e = .returned (.tuple #[.string ⟨#[]⟩, .int .i64 1]) ∧ Below w.heap.size w w' := by
  have hb1 : Below w.heap.size w (w.alloc (.cells #[m.rv, m.kv, m.bv] 28)) := (Below.refl _ _).alloc (Nat.le_refl _) _
  have G := rgood_any m (w.alloc (.cells #[m.rv, m.kv, m.bv] 28)) (h.later hb1) hf hl
  rw [hg] at G
  obtain ⟨refs, toks, zs, rv, kv, bv⟩ := m
  have G := Lib.hid (show Calls Tryz.prog 39 #[.agg #[rv, kv, bv]] (w.alloc (.cells #[rv, kv, bv] 28)) fun e w' => e = .returned (.bool false) ∧ Below (w.alloc (.cells #[rv, kv, bv] 28)).heap.size (w.alloc (.cells #[rv, kv, bv] 28)) w' from G)
  have HB := Lib.hid hb1
  show Calls Tryz.prog 74 #[.agg #[rv, kv, bv]] w fun e w' => e = .returned (.tuple #[.string ⟨#[]⟩, .int .i64 1]) ∧ Below w.heap.size w w'
  clear h hf hl hg hb1
  go_enter Tryz.func74, Tryz.ntmps74
  go_wp2_with fail
  refine G.out.mono ?_
  rintro e w2 ⟨rfl, hb⟩
  have H2 := Lib.hid (HB.out.trans (hb.mono HB.out.size))
  clear G hb
  go_wp2_with fail
  go_ret2
  exact ⟨rfl, H2.out⟩
set_option maxRecDepth 100000 in
set_option maxHeartbeats 16000000 in
theorem rencode_good (m : MkR) (w : World) (h : m.Reads w) (hf : Fit m.tombs) (hl : m.toks.length ≤ 1000000) (hg : goodB m.mk_ = true) : Calls Tryz.prog 74 #[aMk m] w fun e w' => e = .returned (.tuple #[.string (enMk m.mk_), .int .i64 0]) ∧ Below w.heap.size w w' := by
  have hb1 : Below w.heap.size w (w.alloc (.cells #[m.rv, m.kv, m.bv] 28)) := (Below.refl _ _).alloc (Nat.le_refl _) _
  have G := rgood_any m (w.alloc (.cells #[m.rv, m.kv, m.bv] 28)) (h.later hb1) hf hl
  rw [hg] at G
  have hok := ok_mk hg
  obtain ⟨refs, toks, zs, rv, kv, bv⟩ := m
  obtain ⟨M, hM⟩ : ∃ M, M = Mks.mk refs toks (zs.map (·.t)) := ⟨_, rfl⟩
  have hok2 : okMk M := by rw [hM]; exact hok
  clear hok
  obtain ⟨h1, h2, h3⟩ := h
  dsimp only at h1 h2 h3
  obtain ⟨o1, f1, rfl, -, -⟩ := h1.form
  obtain ⟨o2, f2, rfl, -, -⟩ := h2.form
  obtain ⟨o3, f3, rfl, -, -⟩ := h3.1.form
  obtain ⟨E, hE⟩ : ∃ E, E = enMk M := ⟨_, rfl⟩
  show Calls Tryz.prog 74 #[.agg #[.slice o1 refs.length f1, .slice o2 toks.length f2, .slice o3 zs.length f3]] w fun e w' => e = .returned (.tuple #[.string (enMk (Mks.mk refs toks (zs.map (·.t)))), .int .i64 0]) ∧ Below w.heap.size w w'
  rw [← hM, ← hE]
  have G : Calls Tryz.prog 39 #[.agg #[.slice o1 refs.length f1, .slice o2 toks.length f2, .slice o3 zs.length f3]] (w.alloc (.cells #[.slice o1 refs.length f1, .slice o2 toks.length f2, .slice o3 zs.length f3] 28)) fun e w' => e = .returned (.bool true) ∧ Below (w.alloc (.cells #[.slice o1 refs.length f1, .slice o2 toks.length f2, .slice o3 zs.length f3] 28)).heap.size (w.alloc (.cells #[.slice o1 refs.length f1, .slice o2 toks.length f2, .slice o3 zs.length f3] 28)) w' := G
  obtain ⟨n1, hn1⟩ : ∃ n, n = refs.length := ⟨_, rfl⟩
  obtain ⟨n2, hn2⟩ : ∃ n, n = toks.length := ⟨_, rfl⟩
  obtain ⟨n3, hn3⟩ : ∃ n, n = zs.length := ⟨_, rfl⟩
  rw [← hn1, ← hn2, ← hn3] at G ⊢
  have hc1 : n1 ≤ 64 := by rw [hn1]; have := hok2.1.1; rw [hM] at this; exact this
  have hc2 : n2 ≤ 256 := by rw [hn2]; have := hok2.2.1.1; rw [hM] at this; exact this
  have hc3 : n3 ≤ 64 := by rw [hn3]; have := hok2.2.2.1; rw [hM] at this; simpa using this
  have HL := Lib.hid (And.intro hn1 (And.intro hn2 hn3))
  have HM := Lib.hid (And.intro hM (And.intro hok2 hE))
  have HR := Lib.hid (show RowAt 3 vRf w (.slice o1 n1 f1) refs ∧ RowAt 3 vTok w (.slice o2 n2 f2) toks ∧ TombsAt w (.slice o3 n3 f3) zs from by rw [hn1, hn2, hn3]; exact ⟨h1, h2, h3⟩)
  have k1 := BlkIs.new w 28 #[.slice o1 n1 f1, .slice o2 n2 f2, .slice o3 n3 f3]
  have HB1 := Lib.hid (show BlkIs (w.alloc (.cells #[.slice o1 n1 f1, .slice o2 n2 f2, .slice o3 n3 f3] 28)) w.heap.size 28 #[.slice o1 n1 f1, .slice o2 n2 f2, .slice o3 n3 f3] ∧ Below w.heap.size w (w.alloc (.cells #[.slice o1 n1 f1, .slice o2 n2 f2, .slice o3 n3 f3] 28)) from ⟨k1, (Below.refl _ _).alloc (Nat.le_refl _) _⟩)
  have G := Lib.hid G
  clear h1 h2 h3 hf hl hg hb1 hok2 hM hE hn1 hn2 hn3 k1
  go_enter Tryz.func74, Tryz.ntmps74
  go_wp2_with fail
  refine G.out.mono ?_
  rintro e w2 ⟨rfl, hb⟩
  have H2 := Lib.hid (show BlkIs w2 w.heap.size 28 #[.slice o1 n1 f1, .slice o2 n2 f2, .slice o3 n3 f3] ∧ Below w.heap.size w w2 from ⟨HB1.out.1.below hb HB1.out.1.lt, HB1.out.2.trans (hb.mono HB1.out.2.size)⟩)
  clear G hb HB1
  have HC := Lib.hid (show RowAt 3 vRf w2 (.slice o1 n1 f1) refs ∧ RowAt 3 vTok w2 (.slice o2 n2 f2) toks ∧ TombsAt w2 (.slice o3 n3 f3) zs from ⟨HR.out.1.later H2.out.2, HR.out.2.1.later H2.out.2, HR.out.2.2.later H2.out.2⟩)
  have T0 := Lib.hid (rnum_any (n1 : Int) ⟨by omega, by omega⟩ w2)
  have d0 : w2.cell? ⟨w.heap.size, 0, none⟩ = some (.slice o1 n1 f1) := (H2.out.1.below (Below.refl _ _) H2.out.1.lt).cell 0
  go_wp2_with fail
  refine T0.out.mono ?_
  rintro e w6 ⟨rfl, hb⟩
  obtain ⟨S0, hS0⟩ : ∃ S0, S0 = enNum (n1 : Int) := ⟨_, rfl⟩
  rw [← hS0]
  have HS1 := Lib.hid (show S0 = pre1 M 0 by
    rw [hS0]
    unfold pre1
    rw [HM.out.1, HL.out.1, List.take_zero]
    exact (app_nil _).symm)
  have HB6 := Lib.hid hb
  clear hb hS0 d0 T0
  go_wp2_with fail
  go_loopw [4, 5] (fun s i wr => ∃ (S : ByteArray) (k : Nat), s = .string S ∧ i = .int .i64 (k : Int) ∧ k ≤ n1 ∧ Hid (S = pre1 M k) ∧ Hid (Below w2.heap.size w2 wr)) (fun _ i _ => n1 - (intOf i).toNat)
  case atStart => exact ⟨S0, 0, rfl, rfl, Nat.zero_le _, HS1, HB6⟩
  case round =>
    obtain ⟨S, k, rfl, rfl, hkl, HS, HB⟩ := hrel
    clear HB6 HS1
    rcases Nat.lt_or_ge k n1 with hlt | hge
    · have ki : (k : Int) < n1 := by omega
      have hkL : k < refs.length := by rw [← HL.out.1]; exact hlt
      have hkM : k < M.refs.length := by rw [HM.out.1]; exact hkL
      obtain ⟨b, off, rfl, hblt, hc⟩ := HC.out.1.at_ (by omega)
      obtain ⟨x, hx⟩ : ∃ x, x = refs[k] := ⟨_, rfl⟩
      have hxM : M.refs[k] = x := by rw [hx]; simp only [HM.out.1]
      have hokx : okRf x := by rw [← hxM]; exact HM.out.2.1.1.2 _ (List.getElem_mem hkM)
      have hsuc := pre1_succ hkM
      rw [hxM] at hsuc
      have hps := pre1_size HM.out.2.1 k
      rw [← HS.out] at hps hsuc
      obtain ⟨a0, a1, a2⟩ := x
      have hsz := enText_size a0
      have T1 := rtext_any a0 (by have := hokx.1; dsimp only at this; omega)
      have T2 := rnum_any a2 hokx.2.2
      have hs1 : a0.size ≤ 255 := hokx.1
      have hs2 : a1.size = 32 := hokx.2.1
      have hen : enRf ⟨a0, a1, a2⟩ = enText a0 ++ a1 ++ enNum a2 := rfl
      obtain ⟨T, hT⟩ : ∃ T, T = enText a0 := ⟨_, rfl⟩
      obtain ⟨N, hN⟩ : ∃ N, N = enNum a2 := ⟨_, rfl⟩
      have hNs : N.size = 4 := by rw [hN]; exact enNum_size _
      rw [← hT] at T1 hsz hen
      rw [← hN] at T2 hen
      have T1 := Lib.hid T1
      have T2 := Lib.hid T2
      have HSuc := Lib.hid (hsuc.trans (by rw [hen] : _ = S ++ (T ++ a1 ++ N)))
      have hcat1 : ¬ (9223372036854775807 < S.size + T.size) := by omega
      have hcat2 : ¬ (9223372036854775807 < S.size + T.size + a1.size) := by omega
      have hcat3 : ¬ (9223372036854775807 < S.size + T.size + a1.size + N.size) := by omega
      have x0 : ∀ X : LaterOf wr, X.w.cell? ⟨b, off + k * 3, none⟩ = some (.string a0) := fun X => by
        have := hc k hkL 0 (.string a0) (by rw [← hx]; rfl)
        rw [X.h.cell (Nat.lt_of_lt_of_le hblt HB.out.size), HB.out.cell hblt]; simpa using this
      have x1 : ∀ X : LaterOf wr, X.w.cell? ⟨b, off + k * 3 + 1, none⟩ = some (.string a1) := fun X => by
        have := hc k hkL 1 (.string a1) (by rw [← hx]; rfl)
        rw [X.h.cell (Nat.lt_of_lt_of_le hblt HB.out.size), HB.out.cell hblt]; simpa using this
      have x2 : ∀ X : LaterOf wr, X.w.cell? ⟨b, off + k * 3 + 2, none⟩ = some (.int .i64 a2) := fun X => by
        have := hc k hkL 2 (.int .i64 a2) (by rw [← hx]; rfl)
        rw [X.h.cell (Nat.lt_of_lt_of_le hblt HB.out.size), HB.out.cell hblt]; simpa using this
      have y0 : ∀ X : LaterOf wr, X.w.cell? ⟨w.heap.size, 0, none⟩ = some (.slice (some ⟨b, off, none⟩) n1 f1) := fun X => (X.blk (H2.out.1.below HB.out H2.out.1.lt)).cell 0
      have d0 : wr.cell? ⟨w.heap.size, 0, none⟩ = some (.slice (some ⟨b, off, none⟩) n1 f1) := (H2.out.1.below HB.out H2.out.1.lt).cell 0
      clear hc hx hxM hokx hsuc hps hsz hs1 hs2 hen hT hN hNs
      go_wp2_with fail
      refine wp_region_all (fun w' => ∃ x : LaterOf wr, w' = x.w) (by kernel_rfl) (by kernel_rfl) ⟨LaterOf.start wr, rfl⟩ ?_
      repeat (go_big_quiet_step (first | with_reducible exact LaterOf.call _ (T1.out _) | with_reducible exact LaterOf.call _ (T2.out _)))
      refine wpQuiet_nil ?_
      intro w4 hw4
      obtain ⟨X, rfl⟩ := hw4
      have HX := Lib.hid (HB.out.trans (X.h.mono HB.out.size))
      obtain ⟨w4, hx4⟩ := X
      clear x0 x1 x2 y0 d0 hcat1 hcat2 hcat3 T1 T2
      go_wp2_with fail
      exact ⟨⟨_, k + 1, rfl, by simp, by omega, Lib.hid (by rw [HSuc.out]; simp only [ByteArray.append_assoc]), HX⟩, by simp [intOf]; omega⟩
    · have ki : decide (k < n1) = false := decide_eq_false (by omega)
      obtain rfl : n1 = k := by omega
      have HE1 := Lib.hid (show S = enMany enRf M.refs from by
        rw [HS.out, HL.out.1]
        have e : refs.length = M.refs.length := by rw [HM.out.1]
        rw [e, pre1_end])
      have hss := pre1_size HM.out.2.1 n1
      rw [← HS.out] at hss
      have T3 := Lib.hid (rnum_any (n2 : Int) ⟨by omega, by omega⟩ wr)
      have d0 : wr.cell? ⟨w.heap.size, 0, none⟩ = some (.slice o1 n1 f1) := (H2.out.1.below HB.out H2.out.1.lt).cell 0
      have d1 : wr.cell? ⟨w.heap.size, 1, none⟩ = some (.slice o2 n2 f2) := (H2.out.1.below HB.out H2.out.1.lt).cell 1
      go_wp2_with fail
      obtain ⟨Wa, hWa⟩ : ∃ Wa, Wa = wr := ⟨_, rfl⟩
      subst hWa
      refine T3.out.mono ?_
      rintro e w6 ⟨rfl, hb⟩
      obtain ⟨N2, hN2⟩ : ∃ N2, N2 = enNum (n2 : Int) := ⟨_, rfl⟩
      have hN2s : N2.size = 4 := by rw [hN2]; exact enNum_size _
      rw [← hN2]
      have HS2 := Lib.hid (show S ++ N2 = pre2 M 0 by
        rw [HE1.out, hN2]
        unfold pre2
        rw [HM.out.1, HL.out.2.1, List.take_zero]
        exact congrArg _ (app_nil _).symm)
      have HB6 := Lib.hid (HB.out.trans (hb.mono HB.out.size))
      have hcat0 : ¬ (9223372036854775807 < S.size + N2.size) := by omega
      clear hb hN2 d0 d1 T3 HS HB
      go_wp2_with fail
      obtain ⟨S1, hS1⟩ : ∃ S1, S1 = S ++ N2 := ⟨_, rfl⟩
      rw [← hS1] at HS2 ⊢
      clear hcat0 hS1
      go_loopw [4, 6] (fun s i wr => ∃ (S : ByteArray) (k : Nat), s = .string S ∧ i = .int .i64 (k : Int) ∧ k ≤ n2 ∧ Hid (S = pre2 M k) ∧ Hid (Below w2.heap.size w2 wr)) (fun _ i _ => n2 - (intOf i).toNat)
      case atStart => exact ⟨S1, 0, rfl, rfl, Nat.zero_le _, HS2, HB6⟩
      case round =>
        obtain ⟨S, k, rfl, rfl, hkl, HS, HB⟩ := hrel
        clear HB6 HS2 HE1 hss
        rcases Nat.lt_or_ge k n2 with hlt | hge
        · have ki : (k : Int) < n2 := by omega
          have hkL : k < toks.length := by rw [← HL.out.2.1]; exact hlt
          have hkM : k < M.toks.length := by rw [HM.out.1]; exact hkL
          obtain ⟨b, off, rfl, hblt, hc⟩ := HC.out.2.1.at_ (by omega)
          obtain ⟨x, hx⟩ : ∃ x, x = toks[k] := ⟨_, rfl⟩
          have hxM : M.toks[k] = x := by rw [hx]; simp only [HM.out.1]
          have hokx : okTok x := by rw [← hxM]; exact HM.out.2.1.2.1.2 _ (List.getElem_mem hkM)
          have hsuc := pre2_succ hkM
          rw [hxM] at hsuc
          have hps := pre2_size HM.out.2.1 k
          rw [← HS.out] at hps hsuc
          obtain ⟨a0, a1, a2⟩ := x
          have T1 := rnum_any a0 hokx.1
          have T2 := rnum_any a1 hokx.2.1
          have hs2 : a2.size = 32 := hokx.2.2
          have hen : enTok ⟨a0, a1, a2⟩ = enNum a0 ++ enNum a1 ++ a2 := rfl
          obtain ⟨T, hT⟩ : ∃ T, T = enNum a0 := ⟨_, rfl⟩
          obtain ⟨N, hN⟩ : ∃ N, N = enNum a1 := ⟨_, rfl⟩
          have hNs : N.size = 4 := by rw [hN]; exact enNum_size _
          have hTs : T.size = 4 := by rw [hT]; exact enNum_size _
          rw [← hT] at T1 hen
          rw [← hN] at T2 hen
          have T1 := Lib.hid T1
          have T2 := Lib.hid T2
          have HSuc := Lib.hid (hsuc.trans (by rw [hen] : _ = S ++ (T ++ N ++ a2)))
          have hcat1 : ¬ (9223372036854775807 < S.size + T.size) := by omega
          have hcat2 : ¬ (9223372036854775807 < S.size + T.size + N.size) := by omega
          have hcat3 : ¬ (9223372036854775807 < S.size + T.size + N.size + a2.size) := by omega
          have x0 : ∀ X : LaterOf wr, X.w.cell? ⟨b, off + k * 3, none⟩ = some (.int .i64 a0) := fun X => by
            have := hc k hkL 0 (.int .i64 a0) (by rw [← hx]; rfl)
            rw [X.h.cell (Nat.lt_of_lt_of_le hblt HB.out.size), HB.out.cell hblt]; simpa using this
          have x1 : ∀ X : LaterOf wr, X.w.cell? ⟨b, off + k * 3 + 1, none⟩ = some (.int .i64 a1) := fun X => by
            have := hc k hkL 1 (.int .i64 a1) (by rw [← hx]; rfl)
            rw [X.h.cell (Nat.lt_of_lt_of_le hblt HB.out.size), HB.out.cell hblt]; simpa using this
          have x2 : ∀ X : LaterOf wr, X.w.cell? ⟨b, off + k * 3 + 2, none⟩ = some (.string a2) := fun X => by
            have := hc k hkL 2 (.string a2) (by rw [← hx]; rfl)
            rw [X.h.cell (Nat.lt_of_lt_of_le hblt HB.out.size), HB.out.cell hblt]; simpa using this
          have y1 : ∀ X : LaterOf wr, X.w.cell? ⟨w.heap.size, 1, none⟩ = some (.slice (some ⟨b, off, none⟩) n2 f2) := fun X => (X.blk (H2.out.1.below HB.out H2.out.1.lt)).cell 1
          have d1 : wr.cell? ⟨w.heap.size, 1, none⟩ = some (.slice (some ⟨b, off, none⟩) n2 f2) := (H2.out.1.below HB.out H2.out.1.lt).cell 1
          clear hc hx hxM hokx hsuc hps hs2 hen hT hN hNs hTs
          go_wp2_with fail
          refine wp_region_all (fun w' => ∃ x : LaterOf wr, w' = x.w) (by kernel_rfl) (by kernel_rfl) ⟨LaterOf.start wr, rfl⟩ ?_
          repeat (go_big_quiet_step (first | with_reducible exact LaterOf.call _ (T1.out _) | with_reducible exact LaterOf.call _ (T2.out _)))
          refine wpQuiet_nil ?_
          intro w4 hw4
          obtain ⟨X, rfl⟩ := hw4
          have HX := Lib.hid (HB.out.trans (X.h.mono HB.out.size))
          obtain ⟨w4, hx4⟩ := X
          clear x0 x1 x2 y1 d1 hcat1 hcat2 hcat3 T1 T2
          go_wp2_with fail
          exact ⟨⟨_, k + 1, rfl, by simp, by omega, Lib.hid (by rw [HSuc.out]; simp only [ByteArray.append_assoc]), HX⟩, by simp [intOf]; omega⟩
        · have ki : decide (k < n2) = false := decide_eq_false (by omega)
          obtain rfl : n2 = k := by omega
          have HE2 := Lib.hid (show S = enMany enRf M.refs ++ enMany enTok M.toks from by
            rw [HS.out, HL.out.2.1]
            have e : toks.length = M.toks.length := by rw [HM.out.1]
            rw [e, pre2_end])
          have hss := pre2_size HM.out.2.1 n2
          rw [← HS.out] at hss
          have T3 := Lib.hid (rnum_any (n3 : Int) ⟨by omega, by omega⟩ wr)
          have d1 : wr.cell? ⟨w.heap.size, 1, none⟩ = some (.slice o2 n2 f2) := (H2.out.1.below HB.out H2.out.1.lt).cell 1
          have d2 : wr.cell? ⟨w.heap.size, 2, none⟩ = some (.slice o3 n3 f3) := (H2.out.1.below HB.out H2.out.1.lt).cell 2
          go_wp2_with fail
          obtain ⟨Wb, hWb⟩ : ∃ Wb, Wb = wr := ⟨_, rfl⟩
          subst hWb
          refine T3.out.mono ?_
          rintro e w6 ⟨rfl, hb⟩
          obtain ⟨N2, hN2⟩ : ∃ N2, N2 = enNum (n3 : Int) := ⟨_, rfl⟩
          have hN2s : N2.size = 4 := by rw [hN2]; exact enNum_size _
          rw [← hN2]
          have HS3 := Lib.hid (show S ++ N2 = pre3 M 0 by
            rw [HE2.out, hN2]
            unfold pre3
            rw [HM.out.1, List.length_map, HL.out.2.2, List.take_zero]
            exact congrArg _ (app_nil _).symm)
          have HB6 := Lib.hid (HB.out.trans (hb.mono HB.out.size))
          have hcat0 : ¬ (9223372036854775807 < S.size + N2.size) := by omega
          clear hb hN2 d1 d2 T3 HS HB
          go_wp2_with fail
          obtain ⟨S2, hS2⟩ : ∃ S2, S2 = S ++ N2 := ⟨_, rfl⟩
          rw [← hS2] at HS3 ⊢
          clear hcat0 hS2
          go_loopw [4, 7] (fun s i wr => ∃ (S : ByteArray) (k : Nat), s = .string S ∧ i = .int .i64 (k : Int) ∧ k ≤ n3 ∧ Hid (S = pre3 M k) ∧ Hid (Below w2.heap.size w2 wr)) (fun _ i _ => n3 - (intOf i).toNat)
          case atStart => exact ⟨S2, 0, rfl, rfl, Nat.zero_le _, HS3, HB6⟩
          case round =>
            obtain ⟨S, k, rfl, rfl, hkl, HS, HB⟩ := hrel
            clear HB6 HS3 HE2 hss
            rcases Nat.lt_or_ge k n3 with hlt | hge
            rotate_left
            · have ki : decide (k < n3) = false := decide_eq_false (by omega)
              obtain rfl : n3 = k := by omega
              have HE3 := Lib.hid (show S = E from by
                rw [HS.out, HL.out.2.2]
                have e : zs.length = M.tombs.length := by rw [HM.out.1]; simp
                rw [e, pre3_end, ← HM.out.2.2])
              have d2 : wr.cell? ⟨w.heap.size, 2, none⟩ = some (.slice o3 n3 f3) := (H2.out.1.below HB.out H2.out.1.lt).cell 2
              go_wp2_with fail
              go_ret2
              exact ⟨by rw [HE3.out]; rfl, H2.out.2.trans (HB.out.mono H2.out.2.size)⟩
            · obtain ⟨Wc, hWc⟩ : ∃ Wc, Wc = wr := ⟨_, rfl⟩
              subst hWc
              have ki : (k : Int) < n3 := by omega
              have hkL : k < zs.length := by rw [← HL.out.2.2]; exact hlt
              have hkM : k < M.tombs.length := by rw [HM.out.1]; simpa using hkL
              obtain ⟨b, off, rfl, hblt, hc⟩ := HC.out.2.2.1.at_ (by omega)
              obtain ⟨x, hx⟩ : ∃ x, x = zs[k] := ⟨_, rfl⟩
              have hxm : x ∈ zs := by rw [hx]; exact List.getElem_mem hkL
              have hxM : M.tombs[k] = x.t := by rw [hx]; simp only [HM.out.1, List.getElem_map]
              have hokx : okTb x.t := by rw [← hxM]; exact HM.out.2.1.2.2.2 _ (List.getElem_mem hkM)
              have hsuc := pre3_succ hkM
              rw [hxM] at hsuc
              have hps := pre3_size HM.out.2.1 k
              rw [← HS.out] at hps hsuc
              have hre := HC.out.2.2.2 x hxm
              obtain ⟨p1, f4, hv1, -, -⟩ := hre.1.form
              obtain ⟨p2, f5, hv2, -, -⟩ := hre.2.form
              obtain ⟨m1, hm1⟩ : ∃ m, m = x.t.cov.length := ⟨_, rfl⟩
              obtain ⟨m2, hm2⟩ : ∃ m, m = x.t.acks.length := ⟨_, rfl⟩
              rw [← hm1] at hv1
              rw [← hm2] at hv2
              obtain ⟨⟨a0, a1, a2, a5, a6⟩, a3, a4⟩ := x
              dsimp only at hv1 hv2 hsuc hokx hxM hre hm1 hm2
              subst hv1 hv2
              have hre1 : RowAt 3 vTok w2 (.slice p1 m1 f4) a5 := hre.1
              have hre2 : RowAt 1 vInt w2 (.slice p2 m2 f5) a6 := hre.2
              have HRe := Lib.hid (And.intro hre1 hre2)
              have hmm1 : m1 ≤ 256 := by rw [hm1]; exact hokx.2.1.1
              have hmm2 : m2 ≤ 7 := by rw [hm2]; exact hokx.2.2.1
              have HOk := Lib.hid (And.intro hokx.2.1.2 hokx.2.2.2)
              have HMl := Lib.hid (And.intro hm1 hm2)
              have T1 := rnum_any a0 hokx.1.1
              have T2 := rnum_any a1 hokx.1.2.1
              have T3 := rnum_any (m1 : Int) ⟨by omega, by omega⟩
              have hs2 : a2.size = 32 := hokx.1.2.2
              obtain ⟨T, hT⟩ : ∃ T, T = enNum a0 := ⟨_, rfl⟩
              obtain ⟨N, hN⟩ : ∃ N, N = enNum a1 := ⟨_, rfl⟩
              obtain ⟨C, hC⟩ : ∃ C, C = enNum (m1 : Int) := ⟨_, rfl⟩
              have hTs : T.size = 4 := by rw [hT]; exact enNum_size _
              have hNs : N.size = 4 := by rw [hN]; exact enNum_size _
              have hCs : C.size = 4 := by rw [hC]; exact enNum_size _
              rw [← hT] at T1
              rw [← hN] at T2
              rw [← hC] at T3
              have T1 := Lib.hid T1
              have T2 := Lib.hid T2
              have T3 := Lib.hid T3
              have HSuc := Lib.hid (show pre3 M (k + 1) = S ++ (T ++ N ++ a2 ++ C) ++ enAll enCov a5 ++ enNum (m2 : Int) ++ enAll enNum a6 by
                rw [hsuc, hT, hN, hC, hm1, hm2]
                unfold enTb enMany
                simp only [ByteArray.append_assoc])
              have hcat1 : ¬ (9223372036854775807 < S.size + T.size) := by omega
              have hcat2 : ¬ (9223372036854775807 < S.size + T.size + N.size) := by omega
              have hcat3 : ¬ (9223372036854775807 < S.size + T.size + N.size + a2.size) := by omega
              have hcat4 : ¬ (9223372036854775807 < S.size + T.size + N.size + a2.size + C.size) := by omega
              obtain ⟨P0, hP0⟩ : ∃ P0, P0 = S ++ T ++ N ++ a2 ++ C := ⟨_, rfl⟩
              have hP0s : P0.size ≤ 170044 := by rw [hP0]; simp only [ByteArray.size_append]; omega
              have HP0 := Lib.hid hP0
              have x0 : Wc.cell? ⟨b, off + k * 5, none⟩ = some (.int .i64 a0) := by
                have := hc k hkL 0 (.int .i64 a0) (by rw [← hx]; rfl)
                rw [HB.out.cell hblt]; simpa using this
              have x1 : Wc.cell? ⟨b, off + k * 5 + 1, none⟩ = some (.int .i64 a1) := by
                have := hc k hkL 1 (.int .i64 a1) (by rw [← hx]; rfl)
                rw [HB.out.cell hblt]; simpa using this
              have x2 : Wc.cell? ⟨b, off + k * 5 + 2, none⟩ = some (.string a2) := by
                have := hc k hkL 2 (.string a2) (by rw [← hx]; rfl)
                rw [HB.out.cell hblt]; simpa using this
              have x3 : Wc.cell? ⟨b, off + k * 5 + 3, none⟩ = some (.slice p1 m1 f4) := by
                have := hc k hkL 3 (.slice p1 m1 f4) (by rw [← hx]; rfl)
                rw [HB.out.cell hblt]; simpa using this
              have x4 : Wc.cell? ⟨b, off + k * 5 + 4, none⟩ = some (.slice p2 m2 f5) := by
                have := hc k hkL 4 (.slice p2 m2 f5) (by rw [← hx]; rfl)
                rw [HB.out.cell hblt]; simpa using this
              have d2 : Wc.cell? ⟨w.heap.size, 2, none⟩ = some (.slice (some ⟨b, off, none⟩) n3 f3) := (H2.out.1.below HB.out H2.out.1.lt).cell 2
              obtain ⟨W3, hW3⟩ : ∃ W3, W3 = Wc.alloc (.cells #[.int .i64 a0, .int .i64 a1, .string a2, .slice p1 m1 f4, .slice p2 m2 f5] 54) := ⟨_, rfl⟩
              have hb3 : Below Wc.heap.size Wc W3 := by rw [hW3]; exact (Below.refl _ _).alloc (Nat.le_refl _) _
              have k3 : BlkIs W3 Wc.heap.size 54 #[.int .i64 a0, .int .i64 a1, .string a2, .slice p1 m1 f4, .slice p2 m2 f5] := by rw [hW3]; exact BlkIs.new _ _ _
              have HO3 := Lib.hid (HB.out.trans (hb3.mono HB.out.size))
              obtain ⟨B3, hB3⟩ : ∃ B3, B3 = Wc.heap.size := ⟨_, rfl⟩
              rw [← hB3] at k3
              have HB3 := Lib.hid hB3
              have u0 : ∀ X : LaterOf W3, X.w.cell? ⟨B3, 0, none⟩ = some (.int .i64 a0) := fun X => (X.blk k3).cell 0
              have u1 : ∀ X : LaterOf W3, X.w.cell? ⟨B3, 1, none⟩ = some (.int .i64 a1) := fun X => (X.blk k3).cell 1
              have u2 : ∀ X : LaterOf W3, X.w.cell? ⟨B3, 2, none⟩ = some (.string a2) := fun X => (X.blk k3).cell 2
              have u3 : ∀ X : LaterOf W3, X.w.cell? ⟨B3, 3, none⟩ = some (.slice p1 m1 f4) := fun X => (X.blk k3).cell 3
              have HK3 := Lib.hid k3
              have HW3 := Lib.hid hW3
              clear hc hx hxm hxM hokx hsuc hps hre hre1 hre2 hm1 hm2 hs2 hT hN hC hTs hNs hCs hb3 k3 hP0 hB3
              go_wp2_with fail
              rw [← HW3.out, ← HB3.out]
              clear hW3
              refine wp_region_all (fun w' => ∃ x : LaterOf W3, w' = x.w) (by kernel_rfl) (by kernel_rfl) ⟨LaterOf.start W3, rfl⟩ ?_
              repeat (go_big_quiet_step (first | with_reducible exact LaterOf.call _ (T1.out _) | with_reducible exact LaterOf.call _ (T2.out _) | with_reducible exact LaterOf.call _ (T3.out _)))
              refine wpQuiet_nil ?_
              intro w4 hw4
              obtain ⟨X, rfl⟩ := hw4
              have HO5 := Lib.hid (show P0 = P0 ++ enAll enCov (a5.take 0) by rw [List.take_zero]; exact (app_nil _).symm)
              have HX5 := Lib.hid (And.intro (HO3.out.trans (X.h.mono HO3.out.size)) (X.blk HK3.out))
              obtain ⟨w5, hx4⟩ := X
              clear u0 u1 u2 u3 x0 x1 x2 x3 x4 d2 hcat1 hcat2 hcat3 hcat4 T1 T2 T3
              go_wp2_with fail
              rw [← HP0.out]
              go_loopw [4, 9] (fun s i wr => ∃ (P : ByteArray) (j : Nat), s = .string P ∧ i = .int .i64 (j : Int) ∧ j ≤ m1 ∧ Hid (P = P0 ++ enAll enCov (a5.take j)) ∧ Hid (Below w2.heap.size w2 wr ∧ BlkIs wr B3 54 #[.int .i64 a0, .int .i64 a1, .string a2, .slice p1 m1 f4, .slice p2 m2 f5])) (fun _ i _ => m1 - (intOf i).toNat)
              case atStart => exact ⟨P0, 0, rfl, rfl, Nat.zero_le _, HO5, HX5⟩
              case round =>
                obtain ⟨P, j, rfl, rfl, hjl, HP, HJ⟩ := hrel
                clear HO5 HX5
                have hcs := enAll_size (en := enCov) (c := 8) (a5.take j) fun x _ => enCov_size x
                have hcl : (a5.take j).length ≤ a5.length := List.length_take_le' _ _
                rw [← HMl.out.1] at hcl
                have hPs : P.size ≤ 172100 := by rw [HP.out, ByteArray.size_append]; omega
                have HBj := Lib.hid HJ.out.1
                clear hcs hcl
                rcases Nat.lt_or_ge j m1 with hlt2 | hge2
                · have ji : (j : Int) < m1 := by omega
                  have hjL : j < a5.length := by rw [← HMl.out.1]; exact hlt2
                  obtain ⟨b5, off5, rfl, hblt5, hc5⟩ := HRe.out.1.at_ (by omega)
                  obtain ⟨y, hy⟩ : ∃ y, y = a5[j] := ⟨_, rfl⟩
                  have hyo := HOk.out.1 y (by rw [hy]; exact List.getElem_mem hjL)
                  have hsn : enAll enCov (a5.take (j + 1)) = enAll enCov (a5.take j) ++ enCov y := by rw [take_snoc' hjL, enAll_snoc, hy]
                  obtain ⟨b0, b1, b2⟩ := y
                  have T1 := rnum_any b0 hyo.1
                  have T2 := rnum_any b1 hyo.2.1
                  obtain ⟨T, hT⟩ : ∃ T, T = enNum b0 := ⟨_, rfl⟩
                  obtain ⟨N, hN⟩ : ∃ N, N = enNum b1 := ⟨_, rfl⟩
                  have hTs : T.size = 4 := by rw [hT]; exact enNum_size _
                  have hNs : N.size = 4 := by rw [hN]; exact enNum_size _
                  rw [← hT] at T1
                  rw [← hN] at T2
                  have T1 := Lib.hid T1
                  have T2 := Lib.hid T2
                  have HSn := Lib.hid (show P0 ++ enAll enCov (a5.take (j + 1)) = P ++ T ++ N by rw [hsn, HP.out, hT, hN]; simp only [ByteArray.append_assoc]; rfl)
                  have hcat1 : ¬ (9223372036854775807 < P.size + T.size) := by omega
                  have hcat2 : ¬ (9223372036854775807 < P.size + T.size + N.size) := by omega
                  have y0 : ∀ X : LaterOf wr, X.w.cell? ⟨b5, off5 + j * 3, none⟩ = some (.int .i64 b0) := fun X => by
                    have := hc5 j hjL 0 (.int .i64 b0) (by rw [← hy]; rfl)
                    rw [X.h.cell (Nat.lt_of_lt_of_le hblt5 HBj.out.size), HBj.out.cell hblt5]; simpa using this
                  have y1 : ∀ X : LaterOf wr, X.w.cell? ⟨b5, off5 + j * 3 + 1, none⟩ = some (.int .i64 b1) := fun X => by
                    have := hc5 j hjL 1 (.int .i64 b1) (by rw [← hy]; rfl)
                    rw [X.h.cell (Nat.lt_of_lt_of_le hblt5 HBj.out.size), HBj.out.cell hblt5]; simpa using this
                  have v3 : ∀ X : LaterOf wr, X.w.cell? ⟨B3, 3, none⟩ = some (.slice (some ⟨b5, off5, none⟩) m1 f4) := fun X => (X.blk HJ.out.2).cell 3
                  have d3 : wr.cell? ⟨B3, 3, none⟩ = some (.slice (some ⟨b5, off5, none⟩) m1 f4) := HJ.out.2.cell 3
                  clear hc5 hy hyo hsn hT hN hTs hNs
                  go_wp2_with fail
                  refine wp_region_all (fun w' => ∃ x : LaterOf wr, w' = x.w) (by kernel_rfl) (by kernel_rfl) ⟨LaterOf.start wr, rfl⟩ ?_
                  repeat (go_big_quiet_step (first | with_reducible exact LaterOf.call _ (T1.out _) | with_reducible exact LaterOf.call _ (T2.out _)))
                  refine wpQuiet_nil ?_
                  intro w4 hw4
                  obtain ⟨X, rfl⟩ := hw4
                  have HX := Lib.hid (show Below w2.heap.size w2 X.w ∧ BlkIs X.w B3 54 #[.int .i64 a0, .int .i64 a1, .string a2, .slice (some ⟨b5, off5, none⟩) m1 f4, .slice p2 m2 f5] from ⟨HJ.out.1.trans (X.h.mono HJ.out.1.size), X.blk HJ.out.2⟩)
                  obtain ⟨w7, hx7⟩ := X
                  clear v3 d3 y0 y1 hcat1 hcat2 T1 T2
                  go_wp2_with fail
                  exact ⟨⟨_, j + 1, rfl, by simp, by omega, Lib.hid HSn.out.symm, HX⟩, by simp [intOf]; omega⟩
                · have ji : decide (j < m1) = false := decide_eq_false (by omega)
                  obtain rfl : m1 = j := by omega
                  have HP1 := Lib.hid (show P = P0 ++ enAll enCov a5 by rw [HP.out, HMl.out.1, List.take_length])
                  have d3 : wr.cell? ⟨B3, 3, none⟩ = some (.slice p1 m1 f4) := HJ.out.2.cell 3
                  have d4 : wr.cell? ⟨B3, 4, none⟩ = some (.slice p2 m2 f5) := HJ.out.2.cell 4
                  have T5 := Lib.hid (rnum_any (m2 : Int) ⟨by omega, by omega⟩ wr)
                  obtain ⟨Wd, hWd⟩ : ∃ Wd, Wd = wr := ⟨_, rfl⟩
                  subst hWd
                  go_wp2_with fail
                  refine T5.out.mono ?_
                  rintro e w8 ⟨rfl, hb⟩
                  have HE5 := Lib.hid (show Below w2.heap.size w2 w8 ∧ BlkIs w8 B3 54 #[.int .i64 a0, .int .i64 a1, .string a2, .slice p1 m1 f4, .slice p2 m2 f5] from ⟨HJ.out.1.trans (hb.mono HJ.out.1.size), HJ.out.2.below hb HJ.out.2.lt⟩)
                  obtain ⟨N2, hN2⟩ : ∃ N2, N2 = enNum (m2 : Int) := ⟨_, rfl⟩
                  have hN2s : N2.size = 4 := by rw [hN2]; exact enNum_size _
                  have HN2 := Lib.hid hN2
                  rw [← hN2]
                  have hcat0 : ¬ (9223372036854775807 < P.size + N2.size) := by omega
                  clear hb d3 d4 T5 HJ HBj HP hN2
                  go_wp2_with fail
                  obtain ⟨P2, hP2⟩ : ∃ P2, P2 = P ++ N2 := ⟨_, rfl⟩
                  have hP2s : P2.size ≤ 172104 := by rw [hP2, ByteArray.size_append]; omega
                  rw [← hP2]
                  have HP2 := Lib.hid hP2
                  have HO9 := Lib.hid (show P2 = P2 ++ enAll enNum (a6.take 0) by rw [List.take_zero]; exact (app_nil _).symm)
                  clear hcat0 hP2
                  go_loopw [4, 10] (fun s i wr => ∃ (Q : ByteArray) (j : Nat), s = .string Q ∧ i = .int .i64 (j : Int) ∧ j ≤ m2 ∧ Hid (Q = P2 ++ enAll enNum (a6.take j)) ∧ Hid (Below w2.heap.size w2 wr ∧ BlkIs wr B3 54 #[.int .i64 a0, .int .i64 a1, .string a2, .slice p1 m1 f4, .slice p2 m2 f5])) (fun _ i _ => m2 - (intOf i).toNat)
                  case atStart => exact ⟨P2, 0, rfl, rfl, Nat.zero_le _, HO9, HE5⟩
                  case round =>
                    obtain ⟨Q, q, rfl, rfl, hql, HQe, HQ⟩ := hrel
                    clear HO9 HE5
                    have hcs := enAll_size (en := enNum) (c := 4) (a6.take q) fun x _ => Nat.le_of_eq (enNum_size x)
                    have hcl : (a6.take q).length ≤ a6.length := List.length_take_le' _ _
                    rw [← HMl.out.2] at hcl
                    have hQs : Q.size ≤ 172140 := by rw [HQe.out, ByteArray.size_append]; omega
                    clear hcs hcl
                    rcases Nat.lt_or_ge q m2 with hlt3 | hge3
                    · have qi : (q : Int) < m2 := by omega
                      have hqL : q < a6.length := by rw [← HMl.out.2]; exact hlt3
                      obtain ⟨b6, off6, rfl, hblt6, hc6⟩ := HRe.out.2.at_ (by omega)
                      obtain ⟨z, hz⟩ : ∃ z, z = a6[q] := ⟨_, rfl⟩
                      have hzo := HOk.out.2 z (by rw [hz]; exact List.getElem_mem hqL)
                      obtain ⟨N, hN⟩ : ∃ N, N = enNum z := ⟨_, rfl⟩
                      have hNs : N.size = 4 := by rw [hN]; exact enNum_size _
                      have HSn := Lib.hid (show P2 ++ enAll enNum (a6.take (q + 1)) = Q ++ N by rw [take_snoc' hqL, enAll_snoc, ← ByteArray.append_assoc, ← HQe.out, hN, hz])
                      have T6 := rnum_any z hzo wr
                      rw [← hN] at T6
                      have T6 := Lib.hid T6
                      have hcat0 : ¬ (9223372036854775807 < Q.size + N.size) := by omega
                      have z0 : wr.cell? ⟨b6, off6 + q, none⟩ = some (.int .i64 z) := by
                        have := hc6 q hqL 0 (.int .i64 z) (by rw [← hz]; rfl)
                        rw [HQ.out.1.cell hblt6]; simpa using this
                      have d4 : wr.cell? ⟨B3, 4, none⟩ = some (.slice (some ⟨b6, off6, none⟩) m2 f5) := HQ.out.2.cell 4
                      clear hc6 hz hzo hN hNs
                      go_wp2_with fail
                      refine T6.out.mono ?_
                      rintro e w10 ⟨rfl, hb⟩
                      have HX := Lib.hid (show Below w2.heap.size w2 w10 ∧ BlkIs w10 B3 54 #[.int .i64 a0, .int .i64 a1, .string a2, .slice p1 m1 f4, .slice (some ⟨b6, off6, none⟩) m2 f5] from ⟨HQ.out.1.trans (hb.mono HQ.out.1.size), HQ.out.2.below hb HQ.out.2.lt⟩)
                      clear hb z0 d4 T6
                      go_wp2_with fail
                      exact ⟨⟨_, q + 1, rfl, by simp, by omega, Lib.hid HSn.out.symm, HX⟩, by simp [intOf]; omega⟩
                    · have qi : decide (q < m2) = false := decide_eq_false (by omega)
                      obtain rfl : m2 = q := by omega
                      have d4 : wr.cell? ⟨B3, 4, none⟩ = some (.slice p2 m2 f5) := HQ.out.2.cell 4
                      have HE9 := Lib.hid (show Q = pre3 M (k + 1) from by
                        rw [HQe.out, HMl.out.2, List.take_length, HP2.out, HP1.out, HP0.out, HN2.out, HSuc.out]
                        simp only [ByteArray.append_assoc])
                      have HX := Lib.hid HQ.out.1
                      go_wp2_with fail
                      exact ⟨⟨_, k + 1, rfl, by simp, by omega, HE9, HX⟩, by simp [intOf]; omega⟩
end Go.Proofs.YtljenganlknhbaaGreat.Mk
