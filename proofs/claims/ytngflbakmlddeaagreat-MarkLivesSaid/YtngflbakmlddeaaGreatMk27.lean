/- awake, walked. (Layer 12.) -/
import Derived.Test.YtngflbakmlddeaaGreatMk13
import Derived.Test.YtngflbakmlddeaaGreatMk19
import Derived.Test.YtngflbakmlddeaaGreatMk24
import Derived.Test.YtngflbakmlddeaaGreatMk25
import Derived.Test.YtngflbakmlddeaaGreatMk26
import Derived.Laws.BytesString
import Derived.Laws.MakeOwn
namespace Go.Proofs.YtngflbakmlddeaaGreat.Mk
set_option linter.unusedVariables false
open Go.RowKit Go.Lib
open Set (IsOf)
theorem blk_newAt {w : World} {g : Nat} (h : w.heap.size = g) (t : TypeId) (cs : Array Value) : BlkIs (w.alloc (.cells cs t)) g t cs := by subst h; exact BlkIs.new _ _ _
def zeros (n : Nat) : List UInt8 := List.replicate n 0
theorem mk_zeros (n : Nat) (hn : n = 12 ∨ n = 32) (w : World) : (Instr.makeSlice 55 (.int .i64 (n : Int)) (.int .i64 (n : Int))).run Tryz.prog w = .ok (.slice (some ⟨w.heap.size, 0, none⟩) n n) (w.alloc (.cells (bcells (zeros n)).toArray 5)) := by
  obtain ⟨i, hi, hz, hs, hb⟩ := info_parts (P := Tryz.prog) (e := 5) (z := .int .u8 0) (size := 1) (bytes := 1) (by kernel_rfl)
  have hr := run_makeSlice (P := Tryz.prog) (w := w) 55 5 i (.int .u8 0) Tryz.underlying55 hi hz .i64 .i64 (n : Int) (n : Int) (by omega) (Int.le_refl _) (by rw [hs]; rcases hn with rfl | rfl <;> decide) (by rw [hb]; rcases hn with rfl | rfl <;> decide) (by rcases hn with rfl | rfl <;> decide)
  rw [hr, hs]
  have hm : madeCells (Value.int .u8 0).cells ((n : Int).toNat * 1) = (bcells (zeros n)).toArray := by
    apply Array.ext
    · simp [madeCells, bcells, zeros]
    · intro j h1 h2
      simp [madeCells, bcells, zeros, Value.cells, Nat.mod_one]
  rw [hm, Int.toNat_natCast]
theorem conv_zeros (n : Nat) (hn : n = 12 ∨ n = 32) (w w' : World) (hb : Below (w.heap.size + 1) (w.alloc (.cells (bcells (zeros n)).toArray 5)) w') : (convert 55 9 (.slice (some ⟨w.heap.size, 0, none⟩) n n)).run Tryz.prog w' = .ok (.string ⟨(zeros n).toArray⟩) w' := by
  have hk : BlkIs w' w.heap.size 5 (bcells (zeros n)).toArray := BlkIs.below (BlkIs.new _ _ _) hb (Nat.lt_succ_self _)
  have hs : SlIs w' 0 5 1 (.slice (some ⟨w.heap.size, 0, none⟩) n n) n (bcells (zeros n)) := by
    have := SlIs.made (base := 0) (n := n) (size := 1) hk (Nat.zero_le _) (by simp [bcells, zeros]) (by rcases hn with rfl | rfl <;> decide)
    simpa using this
  exact SlIs.text Tryz.underlying55 Tryz.underlying5 Tryz.underlying9 hs
/-- The marks that awake asks of, as they lie from block b on. -/
def awM (b : Nat) (id : ByteArray) : MkR := ⟨[], [⟨1, 5, id⟩], [⟨⟨2, 1, id, [⟨1, 5, id⟩], [1, 2]⟩, .slice (some ⟨b + 1 + 1 + 1, 0, none⟩) 1 1, .slice (some ⟨b + 1 + 1 + 1 + 1, 0, none⟩) 2 2⟩], .slice none 0 0, .slice (some ⟨b + 1 + 1, 0, none⟩) 1 1, .slice (some ⟨b + 1 + 1 + 1 + 1 + 1, 0, none⟩) 1 1⟩
theorem awM_reads {b : Nat} {id : ByteArray} {W : World} (kT : BlkIs W (b + 1 + 1) 43 #[.int .i64 1, .int .i64 5, .string id]) (kC : BlkIs W (b + 1 + 1 + 1) 43 #[.int .i64 1, .int .i64 5, .string id]) (kA : BlkIs W (b + 1 + 1 + 1 + 1) 3 #[.int .i64 1, .int .i64 2])
    (kB : BlkIs W (b + 1 + 1 + 1 + 1 + 1) 40 #[.int .i64 2, .int .i64 1, .string id, .slice (some ⟨b + 1 + 1 + 1, 0, none⟩) 1 1, .slice (some ⟨b + 1 + 1 + 1 + 1, 0, none⟩) 2 2]) : (awM b id).Reads W := by
  refine ⟨RowAt.nil_ vRf (fun _ => rfl) W, ?_, ?_, fun z hz => ?_⟩
  · exact RowAt.of_sl (base := 0) (e := 43) (fun _ => rfl) (SlIs.made kT (Nat.zero_le _) rfl (by decide))
  · exact RowAt.of_sl (base := 0) (e := 40) (fun _ => rfl) (SlIs.made kB (Nat.zero_le _) rfl (by decide))
  · rcases List.mem_singleton.1 hz with rfl
    exact ⟨RowAt.of_sl (base := 0) (e := 43) (fun _ => rfl) (SlIs.made kC (Nat.zero_le _) rfl (by decide)), RowAt.of_sl (base := 0) (e := 3) (fun _ => rfl) (SlIs.made kA (Nat.zero_le _) rfl (by decide))⟩
theorem awM_small (b : Nat) (id : ByteArray) : (awM b id).Small := ⟨by simp [awM], by simp [awM], by simp [awM], fun z hz => by rcases List.mem_singleton.1 hz with rfl; exact ⟨by simp, by simp⟩⟩
theorem awM_good (b : Nat) (id : ByteArray) (h : id.size = 32) : goodB (awM b id).mk_ = true := by
  simp [goodB, refsB, tombsB, tokensB, awM, MkR.mk_, riseB, tombB, thingB, thingOf, sameId, isNodeB, ltB, h]
theorem awM_next (b : Nat) (id : ByteArray) : nextL (awM b id).mk_ 1 = 6 := by
  have hu : usedM (awM b id).mk_ 1 = [5] := by simp [usedM, usedT, usedB, awM, MkR.mk_]
  unfold nextL
  rw [hu, if_neg (by decide)]
  have h5 : Lib.maxOf [5] = 5 := by rfl
  rw [h5]
  unfold wrap64
  omega
theorem awM_live3 (b : Nat) (id : ByteArray) : liveL (awM b id).mk_ 3 = [] := by
  simp [liveL, awM, MkR.mk_, covB, sureB, eqB_self]
theorem awM_live4 (b : Nat) (id : ByteArray) : rootIds (awM b id).mk_ 4 = [id] := by
  simp [rootIds, liveL, awM, MkR.mk_, covB, sureB]
theorem isOf_one {id : ByteArray} {l : List ByteArray} (h : IsOf [id] l) : l.length = 1 := by
  obtain ⟨h1, h2⟩ := h
  cases l with
  | nil => exact absurd ((h2 id).2 (by simp)) (by simp)
  | cons x l =>
    cases l with
    | nil => rfl
    | cons y l =>
      have hx : x = id := by simpa using (h2 x).1 (by simp)
      have hy : y = id := by simpa using (h2 y).1 (by simp)
      have := (List.pairwise_cons.1 h1).1 y (by simp)
      rw [hx, hy] at this
      exact absurd this (Set.El.irr id)
set_option maxRecDepth 100000 in
set_option maxHeartbeats 4000000 in
theorem awake_any (w : World) : Calls Tryz.prog 10 #[] w fun e w' => e = .returned (.bool true) ∧ Below w.heap.size w w' := by
  obtain ⟨E, hE⟩ : ∃ E, E = enMk MkR.none_.mk_ := ⟨_, rfl⟩
  obtain ⟨Y, hY⟩ : ∃ Y : ByteArray, Y = ⟨(zeros 12).toArray⟩ := ⟨_, rfl⟩
  have hEY : E = Y := by rw [hE, hY]; rfl
  have E0 := encode_good MkR.none_ w (MkR.none_reads w) MkR.none_small.2.2.2 (by rfl)
  rw [← hE] at E0
  have E0 := Lib.hid E0
  have q12 : (E.toList == Y.toList) = true := by rw [hEY]; simp
  have HYY := Lib.hid hY
  clear hE hY hEY
  go_enter Tryz.func10, Tryz.ntmps10
  go_wp2_with fail
  refine E0.out.mono ?_
  rintro e w2 ⟨rfl, hb2⟩
  have HB2 := Lib.hid hb2
  clear E0 hb2
  obtain ⟨Z, hZ⟩ : ∃ Z : Array Value, Z = (bcells (zeros 32)).toArray := ⟨_, rfl⟩
  obtain ⟨id, hid⟩ : ∃ id : ByteArray, id = ⟨(zeros 32).toArray⟩ := ⟨_, rfl⟩
  have M1 : (Instr.makeSlice 55 (.int .i64 32) (.int .i64 32)).run Tryz.prog w2 = .ok (.slice (some ⟨w2.heap.size, 0, none⟩) 32 32) (w2.alloc (.cells Z 5)) := by rw [hZ]; exact mk_zeros 32 (.inr rfl) w2
  have C1 : (convert 55 9 (.slice (some ⟨w2.heap.size, 0, none⟩) 32 32)).run Tryz.prog (w2.alloc (.cells Z 5)) = .ok (.string id) (w2.alloc (.cells Z 5)) := by rw [hZ, hid]; exact conv_zeros 32 (.inr rfl) w2 _ (Below.refl _ _)
  have HZ := Lib.hid (And.intro hZ hid)
  clear hZ hid
  obtain ⟨b, hb⟩ : ∃ b, b = w2.heap.size := ⟨_, rfl⟩
  obtain ⟨W3, hW3⟩ : ∃ W3, W3 = ((((((w2.alloc (.cells Z 5)).alloc (.cells #[.int .i64 1, .int .i64 5, .string id] 43)).alloc (.cells #[.int .i64 1, .int .i64 5, .string id] 43)).alloc (.cells #[.int .i64 1, .int .i64 5, .string id] 43)).alloc (.cells #[.int .i64 1, .int .i64 2] 3)).alloc (.cells #[.int .i64 2, .int .i64 1, .string id, .slice (some ⟨b + 1 + 1 + 1, 0, none⟩) 1 1, .slice (some ⟨b + 1 + 1 + 1 + 1, 0, none⟩) 2 2] 40)).alloc (.cells #[.slice none 0 0, .slice (some ⟨b + 1 + 1, 0, none⟩) 1 1, .slice (some ⟨b + 1 + 1 + 1 + 1 + 1, 0, none⟩) 1 1] 26) := ⟨_, rfl⟩
  have hbW : Below w2.heap.size w2 W3 := by
    rw [hW3]
    exact ((((((((Below.refl _ _).alloc (Nat.le_refl _) _).alloc (by simp) _).alloc (by simp; omega) _).alloc (by simp; omega) _).alloc (by simp; omega) _).alloc (by simp; omega) _).alloc (by simp; omega) _)
  have kT : BlkIs W3 (b + 1 + 1) 43 #[.int .i64 1, .int .i64 5, .string id] := by
    rw [hW3, hb]
    refine BlkIs.alloc (BlkIs.alloc (BlkIs.alloc (BlkIs.alloc ?_ _) _) _) _
    exact blk_newAt (by simp) _ _
  have kC : BlkIs W3 (b + 1 + 1 + 1) 43 #[.int .i64 1, .int .i64 5, .string id] := by
    rw [hW3, hb]
    refine BlkIs.alloc (BlkIs.alloc (BlkIs.alloc ?_ _) _) _
    exact blk_newAt (by simp) _ _
  have kA : BlkIs W3 (b + 1 + 1 + 1 + 1) 3 #[.int .i64 1, .int .i64 2] := by
    rw [hW3, hb]
    refine BlkIs.alloc (BlkIs.alloc ?_ _) _
    exact blk_newAt (by simp) _ _
  have kB : BlkIs W3 (b + 1 + 1 + 1 + 1 + 1) 40 #[.int .i64 2, .int .i64 1, .string id, .slice (some ⟨b + 1 + 1 + 1, 0, none⟩) 1 1, .slice (some ⟨b + 1 + 1 + 1 + 1, 0, none⟩) 2 2] := by
    rw [hW3, hb]
    refine BlkIs.alloc ?_ _
    exact blk_newAt (by simp) _ _
  have kM : BlkIs W3 (b + 1 + 1 + 1 + 1 + 1 + 1) 26 #[.slice none 0 0, .slice (some ⟨b + 1 + 1, 0, none⟩) 1 1, .slice (some ⟨b + 1 + 1 + 1 + 1 + 1, 0, none⟩) 1 1] := by
    rw [hW3, hb]
    exact blk_newAt (by simp) _ _
  have HBW := Lib.hid hbW
  have HB := Lib.hid hb
  have HW3 := Lib.hid hW3
  have HK := Lib.hid (And.intro kT (And.intro kC (And.intro kA (And.intro kB kM))))
  clear hb hbW hW3 kT kC kA kB kM
  go_wp2_with fail
  rw [← HB.out, ← HW3.out]
  have HR := Lib.hid (awM_reads HK.out.1 HK.out.2.1 HK.out.2.2.1 HK.out.2.2.2.1)
  have hid32 : id.size = 32 := by rw [HZ.out.2]; rfl
  have HID := Lib.hid hid32
  clear hid32
  have EN := encode_good (awM b id) W3 HR.out (awM_small b id).2.2.2 (awM_good b id HID.out)
  change Calls Tryz.prog 12 #[.agg #[.slice none 0 0, .slice (some ⟨b + 1 + 1, 0, none⟩) 1 1, .slice (some ⟨b + 1 + 1 + 1 + 1 + 1, 0, none⟩) 1 1]] W3 _ at EN
  obtain ⟨S, hS⟩ : ∃ S, S = enMk (awM b id).mk_ := ⟨_, rfl⟩
  rw [← hS] at EN
  have HS := Lib.hid hS
  clear hS
  refine EN.mono ?_
  rintro e w4 ⟨rfl, hb4⟩
  have HB4 := Lib.hid hb4
  clear EN hb4
  have DE := decode_any S w4
  have hdec : dec S = some (awM b id).mk_ := by rw [HS.out]; exact dec_enc (awM_good b id HID.out)
  have HDC := Lib.hid hdec
  clear hdec
  go_wp2_with fail
  refine DE.mono ?_
  rintro e w5 ⟨m5, k5, rfl, hr5, hs5, hb5, hd5⟩
  obtain ⟨hd6, rfl⟩ : dec S = some m5.mk_ ∧ k5 = 0 := by
    rcases hd5 with h | h
    · exact h
    · exact absurd (h.1.symm.trans HDC.out) (by simp)
  have hmk : m5.mk_ = (awM b id).mk_ := by
    rw [HDC.out] at hd6
    exact (Option.some.inj hd6).symm
  have H5 := Lib.hid (And.intro hr5 (And.intro hs5 (And.intro hb5 hmk)))
  clear hr5 hs5 hb5 hd5 hd6 hmk DE
  obtain ⟨l1, l2, l3, v1, v2, v3⟩ := m5
  dsimp only [aMk]
  obtain ⟨o1, f1, hf1, -, -⟩ := H5.out.1.1.form
  obtain ⟨o2, f2, hf2, -, -⟩ := H5.out.1.2.1.form
  obtain ⟨o3, f3, hf3, -, -⟩ := H5.out.1.2.2.1.form
  dsimp only at hf1 hf2 hf3
  obtain ⟨n1, hn1⟩ : ∃ q, q = l1.length := ⟨_, rfl⟩
  obtain ⟨n2, hn2⟩ : ∃ q, q = l2.length := ⟨_, rfl⟩
  obtain ⟨n3, hn3⟩ : ∃ q, q = l3.length := ⟨_, rfl⟩
  rw [← hn1] at hf1
  rw [← hn2] at hf2
  rw [← hn3] at hf3
  subst hf1 hf2 hf3
  clear hn1 hn2 hn3
  obtain ⟨Z2, hZ2⟩ : ∃ Z : Array Value, Z = (bcells (zeros 12)).toArray := ⟨_, rfl⟩
  have M2 : (Instr.makeSlice 55 (.int .i64 12) (.int .i64 12)).run Tryz.prog (w5.alloc (.cells #[.slice o1 n1 f1, .slice o2 n2 f2, .slice o3 n3 f3] 26)) = .ok (.slice (some ⟨w5.heap.size + 1, 0, none⟩) 12 12) ((w5.alloc (.cells #[.slice o1 n1 f1, .slice o2 n2 f2, .slice o3 n3 f3] 26)).alloc (.cells Z2 5)) := by
    have := mk_zeros 12 (.inl rfl) (w5.alloc (.cells #[.slice o1 n1 f1, .slice o2 n2 f2, .slice o3 n3 f3] 26))
    rw [show (w5.alloc (.cells #[.slice o1 n1 f1, .slice o2 n2 f2, .slice o3 n3 f3] 26)).heap.size = w5.heap.size + 1 by simp, ← hZ2] at this
    exact this
  have C2 : (convert 55 9 (.slice (some ⟨w5.heap.size + 1, 0, none⟩) 12 12)).run Tryz.prog ((w5.alloc (.cells #[.slice o1 n1 f1, .slice o2 n2 f2, .slice o3 n3 f3] 26)).alloc (.cells Z2 5)) = .ok (.string Y) ((w5.alloc (.cells #[.slice o1 n1 f1, .slice o2 n2 f2, .slice o3 n3 f3] 26)).alloc (.cells Z2 5)) := by
    have := conv_zeros 12 (.inl rfl) (w5.alloc (.cells #[.slice o1 n1 f1, .slice o2 n2 f2, .slice o3 n3 f3] 26)) _ (Below.refl _ _)
    rw [show (w5.alloc (.cells #[.slice o1 n1 f1, .slice o2 n2 f2, .slice o3 n3 f3] 26)).heap.size = w5.heap.size + 1 by simp, ← hZ2, ← HYY.out] at this
    exact this
  clear hZ2
  obtain ⟨W7, hW7⟩ : ∃ W7, W7 = (w5.alloc (.cells #[.slice o1 n1 f1, .slice o2 n2 f2, .slice o3 n3 f3] 26)).alloc (.cells Z2 5) := ⟨_, rfl⟩
  obtain ⟨g, hg⟩ : ∃ g, g = w5.heap.size := ⟨_, rfl⟩
  have hb57 : Below w5.heap.size w5 W7 := by rw [hW7]; exact ((Below.refl _ _).alloc (Nat.le_refl _) _).alloc (by simp) _
  have k7 : BlkIs W7 g 26 #[.slice o1 n1 f1, .slice o2 n2 f2, .slice o3 n3 f3] := by rw [hW7, hg]; exact (BlkIs.new _ _ _).alloc _
  have hb37 : Below W3.heap.size W3 W7 := HB4.out.trans ((H5.out.2.2.1.mono HB4.out.size).trans (hb57.mono (Nat.le_trans HB4.out.size H5.out.2.2.1.size)))
  have HX := Lib.hid (show Below W3.heap.size W3 W7 ∧ BlkIs W7 g 26 #[.slice o1 n1 f1, .slice o2 n2 f2, .slice o3 n3 f3] ∧ MkR.Reads W7 ⟨l1, l2, l3, .slice o1 n1 f1, .slice o2 n2 f2, .slice o3 n3 f3⟩ from ⟨hb37, k7, H5.out.1.later hb57⟩)
  have HW7 := Lib.hid hW7
  have HG := Lib.hid hg
  have tM := BlkIs.below HK.out.2.2.2.2 HX.out.1 HK.out.2.2.2.2.lt
  have tB := BlkIs.below HK.out.2.2.2.1 HX.out.1 HK.out.2.2.2.1.lt
  have m0 : W7.cell? ⟨b + 1 + 1 + 1 + 1 + 1 + 1, 0, none⟩ = some (.slice none 0 0) := tM.cell 0
  have m1 : W7.cell? ⟨b + 1 + 1 + 1 + 1 + 1 + 1, 1, none⟩ = some (.slice (some ⟨b + 1 + 1, 0, none⟩) 1 1) := tM.cell 1
  have m2 : W7.cell? ⟨b + 1 + 1 + 1 + 1 + 1 + 1, 2, none⟩ = some (.slice (some ⟨b + 1 + 1 + 1 + 1 + 1, 0, none⟩) 1 1) := tM.cell 2
  have t0 : W7.cell? ⟨b + 1 + 1 + 1 + 1 + 1, 0, none⟩ = some (.int .i64 2) := tB.cell 0
  have t1 : W7.cell? ⟨b + 1 + 1 + 1 + 1 + 1, 1, none⟩ = some (.int .i64 1) := tB.cell 1
  have t2 : W7.cell? ⟨b + 1 + 1 + 1 + 1 + 1, 2, none⟩ = some (.string id) := tB.cell 2
  have t3 : W7.cell? ⟨b + 1 + 1 + 1 + 1 + 1, 3, none⟩ = some (.slice (some ⟨b + 1 + 1 + 1, 0, none⟩) 1 1) := tB.cell 3
  have t4 : W7.cell? ⟨b + 1 + 1 + 1 + 1 + 1, 4, none⟩ = some (.slice (some ⟨b + 1 + 1 + 1 + 1, 0, none⟩) 2 2) := tB.cell 4
  have g0 : W7.cell? ⟨g, 0, none⟩ = some (.slice o1 n1 f1) := HX.out.2.1.cell 0
  have g1 : W7.cell? ⟨g, 1, none⟩ = some (.slice o2 n2 f2) := HX.out.2.1.cell 1
  have g2 : W7.cell? ⟨g, 2, none⟩ = some (.slice o3 n3 f3) := HX.out.2.1.cell 2
  clear tM tB
  rw [← hW7] at C2 M2
  rw [← hg] at C2 M2
  clear hW7 hg hb57 k7 hb37
  go_wp2_with fail
  rw [← HG.out]
  clear M2 C2
  clear m0 m1 m2 t0 t1 t2 t3 t4 g0 g1 g2
  refine ((show Calls Tryz.prog 14 #[aMk (awM b id)] W7 fun e w' => e = .returned (.bool true) ∧ Below W7.heap.size W7 w' from by rw [← awM_good b id HID.out]; exact good_any (awM b id) W7 (HR.out.later HX.out.1) (awM_small b id).2.2.2)).mono ?_
  rintro e wa ⟨rfl, hbn⟩
  have HXa := Lib.hid (show Below W3.heap.size W3 wa ∧ BlkIs wa g 26 #[.slice o1 n1 f1, .slice o2 n2 f2, .slice o3 n3 f3] ∧ MkR.Reads wa ⟨l1, l2, l3, .slice o1 n1 f1, .slice o2 n2 f2, .slice o3 n3 f3⟩ from ⟨HX.out.1.trans (hbn.mono HX.out.1.size), BlkIs.below HX.out.2.1 hbn HX.out.2.1.lt, HX.out.2.2.later hbn⟩)
  clear hbn
  have tMa := BlkIs.below HK.out.2.2.2.2 HXa.out.1 HK.out.2.2.2.2.lt
  have tBa := BlkIs.below HK.out.2.2.2.1 HXa.out.1 HK.out.2.2.2.1.lt
  have m0 : wa.cell? ⟨b + 1 + 1 + 1 + 1 + 1 + 1, 0, none⟩ = some (.slice none 0 0) := tMa.cell 0
  have m1 : wa.cell? ⟨b + 1 + 1 + 1 + 1 + 1 + 1, 1, none⟩ = some (.slice (some ⟨b + 1 + 1, 0, none⟩) 1 1) := tMa.cell 1
  have m2 : wa.cell? ⟨b + 1 + 1 + 1 + 1 + 1 + 1, 2, none⟩ = some (.slice (some ⟨b + 1 + 1 + 1 + 1 + 1, 0, none⟩) 1 1) := tMa.cell 2
  have t0 : wa.cell? ⟨b + 1 + 1 + 1 + 1 + 1, 0, none⟩ = some (.int .i64 2) := tBa.cell 0
  have t1 : wa.cell? ⟨b + 1 + 1 + 1 + 1 + 1, 1, none⟩ = some (.int .i64 1) := tBa.cell 1
  have t2 : wa.cell? ⟨b + 1 + 1 + 1 + 1 + 1, 2, none⟩ = some (.string id) := tBa.cell 2
  have t3 : wa.cell? ⟨b + 1 + 1 + 1 + 1 + 1, 3, none⟩ = some (.slice (some ⟨b + 1 + 1 + 1, 0, none⟩) 1 1) := tBa.cell 3
  have t4 : wa.cell? ⟨b + 1 + 1 + 1 + 1 + 1, 4, none⟩ = some (.slice (some ⟨b + 1 + 1 + 1 + 1, 0, none⟩) 2 2) := tBa.cell 4
  have g0 : wa.cell? ⟨g, 0, none⟩ = some (.slice o1 n1 f1) := HXa.out.2.1.cell 0
  have g1 : wa.cell? ⟨g, 1, none⟩ = some (.slice o2 n2 f2) := HXa.out.2.1.cell 1
  have g2 : wa.cell? ⟨g, 2, none⟩ = some (.slice o3 n3 f3) := HXa.out.2.1.cell 2
  clear tMa tBa
  go_wp2_with fail
  clear m0 m1 m2 t0 t1 t2 t3 t4 g0 g1 g2
  refine ((show Calls Tryz.prog 18 #[aMk (awM b id), aMk ⟨l1, l2, l3, .slice o1 n1 f1, .slice o2 n2 f2, .slice o3 n3 f3⟩] wa fun e w' => e = .returned (.bool true) ∧ Below wa.heap.size wa w' from by rw [← eqB_yes H5.out.2.2.2.symm]; exact same_any' _ _ wa (HR.out.later HXa.out.1) HXa.out.2.2 (awM_small b id) H5.out.2.1)).mono ?_
  rintro e wb ⟨rfl, hbn⟩
  have HXb := Lib.hid (show Below W3.heap.size W3 wb ∧ BlkIs wb g 26 #[.slice o1 n1 f1, .slice o2 n2 f2, .slice o3 n3 f3] ∧ MkR.Reads wb ⟨l1, l2, l3, .slice o1 n1 f1, .slice o2 n2 f2, .slice o3 n3 f3⟩ from ⟨HXa.out.1.trans (hbn.mono HXa.out.1.size), BlkIs.below HXa.out.2.1 hbn HXa.out.2.1.lt, HXa.out.2.2.later hbn⟩)
  clear hbn
  have tMb := BlkIs.below HK.out.2.2.2.2 HXb.out.1 HK.out.2.2.2.2.lt
  have tBb := BlkIs.below HK.out.2.2.2.1 HXb.out.1 HK.out.2.2.2.1.lt
  have m0 : wb.cell? ⟨b + 1 + 1 + 1 + 1 + 1 + 1, 0, none⟩ = some (.slice none 0 0) := tMb.cell 0
  have m1 : wb.cell? ⟨b + 1 + 1 + 1 + 1 + 1 + 1, 1, none⟩ = some (.slice (some ⟨b + 1 + 1, 0, none⟩) 1 1) := tMb.cell 1
  have m2 : wb.cell? ⟨b + 1 + 1 + 1 + 1 + 1 + 1, 2, none⟩ = some (.slice (some ⟨b + 1 + 1 + 1 + 1 + 1, 0, none⟩) 1 1) := tMb.cell 2
  have t0 : wb.cell? ⟨b + 1 + 1 + 1 + 1 + 1, 0, none⟩ = some (.int .i64 2) := tBb.cell 0
  have t1 : wb.cell? ⟨b + 1 + 1 + 1 + 1 + 1, 1, none⟩ = some (.int .i64 1) := tBb.cell 1
  have t2 : wb.cell? ⟨b + 1 + 1 + 1 + 1 + 1, 2, none⟩ = some (.string id) := tBb.cell 2
  have t3 : wb.cell? ⟨b + 1 + 1 + 1 + 1 + 1, 3, none⟩ = some (.slice (some ⟨b + 1 + 1 + 1, 0, none⟩) 1 1) := tBb.cell 3
  have t4 : wb.cell? ⟨b + 1 + 1 + 1 + 1 + 1, 4, none⟩ = some (.slice (some ⟨b + 1 + 1 + 1 + 1, 0, none⟩) 2 2) := tBb.cell 4
  have g0 : wb.cell? ⟨g, 0, none⟩ = some (.slice o1 n1 f1) := HXb.out.2.1.cell 0
  have g1 : wb.cell? ⟨g, 1, none⟩ = some (.slice o2 n2 f2) := HXb.out.2.1.cell 1
  have g2 : wb.cell? ⟨g, 2, none⟩ = some (.slice o3 n3 f3) := HXb.out.2.1.cell 2
  clear tMb tBb
  go_wp2_with fail
  clear m0 m1 m2 t0 t1 t2 t3 t4 g0 g1 g2
  refine ((show Calls Tryz.prog 26 #[aMk (awM b id), .int .i64 1] wb fun e w' => e = .returned (.int .i64 6) ∧ Below wb.heap.size wb w' from by rw [← awM_next b id]; exact next_any (awM b id) 1 wb (HR.out.later HXb.out.1) (awM_small b id))).mono ?_
  rintro e wc ⟨rfl, hbn⟩
  have HXc := Lib.hid (show Below W3.heap.size W3 wc ∧ BlkIs wc g 26 #[.slice o1 n1 f1, .slice o2 n2 f2, .slice o3 n3 f3] ∧ MkR.Reads wc ⟨l1, l2, l3, .slice o1 n1 f1, .slice o2 n2 f2, .slice o3 n3 f3⟩ from ⟨HXb.out.1.trans (hbn.mono HXb.out.1.size), BlkIs.below HXb.out.2.1 hbn HXb.out.2.1.lt, HXb.out.2.2.later hbn⟩)
  clear hbn
  have tMc := BlkIs.below HK.out.2.2.2.2 HXc.out.1 HK.out.2.2.2.2.lt
  have tBc := BlkIs.below HK.out.2.2.2.1 HXc.out.1 HK.out.2.2.2.1.lt
  have m0 : wc.cell? ⟨b + 1 + 1 + 1 + 1 + 1 + 1, 0, none⟩ = some (.slice none 0 0) := tMc.cell 0
  have m1 : wc.cell? ⟨b + 1 + 1 + 1 + 1 + 1 + 1, 1, none⟩ = some (.slice (some ⟨b + 1 + 1, 0, none⟩) 1 1) := tMc.cell 1
  have m2 : wc.cell? ⟨b + 1 + 1 + 1 + 1 + 1 + 1, 2, none⟩ = some (.slice (some ⟨b + 1 + 1 + 1 + 1 + 1, 0, none⟩) 1 1) := tMc.cell 2
  have t0 : wc.cell? ⟨b + 1 + 1 + 1 + 1 + 1, 0, none⟩ = some (.int .i64 2) := tBc.cell 0
  have t1 : wc.cell? ⟨b + 1 + 1 + 1 + 1 + 1, 1, none⟩ = some (.int .i64 1) := tBc.cell 1
  have t2 : wc.cell? ⟨b + 1 + 1 + 1 + 1 + 1, 2, none⟩ = some (.string id) := tBc.cell 2
  have t3 : wc.cell? ⟨b + 1 + 1 + 1 + 1 + 1, 3, none⟩ = some (.slice (some ⟨b + 1 + 1 + 1, 0, none⟩) 1 1) := tBc.cell 3
  have t4 : wc.cell? ⟨b + 1 + 1 + 1 + 1 + 1, 4, none⟩ = some (.slice (some ⟨b + 1 + 1 + 1 + 1, 0, none⟩) 2 2) := tBc.cell 4
  have g0 : wc.cell? ⟨g, 0, none⟩ = some (.slice o1 n1 f1) := HXc.out.2.1.cell 0
  have g1 : wc.cell? ⟨g, 1, none⟩ = some (.slice o2 n2 f2) := HXc.out.2.1.cell 1
  have g2 : wc.cell? ⟨g, 2, none⟩ = some (.slice o3 n3 f3) := HXc.out.2.1.cell 2
  clear tMc tBc
  go_wp2_with fail
  clear m0 m1 m2 t0 t1 t2 t3 t4 g0 g1 g2
  refine ((show Calls Tryz.prog 20 #[aTb ⟨⟨2, 1, id, [⟨1, 5, id⟩], [1, 2]⟩, .slice (some ⟨b + 1 + 1 + 1, 0, none⟩) 1 1, .slice (some ⟨b + 1 + 1 + 1 + 1, 0, none⟩) 2 2⟩, .int .i64 3] wc fun e w' => e = .returned (.bool true) ∧ Below wc.heap.size wc w' from sure_any ⟨⟨2, 1, id, [⟨1, 5, id⟩], [1, 2]⟩, .slice (some ⟨b + 1 + 1 + 1, 0, none⟩) 1 1, .slice (some ⟨b + 1 + 1 + 1 + 1, 0, none⟩) 2 2⟩ 3 wc ((HR.out.later HXc.out.1).2.2.2 _ (List.mem_singleton.2 rfl)) (by simp))).mono ?_
  rintro e wd ⟨rfl, hbn⟩
  have HXd := Lib.hid (show Below W3.heap.size W3 wd ∧ BlkIs wd g 26 #[.slice o1 n1 f1, .slice o2 n2 f2, .slice o3 n3 f3] ∧ MkR.Reads wd ⟨l1, l2, l3, .slice o1 n1 f1, .slice o2 n2 f2, .slice o3 n3 f3⟩ from ⟨HXc.out.1.trans (hbn.mono HXc.out.1.size), BlkIs.below HXc.out.2.1 hbn HXc.out.2.1.lt, HXc.out.2.2.later hbn⟩)
  clear hbn
  have tMd := BlkIs.below HK.out.2.2.2.2 HXd.out.1 HK.out.2.2.2.2.lt
  have tBd := BlkIs.below HK.out.2.2.2.1 HXd.out.1 HK.out.2.2.2.1.lt
  have m0 : wd.cell? ⟨b + 1 + 1 + 1 + 1 + 1 + 1, 0, none⟩ = some (.slice none 0 0) := tMd.cell 0
  have m1 : wd.cell? ⟨b + 1 + 1 + 1 + 1 + 1 + 1, 1, none⟩ = some (.slice (some ⟨b + 1 + 1, 0, none⟩) 1 1) := tMd.cell 1
  have m2 : wd.cell? ⟨b + 1 + 1 + 1 + 1 + 1 + 1, 2, none⟩ = some (.slice (some ⟨b + 1 + 1 + 1 + 1 + 1, 0, none⟩) 1 1) := tMd.cell 2
  have t0 : wd.cell? ⟨b + 1 + 1 + 1 + 1 + 1, 0, none⟩ = some (.int .i64 2) := tBd.cell 0
  have t1 : wd.cell? ⟨b + 1 + 1 + 1 + 1 + 1, 1, none⟩ = some (.int .i64 1) := tBd.cell 1
  have t2 : wd.cell? ⟨b + 1 + 1 + 1 + 1 + 1, 2, none⟩ = some (.string id) := tBd.cell 2
  have t3 : wd.cell? ⟨b + 1 + 1 + 1 + 1 + 1, 3, none⟩ = some (.slice (some ⟨b + 1 + 1 + 1, 0, none⟩) 1 1) := tBd.cell 3
  have t4 : wd.cell? ⟨b + 1 + 1 + 1 + 1 + 1, 4, none⟩ = some (.slice (some ⟨b + 1 + 1 + 1 + 1, 0, none⟩) 2 2) := tBd.cell 4
  have g0 : wd.cell? ⟨g, 0, none⟩ = some (.slice o1 n1 f1) := HXd.out.2.1.cell 0
  have g1 : wd.cell? ⟨g, 1, none⟩ = some (.slice o2 n2 f2) := HXd.out.2.1.cell 1
  have g2 : wd.cell? ⟨g, 2, none⟩ = some (.slice o3 n3 f3) := HXd.out.2.1.cell 2
  clear tMd tBd
  go_wp2_with fail
  clear m0 m1 m2 t0 t1 t2 t3 t4 g0 g1 g2
  refine ((show Calls Tryz.prog 20 #[aTb ⟨⟨2, 1, id, [⟨1, 5, id⟩], [1, 2]⟩, .slice (some ⟨b + 1 + 1 + 1, 0, none⟩) 1 1, .slice (some ⟨b + 1 + 1 + 1 + 1, 0, none⟩) 2 2⟩, .int .i64 4] wd fun e w' => e = .returned (.bool false) ∧ Below wd.heap.size wd w' from sure_any ⟨⟨2, 1, id, [⟨1, 5, id⟩], [1, 2]⟩, .slice (some ⟨b + 1 + 1 + 1, 0, none⟩) 1 1, .slice (some ⟨b + 1 + 1 + 1 + 1, 0, none⟩) 2 2⟩ 4 wd ((HR.out.later HXd.out.1).2.2.2 _ (List.mem_singleton.2 rfl)) (by simp))).mono ?_
  rintro e we ⟨rfl, hbn⟩
  have HXe := Lib.hid (show Below W3.heap.size W3 we ∧ BlkIs we g 26 #[.slice o1 n1 f1, .slice o2 n2 f2, .slice o3 n3 f3] ∧ MkR.Reads we ⟨l1, l2, l3, .slice o1 n1 f1, .slice o2 n2 f2, .slice o3 n3 f3⟩ from ⟨HXd.out.1.trans (hbn.mono HXd.out.1.size), BlkIs.below HXd.out.2.1 hbn HXd.out.2.1.lt, HXd.out.2.2.later hbn⟩)
  clear hbn
  have tMe := BlkIs.below HK.out.2.2.2.2 HXe.out.1 HK.out.2.2.2.2.lt
  have tBe := BlkIs.below HK.out.2.2.2.1 HXe.out.1 HK.out.2.2.2.1.lt
  have m0 : we.cell? ⟨b + 1 + 1 + 1 + 1 + 1 + 1, 0, none⟩ = some (.slice none 0 0) := tMe.cell 0
  have m1 : we.cell? ⟨b + 1 + 1 + 1 + 1 + 1 + 1, 1, none⟩ = some (.slice (some ⟨b + 1 + 1, 0, none⟩) 1 1) := tMe.cell 1
  have m2 : we.cell? ⟨b + 1 + 1 + 1 + 1 + 1 + 1, 2, none⟩ = some (.slice (some ⟨b + 1 + 1 + 1 + 1 + 1, 0, none⟩) 1 1) := tMe.cell 2
  have t0 : we.cell? ⟨b + 1 + 1 + 1 + 1 + 1, 0, none⟩ = some (.int .i64 2) := tBe.cell 0
  have t1 : we.cell? ⟨b + 1 + 1 + 1 + 1 + 1, 1, none⟩ = some (.int .i64 1) := tBe.cell 1
  have t2 : we.cell? ⟨b + 1 + 1 + 1 + 1 + 1, 2, none⟩ = some (.string id) := tBe.cell 2
  have t3 : we.cell? ⟨b + 1 + 1 + 1 + 1 + 1, 3, none⟩ = some (.slice (some ⟨b + 1 + 1 + 1, 0, none⟩) 1 1) := tBe.cell 3
  have t4 : we.cell? ⟨b + 1 + 1 + 1 + 1 + 1, 4, none⟩ = some (.slice (some ⟨b + 1 + 1 + 1 + 1, 0, none⟩) 2 2) := tBe.cell 4
  have g0 : we.cell? ⟨g, 0, none⟩ = some (.slice o1 n1 f1) := HXe.out.2.1.cell 0
  have g1 : we.cell? ⟨g, 1, none⟩ = some (.slice o2 n2 f2) := HXe.out.2.1.cell 1
  have g2 : we.cell? ⟨g, 2, none⟩ = some (.slice o3 n3 f3) := HXe.out.2.1.cell 2
  clear tMe tBe
  go_wp2_with fail
  clear m0 m1 m2 t0 t1 t2 t3 t4 g0 g1 g2
  have LV := live_any (awM b id) 3 we (HR.out.later HXe.out.1) (awM_small b id)
  rw [awM_live3] at LV
  refine LV.mono ?_
  rintro e wf ⟨v, rfl, hrv, hbn, -⟩
  obtain ⟨ov, cv, rfl, -, -⟩ := hrv.form
  have HXf := Lib.hid (show Below W3.heap.size W3 wf ∧ BlkIs wf g 26 #[.slice o1 n1 f1, .slice o2 n2 f2, .slice o3 n3 f3] ∧ True from ⟨HXe.out.1.trans (hbn.mono HXe.out.1.size), BlkIs.below HXe.out.2.1 hbn HXe.out.2.1.lt, trivial⟩)
  clear hbn hrv LV
  have tMf := BlkIs.below HK.out.2.2.2.2 HXf.out.1 HK.out.2.2.2.2.lt
  have tBf := BlkIs.below HK.out.2.2.2.1 HXf.out.1 HK.out.2.2.2.1.lt
  have m0 : wf.cell? ⟨b + 1 + 1 + 1 + 1 + 1 + 1, 0, none⟩ = some (.slice none 0 0) := tMf.cell 0
  have m1 : wf.cell? ⟨b + 1 + 1 + 1 + 1 + 1 + 1, 1, none⟩ = some (.slice (some ⟨b + 1 + 1, 0, none⟩) 1 1) := tMf.cell 1
  have m2 : wf.cell? ⟨b + 1 + 1 + 1 + 1 + 1 + 1, 2, none⟩ = some (.slice (some ⟨b + 1 + 1 + 1 + 1 + 1, 0, none⟩) 1 1) := tMf.cell 2
  have t0 : wf.cell? ⟨b + 1 + 1 + 1 + 1 + 1, 0, none⟩ = some (.int .i64 2) := tBf.cell 0
  have t1 : wf.cell? ⟨b + 1 + 1 + 1 + 1 + 1, 1, none⟩ = some (.int .i64 1) := tBf.cell 1
  have t2 : wf.cell? ⟨b + 1 + 1 + 1 + 1 + 1, 2, none⟩ = some (.string id) := tBf.cell 2
  have t3 : wf.cell? ⟨b + 1 + 1 + 1 + 1 + 1, 3, none⟩ = some (.slice (some ⟨b + 1 + 1 + 1, 0, none⟩) 1 1) := tBf.cell 3
  have t4 : wf.cell? ⟨b + 1 + 1 + 1 + 1 + 1, 4, none⟩ = some (.slice (some ⟨b + 1 + 1 + 1 + 1, 0, none⟩) 2 2) := tBf.cell 4
  have g0 : wf.cell? ⟨g, 0, none⟩ = some (.slice o1 n1 f1) := HXf.out.2.1.cell 0
  have g1 : wf.cell? ⟨g, 1, none⟩ = some (.slice o2 n2 f2) := HXf.out.2.1.cell 1
  have g2 : wf.cell? ⟨g, 2, none⟩ = some (.slice o3 n3 f3) := HXf.out.2.1.cell 2
  clear tMf tBf
  go_wp2_with fail
  clear m0 m1 m2 t0 t1 t2 t3 t4 g0 g1 g2
  have RT := roots_any (awM b id) 4 wf (HR.out.later HXf.out.1) (awM_small b id) (by simp [awM])
  rw [awM_live4] at RT
  refine RT.mono ?_
  rintro e wg ⟨v, l, rfl, hsv, hio, hbn⟩
  have hl1 := isOf_one hio
  rw [hl1] at hsv
  obtain ⟨og, cg, rfl, -, -, -⟩ := hsv.form
  have HXg := Lib.hid (HXf.out.1.trans (hbn.mono HXf.out.1.size))
  clear hbn hsv hio hl1 RT
  go_wp2_with fail
  go_ret
  exact ⟨rfl, HB2.out.trans ((HBW.out.mono HB2.out.size).trans (HXg.out.mono (Nat.le_trans HB2.out.size HBW.out.size)))⟩
end Go.Proofs.YtngflbakmlddeaaGreat.Mk
