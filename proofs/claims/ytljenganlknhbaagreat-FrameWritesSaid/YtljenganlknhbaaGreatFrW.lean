/- The law's own awake, walked. Printed by gen_frw.py. (Layer 19.) -/
import Derived.Test.YtljenganlknhbaaGreatFrG
import Derived.Test.YtljenganlknhbaaGreatFrD
namespace Go.Proofs.YtljenganlknhbaaGreat.Fr
set_option linter.unusedVariables false
set_option linter.unusedSimpArgs false
open Go.RowKit Go.Lib Oct
open Tr (Cp IsSet holds)
open Mk (MkR aMk)
/-- The message that awake sends. -/
def mA : MsgR := ⟨5, 1, 2, 0, 3, [], [], [], [], MkR.none_, .slice none 0 0, .slice none 0 0, .slice none 0 0, .slice none 0 0⟩
theorem mA_reads (w : World) : mA.Reads w := MsgR.none_reads w
theorem mA_small : mA.Small := MsgR.none_small
theorem mA_good : goodM mA.msg = true := by
  have h1 : holds (IsSet mA.msg.ids) = true := Tr.holds_true Tr.isSet_nil
  have h2 : aloneB mA.msg = true := by decide
  have h3 : nodesB mA.msg = true := by decide
  have h4 : numsB mA.msg = true := by decide
  have h5 : Mk.goodB mA.msg.mar = true := by decide
  unfold goodM
  rw [h1, h2, h3, h4, h5]
  rfl
theorem none_good : goodM MsgR.none_.msg = false := by
  have h3 : nodesB MsgR.none_.msg = false := by decide
  unfold goodM
  rw [h3]
  rfl
theorem mA_body : enBody mA.msg = ⟨#[5, 1, 0, 0, 0, 2, 0, 0, 0, 0, 0, 0, 0, 3, 0, 0, 0]⟩ := by
  apply ByteArray.ext
  apply Array.ext'
  decide +kernel
theorem mA_enc : (encM mA.msg).size = 25 ∧ (encM mA.msg).extract 0 4 = ⟨#[17, 0, 0, 0]⟩ ∧ (encM mA.msg).extract 8 13 = ⟨#[5, 1, 0, 0, 0]⟩ := by
  unfold encM frameB
  rw [mA_body]
  obtain ⟨c, hc⟩ : ∃ c, c = enNum (crcB (⟨#[5, 1, 0, 0, 0, 2, 0, 0, 0, 0, 0, 0, 0, 3, 0, 0, 0]⟩ : ByteArray) : Int) := ⟨_, rfl⟩
  have hc4 : c.size = 4 := by rw [hc]; rfl
  rw [← hc]
  obtain ⟨a0, a1, a2, a3, rfl⟩ := four_bytes hc4
  refine ⟨rfl, ?_, ?_⟩ <;> (apply ByteArray.ext; apply Array.ext'; rfl)
theorem dec_x : decM ⟨#[120]⟩ = (3, noMsg) := by
  have e1 : rNum ((⟨#[120]⟩ : ByteArray), false) = (0, ⟨#[]⟩, true) := by
    unfold rNum
    rw [takeR_short _ _ _ (by decide)]
    rfl
  unfold decM
  simp only [e1]
  rw [if_pos]
  left
  show (rNum ((⟨#[]⟩ : ByteArray), true)).2.2 = true
  unfold rNum
  rw [takeR_short _ _ _ (by decide)]
set_option maxRecDepth 100000 in
set_option maxHeartbeats 8000000 in
theorem awake_any (w : World) : Calls Tryz.prog 8 #[] w fun e w' => e = .returned (.bool true) ∧ Below w.heap.size w w' := by
  obtain ⟨W1, hW1⟩ : ∃ W1, W1 = w.alloc (.cells #[.int .i64 5, .int .i64 1, .int .i64 2, .int .i64 0, .int .i64 3, .slice none 0 0, .slice none 0 0, .slice none 0 0, .slice none 0 0, .slice none 0 0, .slice none 0 0, .slice none 0 0] 30) := ⟨_, rfl⟩
  have hb1 : Below w.heap.size w W1 := by rw [hW1]; exact (Below.refl _ _).alloc (Nat.le_refl _) _
  have k1 : BlkIs W1 w.heap.size 30 #[.int .i64 5, .int .i64 1, .int .i64 2, .int .i64 0, .int .i64 3, .slice none 0 0, .slice none 0 0, .slice none 0 0, .slice none 0 0, .slice none 0 0, .slice none 0 0, .slice none 0 0] := by rw [hW1]; exact BlkIs.new _ _ _
  obtain ⟨hz, hx1, hx2⟩ := mA_enc
  have EN := encode_good mA W1 (mA_reads W1) mA_small mA_good
  have hag : aMsg mA = .agg #[.int .i64 5, .int .i64 1, .int .i64 2, .int .i64 0, .int .i64 3, .slice none 0 0, .slice none 0 0, .slice none 0 0, .slice none 0 0, .slice none 0 0, .slice none 0 0, .slice none 0 0] := rfl
  rw [hag] at EN
  obtain ⟨S, hS⟩ : ∃ S, S = encM mA.msg := ⟨_, rfl⟩
  rw [← hS] at EN hz hx1 hx2
  have hdS : decM S = (0, mA.msg) := by rw [hS]; exact decM_enc mA_good
  have DS1 := fun W => decode_any S W (by omega)
  have DX := fun W => decode_any ⟨#[120]⟩ W (by decide)
  have GA := fun W => good_any mA W (mA_reads W) mA_small
  have GN := fun W => good_any MsgR.none_ W (MsgR.none_reads W) MsgR.none_small
  rw [mA_good, hag] at GA
  rw [none_good, MsgR.none_agg] at GN
  have EN := Lib.hid EN
  have DS1 := Lib.hid DS1
  have DX := Lib.hid DX
  have GA := Lib.hid GA
  have GN := Lib.hid GN
  have HdS := Lib.hid hdS
  have HX := Lib.hid (And.intro hz (And.intro hx1 hx2))
  have H1 := Lib.hid (And.intro hb1 k1)
  have HW := Lib.hid hW1
  clear hag hS hdS hz hx1 hx2 hb1 k1 hW1
  rw [HW.out] at EN
  go_enter Tryz.func8, Tryz.ntmps8
  go_wp2_with fail
  refine EN.out.mono ?_
  rintro e w2 ⟨rfl, hb2⟩
  rw [← HW.out] at hb2
  have H2 := Lib.hid (show Below w.heap.size w w2 ∧ BlkIs w2 w.heap.size 30 #[.int .i64 5, .int .i64 1, .int .i64 2, .int .i64 0, .int .i64 3, .slice none 0 0, .slice none 0 0, .slice none 0 0, .slice none 0 0, .slice none 0 0, .slice none 0 0, .slice none 0 0] from ⟨H1.out.1.trans (hb2.mono H1.out.1.size), H1.out.2.below hb2 H1.out.2.lt⟩)
  clear hb2 EN HW H1
  go_wp2_with fail
  refine (DS1.out w2).mono ?_
  rintro e w3 ⟨m, rfl, hm, hr, hsm, hb3⟩
  have H3 := Lib.hid (show Below w.heap.size w w3 ∧ BlkIs w3 w.heap.size 30 #[.int .i64 5, .int .i64 1, .int .i64 2, .int .i64 0, .int .i64 3, .slice none 0 0, .slice none 0 0, .slice none 0 0, .slice none 0 0, .slice none 0 0, .slice none 0 0, .slice none 0 0] from ⟨H2.out.1.trans (hb3.mono H2.out.1.size), H2.out.2.below hb3 H2.out.2.lt⟩)
  rw [HdS.out] at hm ⊢
  have hst : m.step = 3 := congrArg Msg.step hm
  obtain ⟨o1, f1, o2, f2, o3, f3, o4, f4, o5, f5, o6, f6, o7, f7, e1, e2, e3, e4, e5, e6, e7⟩ := MsgR.form hr
  unfold aMsg
  rw [e1, e2, e3, e4, e5, e6, e7, hst]
  generalize m.kind = q0
  generalize m.src = q1
  generalize m.dst = q2
  generalize m.ses = q3
  generalize m.pre.length = n1
  generalize m.cel.length = n2
  generalize m.ids.length = n3
  generalize m.obj.length = n4
  generalize m.mar.refs.length = n5
  generalize m.mar.toks.length = n6
  generalize m.mar.tombs.length = n7
  obtain ⟨N, hN⟩ : ∃ N, N = w3.heap.size := ⟨_, rfl⟩
  obtain ⟨W4, hW4⟩ : ∃ W4, W4 = w3.alloc (.cells #[.int .i64 q0, .int .i64 q1, .int .i64 q2, .int .i64 q3, .int .i64 3, .slice o1 n1 f1, .slice o2 n2 f2, .slice o3 n3 f3, .slice o4 n4 f4, .slice o5 n5 f5, .slice o6 n6 f6, .slice o7 n7 f7] 30) := ⟨_, rfl⟩
  have hb4 : Below w3.heap.size w3 W4 := by rw [hW4]; exact (Below.refl _ _).alloc (Nat.le_refl _) _
  have kN : BlkIs W4 N 30 #[.int .i64 q0, .int .i64 q1, .int .i64 q2, .int .i64 q3, .int .i64 3, .slice o1 n1 f1, .slice o2 n2 f2, .slice o3 n3 f3, .slice o4 n4 f4, .slice o5 n5 f5, .slice o6 n6 f6, .slice o7 n7 f7] := by rw [hW4, hN]; exact BlkIs.new _ _ _
  have k4 := H3.out.2.below hb4 H3.out.2.lt
  have h4 := H3.out.1.trans (hb4.mono H3.out.1.size)
  have HB := Lib.hid (fun X : LaterOf W4 => h4.trans (X.h.mono h4.size))
  have cN : ∀ X : LaterOf W4, X.w.cell? ⟨N, 4, none⟩ = some (.int .i64 3) := fun X => (X.blk kN).cell 4
  have u0 : ∀ X : LaterOf W4, X.w.cell? ⟨w.heap.size, 0, none⟩ = some (.int .i64 5) := fun X => (X.blk k4).cell 0
  have u1 : ∀ X : LaterOf W4, X.w.cell? ⟨w.heap.size, 1, none⟩ = some (.int .i64 1) := fun X => (X.blk k4).cell 1
  have u2 : ∀ X : LaterOf W4, X.w.cell? ⟨w.heap.size, 2, none⟩ = some (.int .i64 2) := fun X => (X.blk k4).cell 2
  have u3 : ∀ X : LaterOf W4, X.w.cell? ⟨w.heap.size, 3, none⟩ = some (.int .i64 0) := fun X => (X.blk k4).cell 3
  have u4 : ∀ X : LaterOf W4, X.w.cell? ⟨w.heap.size, 4, none⟩ = some (.int .i64 3) := fun X => (X.blk k4).cell 4
  have u5 : ∀ X : LaterOf W4, X.w.cell? ⟨w.heap.size, 5, none⟩ = some (.slice none 0 0) := fun X => (X.blk k4).cell 5
  have u6 : ∀ X : LaterOf W4, X.w.cell? ⟨w.heap.size, 6, none⟩ = some (.slice none 0 0) := fun X => (X.blk k4).cell 6
  have u7 : ∀ X : LaterOf W4, X.w.cell? ⟨w.heap.size, 7, none⟩ = some (.slice none 0 0) := fun X => (X.blk k4).cell 7
  have u8 : ∀ X : LaterOf W4, X.w.cell? ⟨w.heap.size, 8, none⟩ = some (.slice none 0 0) := fun X => (X.blk k4).cell 8
  have u9 : ∀ X : LaterOf W4, X.w.cell? ⟨w.heap.size, 9, none⟩ = some (.slice none 0 0) := fun X => (X.blk k4).cell 9
  have u10 : ∀ X : LaterOf W4, X.w.cell? ⟨w.heap.size, 10, none⟩ = some (.slice none 0 0) := fun X => (X.blk k4).cell 10
  have u11 : ∀ X : LaterOf W4, X.w.cell? ⟨w.heap.size, 11, none⟩ = some (.slice none 0 0) := fun X => (X.blk k4).cell 11
  have HW4 := Lib.hid (And.intro hW4 hN)
  clear hm hr hsm hb3 hst e1 e2 e3 e4 e5 e6 e7 hN hW4 hb4 kN k4 h4 H2 H3 DS1
  go_upto_region 4 with (fail)
  rw [← HW4.out.1, ← HW4.out.2]
  obtain ⟨X, hX⟩ := later_at W4
  rw [hX]
  clear hX HW4
  go_wp2_with fail
  refine (DX.out X.w).mono ?_
  rintro e w5 ⟨m', rfl, hm, hr, hsm, hb5⟩
  obtain ⟨X, rfl⟩ := later_next X hb5
  rw [dec_x]
  obtain ⟨o1', f1', o2', f2', o3', f3', o4', f4', o5', f5', o6', f6', o7', f7', e1, e2, e3, e4, e5, e6, e7⟩ := MsgR.form hr
  unfold aMsg
  rw [e1, e2, e3, e4, e5, e6, e7]
  generalize m'.kind = q0'
  generalize m'.src = q1'
  generalize m'.dst = q2'
  generalize m'.ses = q3'
  generalize m'.step = q4'
  generalize m'.pre.length = n1'
  generalize m'.cel.length = n2'
  generalize m'.ids.length = n3'
  generalize m'.obj.length = n4'
  generalize m'.mar.refs.length = n5'
  generalize m'.mar.toks.length = n6'
  generalize m'.mar.tombs.length = n7'
  clear hm hr hsm hb5 e1 e2 e3 e4 e5 e6 e7 DX
  go_upto_region 5 with (fail)
  obtain ⟨X5, hX5⟩ : ∃ Y : LaterOf W4, X.w.alloc (.cells #[.int .i64 q0', .int .i64 q1', .int .i64 q2', .int .i64 q3', .int .i64 q4', .slice o1' n1' f1', .slice o2' n2' f2', .slice o3' n3' f3', .slice o4' n4' f4', .slice o5' n5' f5', .slice o6' n6' f6', .slice o7' n7' f7'] 30) = Y.w := ⟨⟨_, X.h.alloc X.h.size _⟩, rfl⟩
  rw [hX5]
  clear hX5
  have hz := HX.out.1
  have hx1 := HX.out.2.1
  have hx2 := HX.out.2.2
  have hzi : (S.size : Int) = 25 := by omega
  go_wp2_with fail
  refine (LaterOf.call X5 (GA.out X5.w)).mono ?_
  rintro e _ ⟨rfl, X, rfl⟩
  go_wp2_with fail
  refine (LaterOf.call X (GN.out X.w)).mono ?_
  rintro e _ ⟨rfl, X, rfl⟩
  go_wp2_with fail
  go_ret
  exact ⟨rfl, HB.out X⟩
end Go.Proofs.YtljenganlknhbaaGreat.Fr
