/- The reference's body and Encode, walked. Printed by gen_frr6.py. (Layer 19.) -/
import Derived.Test.YtljenganlknhbaaGreatFrG
import Derived.Test.YtljenganlknhbaaGreatFrR3
import Derived.Test.YtljenganlknhbaaGreatMk14
import Derived.Deep.RegionHeld
import Derived.Deep.CutRange
import Derived.BigQuiet
namespace Go.Proofs.YtljenganlknhbaaGreat.Fr
set_option linter.unusedVariables false
set_option linter.unusedSimpArgs false
open Go.RowKit Go.Lib Oct
open Set (StrAt scells)
open Tr (Cp strAt_at)
open Mk (MkR aMk okN enNum_size enText_size enMk goodB rtext_any)
theorem rnum_any (n : Int) (h : okN n) (w : World) : Calls Tryz.prog 22 #[.int .i64 n] w fun e w' => e = .returned (.string (enNum n)) ∧ Below w.heap.size w w' := by
  obtain ⟨h1, h2⟩ := h
  obtain ⟨k, rfl⟩ := Int.eq_ofNat_of_zero_le h1
  have hn := Oct.ref_num k
  have e : (enNum (k : Int)) = ⟨(le32 k).toArray⟩ := rfl
  rw [← e] at hn
  obtain ⟨T, hT⟩ : ∃ T, T = enNum (k : Int) := ⟨_, rfl⟩
  rw [← hT] at hn ⊢
  have Hn := Lib.hid hn
  have hw : IntKind.u32.wrap (k : Int) = (k : Int) := by rw [IntKind.wrap_u32]; omega
  clear hn e hT h1 h2
  go_enter Tryz.func22, Tryz.ntmps22
  go_wp2_with fail
  refine (Hn.out _).mono ?_
  rintro e w2 ⟨rfl, hb⟩
  have H := Lib.hid hb
  clear hb
  go_wp2_with fail
  go_ret
  exact ⟨rfl, H.out⟩
/-- Where body stands. -/
def BSt (w : World) (cs : Array Value) (W : World) : Prop := Below w.heap.size w W ∧ BlkIs W w.heap.size 30 cs
theorem BSt.later {w : World} {cs : Array Value} {W W' : World} (h : BSt w cs W) (hb : Below W.heap.size W W') : BSt w cs W' := ⟨h.1.trans (hb.mono h.1.size), BlkIs.below h.2 hb h.2.lt⟩
/-- The bytes of a list's head. -/
theorem upTo_le {α : Type} (en : α → ByteArray) (l : List α) (k : Nat) : (upTo en l k).size ≤ (enMany en l).size := by
  have h : enAll en l = enAll en (l.take k) ++ enAll en (l.drop k) := by rw [← enAll_app, List.take_append_drop]
  unfold upTo enMany
  rw [h]
  simp only [ByteArray.size_append]
  omega
theorem upTo_next {α : Type} (en : α → ByteArray) {l : List α} {k : Nat} (h : k < l.length) : (upTo en l k).size + (en l[k]).size ≤ (enMany en l).size := by
  have := upTo_le en l (k + 1)
  rw [upTo_succ en h, ByteArray.size_append] at this
  exact this
theorem enAll_next {α : Type} (en : α → ByteArray) {l : List α} {j : Nat} (h : j < l.length) : (enAll en (l.take j)).size + (en l[j]).size ≤ (enAll en l).size := by
  have h1 : enAll en l = enAll en (l.take (j + 1)) ++ enAll en (l.drop (j + 1)) := by rw [← enAll_app, List.take_append_drop]
  rw [h1, List.take_succ_eq_append_getElem h, enAll_snoc]
  simp only [ByteArray.size_append]
  omega
theorem enCell_one (c : Cp) : enCell c = enText c.pre ++ enNum c.cnt ++ c.sum ++ enAll idB c.ids ++ enAll idB c.kids := by
  unfold enCell
  simp only [ByteArray.append_assoc]
set_option maxRecDepth 100000 in
set_option maxHeartbeats 16000000 in
theorem rbody_any (m : MsgR) (w : World) (h : m.Reads w) (hs : m.Small) (hg : goodM m.msg = true) : Calls Tryz.prog 21 #[aMsg m] w fun e w' => e = .returned (.string (enBody m.msg)) ∧ Below w.heap.size w w' := by
  obtain ⟨W1, hW1⟩ : ∃ W1, W1 = w.alloc (.cells #[.int .i64 m.kind, .int .i64 m.src, .int .i64 m.dst, .int .i64 m.ses, .int .i64 m.step, m.pv, m.cv, m.iv, m.ov, m.mar.rv, m.mar.kv, m.mar.bv] 30) := ⟨_, rfl⟩
  have hb1 : Below w.heap.size w W1 := by rw [hW1]; exact (Below.refl _ _).alloc (Nat.le_refl _) _
  obtain ⟨o1, f1, o2, f2, o3, f3, o4, f4, o5, f5, o6, f6, o7, f7, e1, e2, e3, e4, e5, e6, e7⟩ := MsgR.form h
  have k1 : BlkIs W1 w.heap.size 30 #[.int .i64 m.kind, .int .i64 m.src, .int .i64 m.dst, .int .i64 m.ses, .int .i64 m.step, m.pv, m.cv, m.iv, m.ov, m.mar.rv, m.mar.kv, m.mar.bv] := by rw [hW1]; exact BlkIs.new _ _ _
  obtain ⟨⟨q0, q1, q2, q3, q4⟩, hok⟩ := ok_msg hg
  have q0 : 0 ≤ m.kind ∧ m.kind < 256 := q0
  have N1 := rnum_any m.src q1
  have N2 := rnum_any m.dst q2
  have N3 := rnum_any m.ses q3
  have N4 := rnum_any m.step q4
  have CV := conv_kind m.kind q0
  have hws : IntKind.u8.wrap m.kind = m.kind := by rw [IntKind.wrap_u8]; omega
  have hfz := enField_size hg
  have hbd : enBody m.msg = enKind m.kind ++ enNum m.src ++ enNum m.dst ++ enNum m.ses ++ enNum m.step ++ enField m.msg := by
    show (enKind m.kind ++ (enNum m.src ++ (enNum m.dst ++ (enNum m.ses ++ enNum m.step)))) ++ enField m.msg = _
    simp only [ByteArray.append_assoc]
  rw [hbd]
  clear hbd
  have hRd := h
  unfold aMsg
  obtain ⟨kind, src, dst, ses, step, pre, cel, ids, obj, mar, pv, cv, iv, ov⟩ := m
  dsimp only at e1 e2 e3 e4 e5 e6 e7 k1 hW1 q0 N1 N2 N3 N4 CV hws hfz ⊢
  obtain ⟨n1, hn1⟩ : ∃ n, n = pre.length := ⟨_, rfl⟩
  obtain ⟨n2, hn2⟩ : ∃ n, n = cel.length := ⟨_, rfl⟩
  obtain ⟨n3, hn3⟩ : ∃ n, n = ids.length := ⟨_, rfl⟩
  obtain ⟨n4, hn4⟩ : ∃ n, n = obj.length := ⟨_, rfl⟩
  obtain ⟨n5, hn5⟩ : ∃ n, n = mar.refs.length := ⟨_, rfl⟩
  obtain ⟨n6, hn6⟩ : ∃ n, n = mar.toks.length := ⟨_, rfl⟩
  obtain ⟨n7, hn7⟩ : ∃ n, n = mar.tombs.length := ⟨_, rfl⟩
  rw [← hn1] at e1
  rw [← hn2] at e2
  rw [← hn3] at e3
  rw [← hn4] at e4
  rw [← hn5] at e5
  rw [← hn6] at e6
  rw [← hn7] at e7
  subst e1 e2 e3 e4
  rw [e5, e6, e7] at k1 hW1 ⊢
  obtain ⟨r1, r2, r3, r4, r5⟩ := h
  dsimp only at r1 r2 r3 r4 r5
  obtain ⟨hs1, hs2, hs3, hs4⟩ := hs
  dsimp only at hs1 hs2 hs3 hs4
  obtain ⟨TF, hTF⟩ : ∃ t, t = enField ⟨kind, src, dst, ses, step, pre, cel.map (·.c), ids, obj, mar.mk_⟩ := ⟨_, rfl⟩
  have hfz : TF.size ≤ 2200000 := by rw [hTF]; exact hfz
  have hTF2 : TF = enFld kind ⟨pre, cel.map (·.c), ids, obj, mar.mk_⟩ := hTF
  have hok : okFld kind ⟨pre, cel.map (·.c), ids, obj, mar.mk_⟩ := hok
  obtain ⟨t0, ht0⟩ : ∃ t, t = enKind kind := ⟨_, rfl⟩
  obtain ⟨t1, ht1⟩ : ∃ t, t = enNum src := ⟨_, rfl⟩
  obtain ⟨t2, ht2⟩ : ∃ t, t = enNum dst := ⟨_, rfl⟩
  obtain ⟨t3, ht3⟩ : ∃ t, t = enNum ses := ⟨_, rfl⟩
  obtain ⟨t4, ht4⟩ : ∃ t, t = enNum step := ⟨_, rfl⟩
  have s0 : t0.size = 1 := by rw [ht0]; rfl
  have s1 : t1.size = 4 := by rw [ht1]; rfl
  have s2 : t2.size = 4 := by rw [ht2]; rfl
  have s3 : t3.size = 4 := by rw [ht3]; rfl
  have s4 : t4.size = 4 := by rw [ht4]; rfl
  show Calls _ _ _ _ fun e w' => e = .returned (.string (enKind kind ++ enNum src ++ enNum dst ++ enNum ses ++ enNum step ++ enField ⟨kind, src, dst, ses, step, pre, cel.map (·.c), ids, obj, mar.mk_⟩)) ∧ _
  rw [← hTF, ← ht0, ← ht1, ← ht2, ← ht3, ← ht4]
  rw [← ht0] at CV
  rw [← ht1] at N1
  rw [← ht2] at N2
  rw [← ht3] at N3
  rw [← ht4] at N4
  obtain ⟨HD, hHD⟩ : ∃ t, t = t0 ++ t1 ++ t2 ++ t3 ++ t4 := ⟨_, rfl⟩
  have sH : HD.size = 17 := by rw [hHD]; simp only [ByteArray.size_append]; omega
  rw [← hHD]
  have y1 : ¬ (9223372036854775807 < t0.size + t1.size) := by omega
  have y2 : ¬ (9223372036854775807 < t0.size + t1.size + t2.size) := by omega
  have y3 : ¬ (9223372036854775807 < t0.size + t1.size + t2.size + t3.size) := by omega
  have y4 : ¬ (9223372036854775807 < t0.size + t1.size + t2.size + t3.size + t4.size) := by omega
  have N1 := Lib.hid N1
  have N2 := Lib.hid N2
  have N3 := Lib.hid N3
  have N4 := Lib.hid N4
  have HW := Lib.hid hW1
  have HST := Lib.hid (show BSt w #[.int .i64 kind, .int .i64 src, .int .i64 dst, .int .i64 ses, .int .i64 step, .slice o1 n1 f1, .slice o2 n2 f2, .slice o3 n3 f3, .slice o4 n4 f4, .slice o5 n5 f5, .slice o6 n6 f6, .slice o7 n7 f7] W1 from ⟨hb1, k1⟩)
  have HHD := Lib.hid hHD
  have HTF := Lib.hid (And.intro hTF2 (And.intro hok hfz))
  have HN := Lib.hid (And.intro hn1 (And.intro hn2 (And.intro hn3 hn4)))
  have HR := Lib.hid (And.intro r1 (And.intro r2 (And.intro r3 (And.intro r4 r5))))
  have HSm := Lib.hid (And.intro hs1 (And.intro hs2 (And.intro hs3 hs4)))
  have HE := Lib.hid (show aMk mar = .agg #[.slice o5 n5 f5, .slice o6 n6 f6, .slice o7 n7 f7] from by unfold aMk; rw [e5, e6, e7])
  have hl1 : n1 ≤ 1000000 := by rw [hn1]; exact hs1.1
  have hl2 : n2 ≤ 1000000 := by rw [hn2]; exact hs1.2.1
  have hl3 : n3 ≤ 1000000 := by rw [hn3]; exact hs1.2.2.1
  have hl4 : n4 ≤ 1000000 := by rw [hn4]; exact hs1.2.2.2
  have HNL := Lib.hid (And.intro hl1 (And.intro hl2 (And.intro hl3 hl4)))
  clear hW1 hb1 hRd e5 e6 e7 k1 q0 q1 q2 q3 q4 hok hTF hTF2 hfz hHD ht0 ht1 ht2 ht3 ht4 s0 s1 s2 s3 s4 hs1 hs2 hs3 hs4 r1 r2 r3 r4 r5 hn1 hn2 hn3 hn4 hn5 hn6 hn7 hl1 hl2 hl3 hl4 hg
  go_enter Tryz.func21, Tryz.ntmps21
  go_upto_region 1 with (fail)
  rw [← HW.out]
  clear HW
  go_cut [3] from 13 to 33 (fun y3 wx => y3 = .string HD ∧ Hid (BSt w #[.int .i64 kind, .int .i64 src, .int .i64 dst, .int .i64 ses, .int .i64 step, .slice o1 n1 f1, .slice o2 n2 f2, .slice o3 n3 f3, .slice o4 n4 f4, .slice o5 n5 f5, .slice o6 n6 f6, .slice o7 n7 f7] wx))
  case first =>
    have hbd0 : Below W1.heap.size W1 W1.drew := bl_drew (Below.refl _ _)
    have hb00 : Below W1.heap.size W1 W1 := Below.refl _ _
    have KS : ∀ W', Below W1.heap.size W1 W' → (W'.cell? ⟨w.heap.size, 0, none⟩ = some (.int .i64 kind) ∧ W'.cell? ⟨w.heap.size, 1, none⟩ = some (.int .i64 src) ∧ W'.cell? ⟨w.heap.size, 2, none⟩ = some (.int .i64 dst) ∧ W'.cell? ⟨w.heap.size, 3, none⟩ = some (.int .i64 ses) ∧ W'.cell? ⟨w.heap.size, 4, none⟩ = some (.int .i64 step) ∧ W'.cell? ⟨w.heap.size, 5, none⟩ = some (.slice o1 n1 f1) ∧ W'.cell? ⟨w.heap.size, 6, none⟩ = some (.slice o2 n2 f2) ∧ W'.cell? ⟨w.heap.size, 7, none⟩ = some (.slice o3 n3 f3) ∧ W'.cell? ⟨w.heap.size, 8, none⟩ = some (.slice o4 n4 f4) ∧ W'.cell? ⟨w.heap.size, 9, none⟩ = some (.slice o5 n5 f5) ∧ W'.cell? ⟨w.heap.size, 10, none⟩ = some (.slice o6 n6 f6) ∧ W'.cell? ⟨w.heap.size, 11, none⟩ = some (.slice o7 n7 f7)) := fun W' h => ⟨(BlkIs.below HST.out.2 h HST.out.2.lt).cell 0, (BlkIs.below HST.out.2 h HST.out.2.lt).cell 1, (BlkIs.below HST.out.2 h HST.out.2.lt).cell 2, (BlkIs.below HST.out.2 h HST.out.2.lt).cell 3, (BlkIs.below HST.out.2 h HST.out.2.lt).cell 4, (BlkIs.below HST.out.2 h HST.out.2.lt).cell 5, (BlkIs.below HST.out.2 h HST.out.2.lt).cell 6, (BlkIs.below HST.out.2 h HST.out.2.lt).cell 7, (BlkIs.below HST.out.2 h HST.out.2.lt).cell 8, (BlkIs.below HST.out.2 h HST.out.2.lt).cell 9, (BlkIs.below HST.out.2 h HST.out.2.lt).cell 10, (BlkIs.below HST.out.2 h HST.out.2.lt).cell 11⟩
    have KH := Lib.hid KS
    have HF := Lib.hid (fun W' (h : Below W1.heap.size W1 W') => HST.out.later h)
    clear KS
    go_region_held (fun W' => W'.cell? ⟨w.heap.size, 0, none⟩ = some (.int .i64 kind) ∧ W'.cell? ⟨w.heap.size, 1, none⟩ = some (.int .i64 src) ∧ W'.cell? ⟨w.heap.size, 2, none⟩ = some (.int .i64 dst) ∧ W'.cell? ⟨w.heap.size, 3, none⟩ = some (.int .i64 ses) ∧ W'.cell? ⟨w.heap.size, 4, none⟩ = some (.int .i64 step) ∧ W'.cell? ⟨w.heap.size, 5, none⟩ = some (.slice o1 n1 f1) ∧ W'.cell? ⟨w.heap.size, 6, none⟩ = some (.slice o2 n2 f2) ∧ W'.cell? ⟨w.heap.size, 7, none⟩ = some (.slice o3 n3 f3) ∧ W'.cell? ⟨w.heap.size, 8, none⟩ = some (.slice o4 n4 f4) ∧ W'.cell? ⟨w.heap.size, 9, none⟩ = some (.slice o5 n5 f5) ∧ W'.cell? ⟨w.heap.size, 10, none⟩ = some (.slice o6 n6 f6) ∧ W'.cell? ⟨w.heap.size, 11, none⟩ = some (.slice o7 n7 f7)) ((refine KH.out _ ?_; (repeat (first | assumption | refine bl_drew ?_ | refine bl_alloc ?_ (Nat.le_refl _) _))))
      (first
        | (go_at_call 22
           first
             | with_reducible refine (N1.out _).mono ?_
             | with_reducible refine (N2.out _).mono ?_
             | with_reducible refine (N3.out _).mono ?_
             | with_reducible refine (N4.out _).mono ?_
           rintro e w4 ⟨rfl, hb⟩
           first
             | have hcn := carry_new hb
             | have hcn := carry_newd hb
             | have hcn := carry hb (‹_› : World.cell? _ ⟨_, 0, none⟩ = some (.int .u8 _))
             | skip
           have hb4 := Below.trans (show Below W1.heap.size W1 _ by (repeat (first | assumption | refine bl_drew ?_ | refine bl_alloc ?_ (Nat.le_refl _) _))) (hb.mono (Below.size (show Below W1.heap.size W1 _ by (repeat (first | assumption | refine bl_drew ?_ | refine bl_alloc ?_ (Nat.le_refl _) _)))))
           clear hb))
    all_goals (go_wp2_with fail; go_meet; exact ⟨by rw [HHD.out], Lib.hid (HF.out _ (by (repeat (first | assumption | refine bl_drew ?_ | refine bl_alloc ?_ (Nat.le_refl _) _))))⟩)
  case rest =>
    obtain ⟨rfl, HS⟩ := hcut
    clear N1 N2 N3 N4 y1 y2 y3 y4 CV hws HHD HST
    have c0 : wc.cell? ⟨w.heap.size, 0, none⟩ = some (.int .i64 kind) := HS.out.2.cell 0
    by_cases k1 : kind = 1
    · have q : (kind == 1) = true := by rw [k1]; rfl
      have HF2 := Lib.hid (show TF = enMany enText pre by rw [HTF.out.1, k1]; rfl)
      have HNX := Lib.hid (rnum_any (n1 : Int) ⟨by omega, by have := HNL.out; omega⟩)
      have cF : wc.cell? ⟨w.heap.size, 5, none⟩ = some (.slice o1 n1 f1) := HS.out.2.cell 5
      have H1 := Lib.hid k1
      obtain ⟨NX, hNX⟩ : ∃ t, t = enNum (n1 : Int) := ⟨_, rfl⟩
      have hNs : NX.size = 4 := by rw [hNX]; rfl
      have yN : ¬ (9223372036854775807 < HD.size + NX.size) := by omega
      rw [← hNX] at HNX
      have HS0 := Lib.hid (show HD ++ NX = HD ++ upTo enText pre 0 by rw [upTo_zero, hNX, HN.out.1])
      clear hNX hNs k1
      go_wp2_with fail
      refine (HNX.out _).mono ?_
      rintro e w2 ⟨rfl, hb⟩
      have H2 := Lib.hid (HS.out.later hb)
      clear hb c0 cF HS HNX
      go_wp2_with fail
      obtain ⟨S0, hS0⟩ : ∃ s, s = HD ++ NX := ⟨_, rfl⟩
      rw [← hS0] at HS0 ⊢
      clear hS0 yN
      go_loopw [3, 4] (fun s i wr => ∃ (S : ByteArray) (k : Nat), s = .string S ∧ i = .int .i64 (k : Int) ∧ k ≤ n1 ∧ Hid (S = HD ++ upTo enText pre k) ∧ Hid (BSt w #[.int .i64 kind, .int .i64 src, .int .i64 dst, .int .i64 ses, .int .i64 step, .slice o1 n1 f1, .slice o2 n2 f2, .slice o3 n3 f3, .slice o4 n4 f4, .slice o5 n5 f5, .slice o6 n6 f6, .slice o7 n7 f7] wr)) (fun _ i _ => n1 - (RowKit.intOf i).toNat)
      case atStart => exact ⟨S0, 0, rfl, rfl, Nat.zero_le _, HS0, H2⟩
      case round =>
        clear HS0 H2
        obtain ⟨S, k, rfl, rfl, hkl, HS, HB⟩ := hrel
        have c1 : wr.cell? ⟨w.heap.size, 5, none⟩ = some (.slice o1 n1 f1) := HB.out.2.cell 5
        have hnl := HNL.out
        have kw : IntKind.i64.wrap ((k : Int) + 1) = ((k + 1 : Nat) : Int) := IntWalk.i64_in _ (by omega)
        rcases Nat.lt_or_ge k n1 with hlt | hge
        · have ki : (k : Int) < n1 := by omega
          have hkL : k < pre.length := by have := HN.out.1; omega
          obtain ⟨b, off, ha, hblt, hc⟩ := strAt_at HR.out.1 (by omega)
          obtain ⟨x, hx⟩ : ∃ x, x = pre[k] := ⟨_, rfl⟩
          have e0 : wr.cell? ⟨b, off + k, none⟩ = some (.string x) := by
            have := hc k hlt
            rw [getElem!_pos pre k hkL] at this
            rw [HB.out.1.cell hblt, this, hx]
          subst ha
          have hps := upTo_next enText hkL
          have hsu := upTo_succ enText hkL
          have hsz := HTF.out.2.2
          rw [HF2.out] at hsz
          rw [← hx] at hps hsu
          have hxs : x.size ≤ 140737488355328 := by rw [enText_size] at hps; omega
          have T1 := rtext_any x hxs
          obtain ⟨T, hT⟩ : ∃ T, T = enText x := ⟨_, rfl⟩
          rw [← hT] at T1
          have T1 := Lib.hid T1
          have hSz : S.size + T.size ≤ 2200017 := by
            rw [HS.out, hT, ByteArray.size_append, sH]
            omega
          have yT : ¬ (9223372036854775807 < S.size + T.size) := by omega
          have HS5 := Lib.hid (show S ++ T = HD ++ upTo enText pre (k + 1) by rw [hsu, HS.out, hT, ByteArray.append_assoc])
          clear hblt hc hx hkL hps hsu hsz hSz hT hnl
          go_wp2_with fail
          obtain ⟨wq, hwq⟩ : ∃ W, W = wr := ⟨_, rfl⟩
          subst hwq
          refine (T1.out _).mono ?_
          rintro e w4 ⟨rfl, hb⟩
          have HB4 := Lib.hid (HB.out.later hb)
          clear hb T1 e0 c1
          go_wp2_with fail
          exact ⟨⟨_, k + 1, rfl, by simp, by omega, HS5, HB4⟩, by simp [RowKit.intOf]; omega⟩
        · have ki : decide (k < n1) = false := decide_eq_false (by omega)
          obtain rfl : n1 = k := by omega
          go_wp2_with fail
          go_ret
          exact ⟨by rw [HS.out, HF2.out, HN.out.1, upTo_end]; rfl, HB.out.1⟩
    have q1 : (kind == 1) = false := by simpa using k1
    by_cases k2 : kind = 2
    · have q : (kind == 2) = true := by rw [k2]; rfl
      obtain ⟨CL, hCL⟩ : ∃ l, l = cel.map (·.c) := ⟨_, rfl⟩
      have HF2 := Lib.hid (show TF = enMany enCell CL by rw [HTF.out.1, k2, hCL]; rfl)
      have hok := HTF.out.2.1
      rw [k2] at hok
      have HOK := Lib.hid (show ∀ z ∈ cel, okCell z.c from fun z hz => hok.1.2 z.c (List.mem_map.2 ⟨z, hz, rfl⟩))
      have hCl : CL.length = n2 := by rw [hCL, List.length_map, HN.out.2.1]
      have HNX := Lib.hid (rnum_any (n2 : Int) ⟨by omega, by have := HNL.out; omega⟩)
      have cF : wc.cell? ⟨w.heap.size, 6, none⟩ = some (.slice o2 n2 f2) := HS.out.2.cell 6
      obtain ⟨NX, hNX⟩ : ∃ t, t = enNum (n2 : Int) := ⟨_, rfl⟩
      have hNs : NX.size = 4 := by rw [hNX]; rfl
      have yN : ¬ (9223372036854775807 < HD.size + NX.size) := by omega
      rw [← hNX] at HNX
      have HS0 := Lib.hid (show HD ++ NX = HD ++ upTo enCell CL 0 by rw [upTo_zero, hNX, hCl])
      have HCL := Lib.hid (And.intro hCL hCl)
      clear hNX hNs hok hCL hCl k1 k2
      go_wp2_with fail
      refine (HNX.out _).mono ?_
      rintro e w2 ⟨rfl, hb⟩
      have H2 := Lib.hid (HS.out.later hb)
      clear hb c0 cF HS HNX
      go_wp2_with fail
      obtain ⟨S0, hS0⟩ : ∃ s, s = HD ++ NX := ⟨_, rfl⟩
      rw [← hS0] at HS0 ⊢
      clear hS0 yN
      go_loopw [3, 5] (fun s i wr => ∃ (S : ByteArray) (k : Nat), s = .string S ∧ i = .int .i64 (k : Int) ∧ k ≤ n2 ∧ Hid (S = HD ++ upTo enCell CL k) ∧ Hid (BSt w #[.int .i64 kind, .int .i64 src, .int .i64 dst, .int .i64 ses, .int .i64 step, .slice o1 n1 f1, .slice o2 n2 f2, .slice o3 n3 f3, .slice o4 n4 f4, .slice o5 n5 f5, .slice o6 n6 f6, .slice o7 n7 f7] wr)) (fun _ i _ => n2 - (RowKit.intOf i).toNat)
      case atStart => exact ⟨S0, 0, rfl, rfl, Nat.zero_le _, HS0, H2⟩
      case round =>
        clear HS0 H2
        obtain ⟨S, k, rfl, rfl, hkl, HS, HB⟩ := hrel
        have c1' : wr.cell? ⟨w.heap.size, 6, none⟩ = some (.slice o2 n2 f2) := HB.out.2.cell 6
        have hnl := HNL.out
        have kw : IntKind.i64.wrap ((k : Int) + 1) = ((k + 1 : Nat) : Int) := IntWalk.i64_in _ (by omega)
        rcases Nat.lt_or_ge k n2 with hlt | hge
        · have ki : (k : Int) < n2 := by omega
          have hkL : k < cel.length := by have := HN.out.2.1; omega
          have hkC : k < CL.length := by have := HCL.out.2; omega
          obtain ⟨b, off, ha, hblt, hc⟩ := (HR.out.2.1.1.later HB.out.1).at_ (by omega)
          obtain ⟨x, hx⟩ : ∃ x, x = cel[k] := ⟨_, rfl⟩
          have hxC : CL[k] = x.c := by
            have : ∀ (l : List Cp) (h : k < l.length), l = cel.map (·.c) → l[k] = x.c := fun l h e => by subst e; rw [List.getElem_map, hx]
            exact this CL hkC HCL.out.1
          have hokx := HOK.out x (by rw [hx]; exact List.getElem_mem hkL)
          have HR2 := Lib.hid (HR.out.2.1.2 x (by rw [hx]; exact List.getElem_mem hkL))
          have hps := upTo_next enCell hkC
          have hsu := upTo_succ enCell hkC
          have hsz := HTF.out.2.2
          rw [HF2.out] at hsz
          rw [hxC] at hps hsu
          have e0 := hc k hkL 0 _ (by rw [← hx]; rfl)
          have e1 := hc k hkL 1 _ (by rw [← hx]; rfl)
          have e2 := hc k hkL 2 _ (by rw [← hx]; rfl)
          have e3 := hc k hkL 3 _ (by rw [← hx]; rfl)
          have e4 := hc k hkL 4 _ (by rw [← hx]; rfl)
          obtain ⟨⟨c0, c1, c2, li, lk⟩, vi, vk⟩ := x
          obtain ⟨oi, fi, hvi⟩ := StrAt.form HR2.out.1
          obtain ⟨ok, fk, hvk⟩ := StrAt.form HR2.out.2
          dsimp only at hvi hvk e0 e1 e2 e3 e4 hokx hps hsu
          obtain ⟨ni, hni⟩ : ∃ q, q = li.length := ⟨_, rfl⟩
          obtain ⟨nk, hnk⟩ : ∃ q, q = lk.length := ⟨_, rfl⟩
          rw [← hni] at hvi
          rw [← hnk] at hvk
          subst hvi hvk
          rw [show off + k * 5 + 0 = off + k * 5 from rfl] at e0
          subst ha
          have hen := enCell_one ⟨c0, c1, c2, li, lk⟩
          dsimp only at hen
          have T1 := rtext_any c0 (by have := hokx.1; dsimp only at this; omega)
          have T2 := rnum_any c1 hokx.2.1
          obtain ⟨T, hT⟩ : ∃ T, T = enText c0 := ⟨_, rfl⟩
          obtain ⟨N, hN⟩ : ∃ N, N = enNum c1 := ⟨_, rfl⟩
          rw [← hT] at T1 hen
          rw [← hN] at T2 hen
          have T1 := Lib.hid T1
          have T2 := Lib.hid T2
          have HBD := Lib.hid (show (S ++ T ++ N ++ c2 ++ enAll idB li ++ enAll idB lk).size ≤ 2200017 by
            rw [hen] at hps
            rw [HS.out]
            simp only [ByteArray.size_append] at hps ⊢
            omega)
          have HSuc := Lib.hid (show HD ++ upTo enCell CL (k + 1) = S ++ T ++ N ++ c2 ++ enAll idB li ++ enAll idB lk by
            rw [hsu, hen, HS.out]
            simp only [ByteArray.append_assoc])
          have hbd := HBD.out
          simp only [ByteArray.size_append] at hbd
          have hcat1 : ¬ (9223372036854775807 < S.size + T.size) := by omega
          have hcat2 : ¬ (9223372036854775807 < S.size + T.size + N.size) := by omega
          have hcat3 : ¬ (9223372036854775807 < S.size + T.size + N.size + c2.size) := by omega
          have HLN := Lib.hid (And.intro hni hnk)
          have HNL2 := Lib.hid (show ni ≤ 1000000 ∧ nk ≤ 1000000 from by
            rcases hokx.2.2.2 with ⟨-, h1, h2, -⟩ | ⟨h1, h2, h3, -⟩
            · have h1 : li = [] := h1
              have h2 : lk.length = 16 := h2
              rw [hni, hnk, h1, h2]
              exact ⟨by simp, by omega⟩
            · have h2 : lk = [] := h2
              have h3 : (li.length : Int) = c1 := h3
              have h1 : c1 ≤ 8 := h1
              rw [hni, hnk, h2]
              exact ⟨by omega, by simp⟩)
          clear hc hx hkL hkC hxC hokx hps hsu hsz hen hT hN hni hnk hbd hblt hnl
          go_upto_region 15 with (fail)
          obtain ⟨Bc, hBc⟩ : ∃ B, B = wr.heap.size := ⟨_, rfl⟩
          obtain ⟨W2, hW2⟩ : ∃ W, W = wr.alloc (.cells #[.string c0, .int .i64 c1, .string c2, .slice oi ni fi, .slice ok nk fk] 49) := ⟨_, rfl⟩
          have k2 : BlkIs W2 Bc 49 #[.string c0, .int .i64 c1, .string c2, .slice oi ni fi, .slice ok nk fk] := by rw [hW2, hBc]; exact BlkIs.new _ _ _
          have HW2 := Lib.hid (show BSt w #[.int .i64 kind, .int .i64 src, .int .i64 dst, .int .i64 ses, .int .i64 step, .slice o1 n1 f1, .slice (some ⟨b, off, none⟩) n2 f2, .slice o3 n3 f3, .slice o4 n4 f4, .slice o5 n5 f5, .slice o6 n6 f6, .slice o7 n7 f7] W2 from by rw [hW2]; exact HB.out.later ((Below.refl _ _).alloc (Nat.le_refl _) _))
          have x0 : ∀ X : LaterOf W2, X.w.cell? ⟨Bc, 0, none⟩ = some (.string c0) := fun X => (X.blk k2).cell 0
          have x1 : ∀ X : LaterOf W2, X.w.cell? ⟨Bc, 1, none⟩ = some (.int .i64 c1) := fun X => (X.blk k2).cell 1
          have x2 : ∀ X : LaterOf W2, X.w.cell? ⟨Bc, 2, none⟩ = some (.string c2) := fun X => (X.blk k2).cell 2
          have KB := Lib.hid (fun X : LaterOf W2 => (show BSt w #[.int .i64 kind, .int .i64 src, .int .i64 dst, .int .i64 ses, .int .i64 step, .slice o1 n1 f1, .slice (some ⟨b, off, none⟩) n2 f2, .slice o3 n3 f3, .slice o4 n4 f4, .slice o5 n5 f5, .slice o6 n6 f6, .slice o7 n7 f7] X.w ∧ BlkIs X.w Bc 49 #[.string c0, .int .i64 c1, .string c2, .slice oi ni fi, .slice ok nk fk] from ⟨HW2.out.later X.h, X.blk k2⟩))
          rw [← hW2, ← hBc]
          clear hW2 hBc k2 HW2 HB e0 e1 e2 e3 e4 c1'
          refine wp_region_all (fun w' => ∃ x : LaterOf W2, w' = x.w) (by kernel_rfl) (by kernel_rfl) ⟨LaterOf.start W2, rfl⟩ ?_
          repeat (go_big_quiet_step (first | with_reducible exact LaterOf.call _ (T1.out _) | with_reducible exact LaterOf.call _ (T2.out _)))
          refine wpQuiet_nil ?_
          intro w4 hw4
          obtain ⟨X, rfl⟩ := hw4
          have H4 := Lib.hid (KB.out X)
          obtain ⟨w4, hx4⟩ := X
          clear x0 x1 x2 hcat1 hcat2 hcat3 T1 T2 KB
          obtain ⟨S1, hS1⟩ : ∃ s, s = S ++ T ++ N ++ c2 := ⟨_, rfl⟩
          have HS1 := Lib.hid hS1
          rw [← hS1] at HBD
          clear hS1
          go_wp2_with fail
          try rw [← HS1.out]
          go_loopw [3, 7] (fun s i wr => ∃ (S : ByteArray) (j : Nat), s = .string S ∧ i = .int .i64 (j : Int) ∧ j ≤ ni ∧ Hid (S = S1 ++ enAll idB (li.take j)) ∧ Hid (BSt w #[.int .i64 kind, .int .i64 src, .int .i64 dst, .int .i64 ses, .int .i64 step, .slice o1 n1 f1, .slice (some ⟨b, off, none⟩) n2 f2, .slice o3 n3 f3, .slice o4 n4 f4, .slice o5 n5 f5, .slice o6 n6 f6, .slice o7 n7 f7] wr ∧ BlkIs wr Bc 49 #[.string c0, .int .i64 c1, .string c2, .slice oi ni fi, .slice ok nk fk])) (fun _ i _ => ni - (RowKit.intOf i).toNat)
          case atStart => exact ⟨S1, 0, rfl, rfl, Nat.zero_le _, Lib.hid (by rw [List.take_zero]; exact (app_nil _).symm), H4⟩
          case round =>
            obtain ⟨S, j, rfl, rfl, hj, HS, HB⟩ := hrel
            have c1' : wr.cell? ⟨Bc, 3, none⟩ = some (.slice oi ni fi) := HB.out.2.cell 3
            have jw : IntKind.i64.wrap ((j : Int) + 1) = ((j + 1 : Nat) : Int) := IntWalk.i64_in _ (by have := HNL2.out; omega)
            rcases Nat.lt_or_ge j ni with hlt2 | hge2
            · have ji : (j : Int) < ni := by omega
              have hjl : j < li.length := by have := HLN.out.1; omega
              obtain ⟨b3, off3, ha, hblt, hc⟩ := strAt_at HR2.out.1 (by omega)
              obtain ⟨x, hx⟩ : ∃ x, x = li[j] := ⟨_, rfl⟩
              have e0 : wr.cell? ⟨b3, off3 + j, none⟩ = some (.string x) := by
                have := hc j hlt2
                rw [getElem!_pos li j hjl] at this
                rw [HB.out.1.1.cell hblt, this, hx]
              subst ha
              have hnx := enAll_next idB hjl
              have hsn : enAll idB (li.take (j + 1)) = enAll idB (li.take j) ++ idB li[j] := by rw [List.take_succ_eq_append_getElem hjl, enAll_snoc]
              rw [← hx] at hnx hsn
              have hSz : S.size + x.size ≤ 2200017 := by
                have hb := HBD.out
                have e : (idB x).size = x.size := rfl
                rw [HS.out]
                simp only [ByteArray.size_append] at hb ⊢
                omega
              have yT : ¬ (9223372036854775807 < S.size + x.size) := by omega
              have HS5 := Lib.hid (show S ++ x = S1 ++ enAll idB (li.take (j + 1)) by rw [hsn, HS.out, ByteArray.append_assoc]; rfl)
              clear hblt hc hx hjl hnx hsn hSz
              go_wp2_with fail
              exact ⟨⟨_, j + 1, rfl, by simp, by omega, HS5, HB⟩, by simp [RowKit.intOf]; omega⟩
            · have ji : decide (j < ni) = false := decide_eq_false (by omega)
              obtain rfl : ni = j := by omega
              have HSa := Lib.hid (show S = S1 ++ enAll idB li by rw [HS.out, HLN.out.1, List.take_length])
              have HBa := HB
              obtain ⟨Sa, hSa⟩ : ∃ s, s = S := ⟨_, rfl⟩
              go_wp2_with fail
              clear HS HB c1'
              go_loopw [3, 8] (fun s i wr => ∃ (S : ByteArray) (j : Nat), s = .string S ∧ i = .int .i64 (j : Int) ∧ j ≤ nk ∧ Hid (S = S1 ++ enAll idB li ++ enAll idB (lk.take j)) ∧ Hid (BSt w #[.int .i64 kind, .int .i64 src, .int .i64 dst, .int .i64 ses, .int .i64 step, .slice o1 n1 f1, .slice (some ⟨b, off, none⟩) n2 f2, .slice o3 n3 f3, .slice o4 n4 f4, .slice o5 n5 f5, .slice o6 n6 f6, .slice o7 n7 f7] wr ∧ BlkIs wr Bc 49 #[.string c0, .int .i64 c1, .string c2, .slice oi ni fi, .slice ok nk fk])) (fun _ i _ => nk - (RowKit.intOf i).toNat)
              case atStart => exact ⟨S, 0, rfl, rfl, Nat.zero_le _, Lib.hid (by rw [List.take_zero, HSa.out]; exact (app_nil _).symm), HBa⟩
              case round =>
                obtain ⟨S, j, rfl, rfl, hj, HS, HB⟩ := hrel
                have c1' : wr.cell? ⟨Bc, 4, none⟩ = some (.slice ok nk fk) := HB.out.2.cell 4
                have jw : IntKind.i64.wrap ((j : Int) + 1) = ((j + 1 : Nat) : Int) := IntWalk.i64_in _ (by have := HNL2.out; omega)
                rcases Nat.lt_or_ge j nk with hlt2 | hge2
                · have ji : (j : Int) < nk := by omega
                  have hjl : j < lk.length := by have := HLN.out.2; omega
                  obtain ⟨b3, off3, ha, hblt, hc⟩ := strAt_at HR2.out.2 (by omega)
                  obtain ⟨x, hx⟩ : ∃ x, x = lk[j] := ⟨_, rfl⟩
                  have e0 : wr.cell? ⟨b3, off3 + j, none⟩ = some (.string x) := by
                    have := hc j hlt2
                    rw [getElem!_pos lk j hjl] at this
                    rw [HB.out.1.1.cell hblt, this, hx]
                  subst ha
                  have hnx := enAll_next idB hjl
                  have hsn : enAll idB (lk.take (j + 1)) = enAll idB (lk.take j) ++ idB lk[j] := by rw [List.take_succ_eq_append_getElem hjl, enAll_snoc]
                  rw [← hx] at hnx hsn
                  have hSz : S.size + x.size ≤ 2200017 := by
                    have hb := HBD.out
                    have e : (idB x).size = x.size := rfl
                    rw [HS.out]
                    simp only [ByteArray.size_append] at hb ⊢
                    omega
                  have yT : ¬ (9223372036854775807 < S.size + x.size) := by omega
                  have HS5 := Lib.hid (show S ++ x = S1 ++ enAll idB li ++ enAll idB (lk.take (j + 1)) by rw [hsn, HS.out, ByteArray.append_assoc]; rfl)
                  clear hblt hc hx hjl hnx hsn hSz
                  go_wp2_with fail
                  exact ⟨⟨_, j + 1, rfl, by simp, by omega, HS5, HB⟩, by simp [RowKit.intOf]; omega⟩
                · have ji : decide (j < nk) = false := decide_eq_false (by omega)
                  obtain rfl : nk = j := by omega
                  have HSb := Lib.hid (show S = S1 ++ enAll idB li ++ enAll idB lk by rw [HS.out, HLN.out.2, List.take_length])
                  have HBb := HB
                  obtain ⟨Sb, hSb⟩ : ∃ s, s = S := ⟨_, rfl⟩
                  go_wp2_with fail
                  clear HS HB c1'
                  exact ⟨⟨S, k + 1, rfl, by simp, hlt, Lib.hid (by rw [HSb.out, HSuc.out, HS1.out]), Lib.hid HBb.out.1⟩, by simp [RowKit.intOf]; omega⟩
        · have ki : decide (k < n2) = false := decide_eq_false (by omega)
          obtain rfl : n2 = k := by omega
          go_wp2_with fail
          go_ret
          exact ⟨by rw [HS.out, HF2.out, ← HCL.out.2, upTo_end]; rfl, HB.out.1⟩
    have q2 : (kind == 2) = false := by simpa using k2
    by_cases k3 : kind = 3
    · have q : (kind == 3) = true := by rw [k3]; rfl
      have HF2 := Lib.hid (show TF = enMany idB ids by rw [HTF.out.1, k3]; rfl)
      have HNX := Lib.hid (rnum_any (n3 : Int) ⟨by omega, by have := HNL.out; omega⟩)
      have cF : wc.cell? ⟨w.heap.size, 7, none⟩ = some (.slice o3 n3 f3) := HS.out.2.cell 7
      have H3 := Lib.hid k3
      obtain ⟨NX, hNX⟩ : ∃ t, t = enNum (n3 : Int) := ⟨_, rfl⟩
      have hNs : NX.size = 4 := by rw [hNX]; rfl
      have yN : ¬ (9223372036854775807 < HD.size + NX.size) := by omega
      rw [← hNX] at HNX
      have HS0 := Lib.hid (show HD ++ NX = HD ++ upTo idB ids 0 by rw [upTo_zero, hNX, HN.out.2.2.1])
      clear hNX hNs k1 k2 k3
      go_wp2_with fail
      refine (HNX.out _).mono ?_
      rintro e w2 ⟨rfl, hb⟩
      have H2 := Lib.hid (HS.out.later hb)
      clear hb c0 cF HS HNX
      go_wp2_with fail
      obtain ⟨S0, hS0⟩ : ∃ s, s = HD ++ NX := ⟨_, rfl⟩
      rw [← hS0] at HS0 ⊢
      clear hS0 yN
      go_loopw [3, 9] (fun s i wr => ∃ (S : ByteArray) (k : Nat), s = .string S ∧ i = .int .i64 (k : Int) ∧ k ≤ n3 ∧ Hid (S = HD ++ upTo idB ids k) ∧ Hid (BSt w #[.int .i64 kind, .int .i64 src, .int .i64 dst, .int .i64 ses, .int .i64 step, .slice o1 n1 f1, .slice o2 n2 f2, .slice o3 n3 f3, .slice o4 n4 f4, .slice o5 n5 f5, .slice o6 n6 f6, .slice o7 n7 f7] wr)) (fun _ i _ => n3 - (RowKit.intOf i).toNat)
      case atStart => exact ⟨S0, 0, rfl, rfl, Nat.zero_le _, HS0, H2⟩
      case round =>
        clear HS0 H2
        obtain ⟨S, k, rfl, rfl, hkl, HS, HB⟩ := hrel
        have c1 : wr.cell? ⟨w.heap.size, 7, none⟩ = some (.slice o3 n3 f3) := HB.out.2.cell 7
        have hnl := HNL.out
        have kw : IntKind.i64.wrap ((k : Int) + 1) = ((k + 1 : Nat) : Int) := IntWalk.i64_in _ (by omega)
        rcases Nat.lt_or_ge k n3 with hlt | hge
        · have ki : (k : Int) < n3 := by omega
          have hkL : k < ids.length := by have := HN.out.2.2.1; omega
          obtain ⟨b, off, ha, hblt, hc⟩ := strAt_at HR.out.2.2.1 (by omega)
          obtain ⟨x, hx⟩ : ∃ x, x = ids[k] := ⟨_, rfl⟩
          have e0 : wr.cell? ⟨b, off + k, none⟩ = some (.string x) := by
            have := hc k hlt
            rw [getElem!_pos ids k hkL] at this
            rw [HB.out.1.cell hblt, this, hx]
          subst ha
          have hps := upTo_next idB hkL
          have hsu := upTo_succ idB hkL
          have hsz := HTF.out.2.2
          rw [HF2.out] at hsz
          rw [← hx] at hps hsu
          skip
          obtain ⟨T, hT⟩ : ∃ T, T = idB x := ⟨_, rfl⟩
          obtain rfl : T = x := hT
          have hSz : S.size + T.size ≤ 2200017 := by
            rw [HS.out, ByteArray.size_append, sH]
            have : (idB T).size = T.size := rfl
            omega
          have yT : ¬ (9223372036854775807 < S.size + T.size) := by omega
          have HS5 := Lib.hid (show S ++ T = HD ++ upTo idB ids (k + 1) by rw [hsu, HS.out, ByteArray.append_assoc]; rfl)
          clear hblt hc hx hkL hps hsu hsz hSz hnl
          go_wp2_with fail
          exact ⟨⟨_, k + 1, rfl, by simp, by omega, HS5, HB⟩, by simp [RowKit.intOf]; omega⟩
        · have ki : decide (k < n3) = false := decide_eq_false (by omega)
          obtain rfl : n3 = k := by omega
          go_wp2_with fail
          go_ret
          exact ⟨by rw [HS.out, HF2.out, HN.out.2.2.1, upTo_end]; rfl, HB.out.1⟩
    have q3 : (kind == 3) = false := by simpa using k3
    by_cases k4 : kind = 4
    · have q : (kind == 4) = true := by rw [k4]; rfl
      have HF2 := Lib.hid (show TF = enMany enText obj by rw [HTF.out.1, k4]; rfl)
      have HNX := Lib.hid (rnum_any (n4 : Int) ⟨by omega, by have := HNL.out; omega⟩)
      have cF : wc.cell? ⟨w.heap.size, 8, none⟩ = some (.slice o4 n4 f4) := HS.out.2.cell 8
      have H4 := Lib.hid k4
      obtain ⟨NX, hNX⟩ : ∃ t, t = enNum (n4 : Int) := ⟨_, rfl⟩
      have hNs : NX.size = 4 := by rw [hNX]; rfl
      have yN : ¬ (9223372036854775807 < HD.size + NX.size) := by omega
      rw [← hNX] at HNX
      have HS0 := Lib.hid (show HD ++ NX = HD ++ upTo enText obj 0 by rw [upTo_zero, hNX, HN.out.2.2.2])
      clear hNX hNs k1 k2 k3 k4
      go_wp2_with fail
      refine (HNX.out _).mono ?_
      rintro e w2 ⟨rfl, hb⟩
      have H2 := Lib.hid (HS.out.later hb)
      clear hb c0 cF HS HNX
      go_wp2_with fail
      obtain ⟨S0, hS0⟩ : ∃ s, s = HD ++ NX := ⟨_, rfl⟩
      rw [← hS0] at HS0 ⊢
      clear hS0 yN
      go_loopw [3, 10] (fun s i wr => ∃ (S : ByteArray) (k : Nat), s = .string S ∧ i = .int .i64 (k : Int) ∧ k ≤ n4 ∧ Hid (S = HD ++ upTo enText obj k) ∧ Hid (BSt w #[.int .i64 kind, .int .i64 src, .int .i64 dst, .int .i64 ses, .int .i64 step, .slice o1 n1 f1, .slice o2 n2 f2, .slice o3 n3 f3, .slice o4 n4 f4, .slice o5 n5 f5, .slice o6 n6 f6, .slice o7 n7 f7] wr)) (fun _ i _ => n4 - (RowKit.intOf i).toNat)
      case atStart => exact ⟨S0, 0, rfl, rfl, Nat.zero_le _, HS0, H2⟩
      case round =>
        clear HS0 H2
        obtain ⟨S, k, rfl, rfl, hkl, HS, HB⟩ := hrel
        have c1 : wr.cell? ⟨w.heap.size, 8, none⟩ = some (.slice o4 n4 f4) := HB.out.2.cell 8
        have hnl := HNL.out
        have kw : IntKind.i64.wrap ((k : Int) + 1) = ((k + 1 : Nat) : Int) := IntWalk.i64_in _ (by omega)
        rcases Nat.lt_or_ge k n4 with hlt | hge
        · have ki : (k : Int) < n4 := by omega
          have hkL : k < obj.length := by have := HN.out.2.2.2; omega
          obtain ⟨b, off, ha, hblt, hc⟩ := strAt_at HR.out.2.2.2.1 (by omega)
          obtain ⟨x, hx⟩ : ∃ x, x = obj[k] := ⟨_, rfl⟩
          have e0 : wr.cell? ⟨b, off + k, none⟩ = some (.string x) := by
            have := hc k hlt
            rw [getElem!_pos obj k hkL] at this
            rw [HB.out.1.cell hblt, this, hx]
          subst ha
          have hps := upTo_next enText hkL
          have hsu := upTo_succ enText hkL
          have hsz := HTF.out.2.2
          rw [HF2.out] at hsz
          rw [← hx] at hps hsu
          have hxs : x.size ≤ 140737488355328 := by rw [enText_size] at hps; omega
          have T1 := rtext_any x hxs
          obtain ⟨T, hT⟩ : ∃ T, T = enText x := ⟨_, rfl⟩
          rw [← hT] at T1
          have T1 := Lib.hid T1
          have hSz : S.size + T.size ≤ 2200017 := by
            rw [HS.out, hT, ByteArray.size_append, sH]
            omega
          have yT : ¬ (9223372036854775807 < S.size + T.size) := by omega
          have HS5 := Lib.hid (show S ++ T = HD ++ upTo enText obj (k + 1) by rw [hsu, HS.out, hT, ByteArray.append_assoc])
          clear hblt hc hx hkL hps hsu hsz hSz hT hnl
          go_wp2_with fail
          obtain ⟨wq, hwq⟩ : ∃ W, W = wr := ⟨_, rfl⟩
          subst hwq
          refine (T1.out _).mono ?_
          rintro e w4 ⟨rfl, hb⟩
          have HB4 := Lib.hid (HB.out.later hb)
          clear hb T1 e0 c1
          go_wp2_with fail
          exact ⟨⟨_, k + 1, rfl, by simp, by omega, HS5, HB4⟩, by simp [RowKit.intOf]; omega⟩
        · have ki : decide (k < n4) = false := decide_eq_false (by omega)
          obtain rfl : n4 = k := by omega
          go_wp2_with fail
          go_ret
          exact ⟨by rw [HS.out, HF2.out, HN.out.2.2.2, upTo_end]; rfl, HB.out.1⟩
    have q4 : (kind == 4) = false := by simpa using k4
    by_cases k6 : kind = 6
    · have q : (kind == 6) = true := by rw [k6]; rfl
      have hok := HTF.out.2.1
      rw [k6] at hok
      have hgm : goodB mar.mk_ = true := hok.1
      have HF2 := Lib.hid (show TF = enText (enMk mar.mk_) by rw [HTF.out.1, k6]; rfl)
      have EM := fun (W : World) (hr : mar.Reads W) => Mk.rencode_good mar W hr HSm.out.2.1.2.2.2 HSm.out.2.1.2.1 hgm
      rw [HE.out] at EM
      obtain ⟨TM, hTM⟩ : ∃ t, t = enMk mar.mk_ := ⟨_, rfl⟩
      rw [← hTM] at EM
      have hsz := HTF.out.2.2
      rw [HF2.out, ← hTM] at hsz
      have hts : TM.size ≤ 2200000 := by rw [enText_size] at hsz; omega
      have TX := rtext_any TM (by omega)
      obtain ⟨TT, hTT⟩ : ∃ t, t = enText TM := ⟨_, rfl⟩
      rw [← hTT] at TX hsz
      have yT : ¬ (9223372036854775807 < HD.size + TT.size) := by omega
      have TX := Lib.hid TX
      have EM := Lib.hid EM
      have HF3 := Lib.hid (show TF = TT by rw [HF2.out, hTT, hTM])
      have d9 : wc.cell? ⟨w.heap.size, 9, none⟩ = some (.slice o5 n5 f5) := HS.out.2.cell 9
      have d10 : wc.cell? ⟨w.heap.size, 10, none⟩ = some (.slice o6 n6 f6) := HS.out.2.cell 10
      have d11 : wc.cell? ⟨w.heap.size, 11, none⟩ = some (.slice o7 n7 f7) := HS.out.2.cell 11
      clear hok hgm HF2 hTM hsz hts hTT k1 k2 k3 k4 k6
      go_wp2_with fail
      refine (EM.out _ (HR.out.2.2.2.2.later HS.out.1)).mono ?_
      rintro e w2 ⟨rfl, hb⟩
      have H2 := Lib.hid (HS.out.later hb)
      clear hb c0 d9 d10 d11 HS EM
      go_wp2_with fail
      refine (TX.out _).mono ?_
      rintro e w3 ⟨rfl, hb⟩
      have H3 := Lib.hid (H2.out.later hb)
      clear hb H2 TX
      go_wp2_with fail
      go_ret
      exact ⟨by rw [HF3.out]; rfl, H3.out.1⟩
    have q6 : (kind == 6) = false := by simpa using k6
    have HF2 := Lib.hid (show TF = ⟨#[]⟩ by rw [HTF.out.1]; unfold enFld; rw [if_neg k1, if_neg k2, if_neg k3, if_neg k4, if_neg k6])
    clear k1 k2 k3 k4 k6
    go_wp2_with fail
    go_ret
    exact ⟨by rw [HF2.out, app_nil]; rfl, HS.out.1⟩

end Go.Proofs.YtljenganlknhbaaGreat.Fr
