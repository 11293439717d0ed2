/- The law MarkNext, walked: what a node lays down next is new, and right marks with it stay right. (Layer 12.) -/
import Derived.Test.YtngflbakmlddeaaGreatMkLaw
import Derived.Test.YtngflbakmlddeaaGreatMkNextLaw
import Derived.Test.YtngflbakmlddeaaGreatMk27
namespace Go.Proofs.YtngflbakmlddeaaGreat.Mk
set_option linter.unusedVariables false
open Go.RowKit
/-- Where the law stands: the list so far, the new token at A + 2. -/
def NtSt (w : World) (cs : Array Value) (A : Nat) (x : Tok) (ao : Option Addr) (n c : Nat) (l : List Tok) (wr : World) : Prop :=
  n = l.length ∧ SlIs wr A 43 3 (.slice ao n c) n (rowCells vTok l) ∧ (Value.slice ao n c).ownBlock ≠ some (A + 1 + 1) ∧ Below w.heap.size w wr ∧ BlkIs wr w.heap.size 26 cs ∧ BlkIs wr (A + 1 + 1) 43 #[.int .i64 x.node, .int .i64 x.n, .string x.id] ∧ w.heap.size < A
theorem NtSt.later {w : World} {cs : Array Value} {A : Nat} {x : Tok} {ao : Option Addr} {n c : Nat} {l : List Tok} {wr w' : World} (h : NtSt w cs A x ao n c l wr) (hb : Below wr.heap.size wr w') : NtSt w cs A x ao n c l w' :=
  ⟨h.1, h.2.1.later hb, h.2.2.1, h.2.2.2.1.trans (hb.mono h.2.2.2.1.size), BlkIs.below h.2.2.2.2.1 hb h.2.2.2.2.1.lt, BlkIs.below h.2.2.2.2.2.1 hb h.2.2.2.2.2.1.lt, h.2.2.2.2.2.2⟩
theorem NtSt.app {w : World} {cs : Array Value} {A : Nat} {x y : Tok} {ao ao' : Option Addr} {n c c' : Nat} {l : List Tok} {wr w' : World} (h : NtSt w cs A x ao n c l wr) (hs : SlIs w' A 43 3 (.slice ao' (n + 1) c') (n + 1) (rowCells vTok l ++ vTok y)) (hg : wr.grownBy w' (Value.slice ao n c).ownBlock)
    {z : Nat} (hat : (Value.slice ao' (n + 1) c').ownBlock = (Value.slice ao n c).ownBlock ∨ (Value.slice ao' (n + 1) c').ownBlock = some z) (hz : A + 1 + 1 < z) : NtSt w cs A x ao' (n + 1) c' (l ++ [y]) w' := by
  obtain ⟨h1, h2, h3, h4, h5, h6, h7⟩ := h
  have ho : ∀ k, (Value.slice ao n c).ownBlock = some k → w.heap.size ≤ k := fun k hk => by have := (h2.lt k hk).1; omega
  refine ⟨by simp [h1], by rw [rowCells_app, rowCells_one]; exact hs, ?_, h4.grown hg h4.size ho, BlkIs.grown h5 hg (fun e => by have := (h2.lt _ e.symm).1; omega), BlkIs.grown h6 hg (fun e => h3 e.symm), h7⟩
  rcases hat with e | e
  · rw [e]; exact h3
  · rw [e]
    intro e
    have e := Option.some.inj e
    omega
set_option maxRecDepth 100000 in
set_option maxHeartbeats 8000000 in
theorem nextlaw_any (m : MkR) (node : Int) (w : World) (h : m.Reads w) : Calls Tryz.prog 7 #[aMk m, .int .i64 node] w fun e w' => e = .returned (.bool true) ∧ Below w.heap.size w w' := by
  have GRm := fun (X : World) (hX : m.Reads X) => great_any m X hX
  have GDm := fun (hs : m.Small) (X : World) (hX : m.Reads X) => good_any m X hX hs.2.2.2
  have NXm := fun (hs : m.Small) (nd : Int) (X : World) (hX : m.Reads X) => next_any m nd X hX hs
  have NAm := fun (hg : goodB m.mk_ = true) (nd : Int) => next_above hg nd
  have NGm := fun (hg : goodB m.mk_ = true) (x : Tok) => next_good hg x
  obtain ⟨refs, toks, zs, rv, kv, bv⟩ := m
  obtain ⟨o1, f1, hr1, -, hx1⟩ := h.1.form
  obtain ⟨o2, f2, hr2, -, hx2⟩ := h.2.1.form
  obtain ⟨o3, f3, hr3, -, hx3⟩ := h.2.2.1.form
  obtain ⟨n1, hn1⟩ : ∃ k, k = refs.length := ⟨_, rfl⟩
  obtain ⟨n2, hn2⟩ : ∃ k, k = toks.length := ⟨_, rfl⟩
  obtain ⟨n3, hn3⟩ : ∃ k, k = zs.length := ⟨_, rfl⟩
  dsimp only at hr1 hr2 hr3
  rw [← hn1] at hr1
  rw [← hn2] at hr2
  rw [← hn3] at hr3
  subst hr1 hr2 hr3
  obtain ⟨MK, hMK⟩ : ∃ MK, MK = MkR.mk_ ⟨refs, toks, zs, .slice o1 n1 f1, .slice o2 n2 f2, .slice o3 n3 f3⟩ := ⟨_, rfl⟩
  rw [← hMK] at GDm NXm NAm NGm
  have HMK := Lib.hid (show MK.refs = refs ∧ MK.toks = toks ∧ MK.tombs = zs.map (·.t) by rw [hMK]; exact ⟨rfl, rfl, rfl⟩)
  obtain ⟨W1, hW1⟩ : ∃ W1, W1 = w.alloc (.cells #[.slice o1 n1 f1, .slice o2 n2 f2, .slice o3 n3 f3] 26) := ⟨_, rfl⟩
  have hb1 : Below w.heap.size w W1 := by rw [hW1]; exact (Below.refl _ _).alloc (Nat.le_refl _) _
  have k1 : BlkIs W1 w.heap.size 26 #[.slice o1 n1 f1, .slice o2 n2 f2, .slice o3 n3 f3] := by rw [hW1]; exact BlkIs.new _ _ _
  have hr := h.later hb1
  have GR := Lib.hid (fun X : LaterOf W1 => GRm X.w (hr.later X.h))
  have GD := Lib.hid (fun hs (X : LaterOf W1) => GDm hs X.w (hr.later X.h))
  have NX := Lib.hid (fun hs nd (X : LaterOf W1) => NXm hs nd X.w (hr.later X.h))
  have NA := Lib.hid NAm
  have NG := Lib.hid NGm
  have H := Lib.hid h
  have HN := Lib.hid (And.intro hn1 (And.intro hn2 hn3))
  have K1 := Lib.hid k1
  dsimp only [aMk] at GR GD NX ⊢
  have u0 : ∀ X : LaterOf W1, X.w.cell? ⟨w.heap.size, 0, none⟩ = some (.slice o1 n1 f1) := fun X => (X.blk k1).cell 0
  have u1 : ∀ X : LaterOf W1, X.w.cell? ⟨w.heap.size, 1, none⟩ = some (.slice o2 n2 f2) := fun X => (X.blk k1).cell 1
  have u2 : ∀ X : LaterOf W1, X.w.cell? ⟨w.heap.size, 2, none⟩ = some (.slice o3 n3 f3) := fun X => (X.blk k1).cell 2
  have z0 : ∀ X : LaterOf W1, w.heap.size < X.w.heap.size := fun X => (X.blk k1).lt
  have HB := Lib.hid (fun X : LaterOf W1 => hb1.trans (X.h.mono hb1.size))
  have HW := Lib.hid hW1
  clear GRm GDm NXm NAm NGm hMK h hr k1 hb1 hW1 hx1 hx2 hx3 hn1 hn2 hn3
  obtain ⟨u, hu, hu1⟩ : ∃ u : Nat, IntKind.u64.wrap node = (u : Int) ∧ u < 18446744073709551616 := by
    refine ⟨(IntKind.u64.wrap node).toNat, ?_, ?_⟩
    · rw [IntKind.wrap_u64]; omega
    · rw [IntKind.wrap_u64]; omega
  obtain ⟨v, hv, hv1⟩ : ∃ v : Nat, (u : Int) % 7 = (v : Int) ∧ v < 7 := ⟨u % 7, by omega, Nat.mod_lt _ (by omega)⟩
  have hwv : wrap64 (v : Int) = (v : Int) := by unfold wrap64; omega
  go_enter Tryz.func7, Tryz.ntmps7
  go_wp2_with fail
  rw [← HW.out]
  clear HW
  obtain ⟨X, hX⟩ := LaterOf.at_ W1
  rw [hX]
  refine (LaterOf.call X (awake_any X.w)).mono ?_
  clear hX
  rintro e _ ⟨rfl, X, rfl⟩
  go_wp2_with fail
  refine (GR.out X).mono ?_
  rintro e w' ⟨⟨v, rfl, hlow⟩, hb⟩
  obtain ⟨X, rfl⟩ := X.next hb
  clear hb GR
  cases v
  case true =>
    clear hlow
    go_wp2_with fail
    go_ret
    exact ⟨rfl, HB.out X⟩
  have hs := Lib.hid ((hlow rfl))
  clear hlow
  go_wp2_with fail
  refine (GD.out hs.out.small X).mono ?_
  rintro e w' ⟨rfl, hb⟩
  obtain ⟨X, rfl⟩ := X.next hb
  clear hb GD
  cases hg : goodB MK
  case false =>
    clear hg
    go_wp2_with fail
    go_ret
    exact ⟨rfl, HB.out X⟩
  have HG := Lib.hid hg
  clear hg
  go_wp2_with fail
  obtain ⟨nd, hnd⟩ : ∃ nd : Int, nd = 1 + (v : Int) := ⟨_, rfl⟩
  rw [← hnd]
  have HND := Lib.hid (show 1 ≤ nd ∧ nd ≤ 7 from ⟨by omega, by omega⟩)
  clear hu hu1 hv hwv hnd hv1
  refine (NX.out hs.out.small nd X).mono ?_
  rintro e w' ⟨rfl, hb⟩
  obtain ⟨X, rfl⟩ := X.next hb
  clear hb NX
  have NA2 := NA.out HG.out nd
  obtain ⟨N, hN⟩ : ∃ N, N = nextL MK nd := ⟨_, rfl⟩
  rw [← hN] at NA2 ⊢
  have HNN := Lib.hid hN
  obtain ⟨hN1, hN2, na1, na2⟩ := NA2
  have NA1 := Lib.hid na1
  have NA2 := Lib.hid na2
  have q1 : decide (N < 1) = false := decide_eq_false (by omega)
  clear na1 na2 NA hN
  obtain ⟨Z, hZ⟩ : ∃ Z : Array Value, Z = (bcells (zeros 32)).toArray := ⟨_, rfl⟩
  obtain ⟨id, hid⟩ : ∃ id : ByteArray, id = ⟨(zeros 32).toArray⟩ := ⟨_, rfl⟩
  obtain ⟨A, hA⟩ : ∃ A, A = X.w.heap.size := ⟨_, rfl⟩
  have M1 : (Instr.makeSlice 55 (.int .i64 32) (.int .i64 32)).run Tryz.prog (X.w.alloc (.cells #[] 43)) = .ok (.slice (some ⟨A + 1, 0, none⟩) 32 32) ((X.w.alloc (.cells #[] 43)).alloc (.cells Z 5)) := by
    have := mk_zeros 32 (.inr rfl) (X.w.alloc (.cells #[] 43))
    rw [show (X.w.alloc (.cells #[] 43)).heap.size = A + 1 by rw [hA]; simp, ← hZ] at this
    exact this
  have C1 : (convert 55 9 (.slice (some ⟨A + 1, 0, none⟩) 32 32)).run Tryz.prog ((X.w.alloc (.cells #[] 43)).alloc (.cells Z 5)) = .ok (.string id) ((X.w.alloc (.cells #[] 43)).alloc (.cells Z 5)) := by
    have := conv_zeros 32 (.inr rfl) (X.w.alloc (.cells #[] 43)) _ (Below.refl _ _)
    rw [show (X.w.alloc (.cells #[] 43)).heap.size = A + 1 by rw [hA]; simp, ← hZ, ← hid] at this
    exact this
  have HID := Lib.hid (show id.size = 32 by rw [hid]; rfl)
  obtain ⟨W3, hW3⟩ : ∃ W3, W3 = ((X.w.alloc (.cells #[] 43)).alloc (.cells Z 5)).alloc (.cells #[.int .i64 nd, .int .i64 N, .string id] 43) := ⟨_, rfl⟩
  have HS0 := Lib.hid (show NtSt w #[.slice o1 n1 f1, .slice o2 n2 f2, .slice o3 n3 f3] A ⟨nd, N, id⟩ (some ⟨A, 0, none⟩) 0 0 [] W3 from by
    have hbX : Below X.w.heap.size X.w W3 := by rw [hW3]; exact (((Below.refl _ _).alloc (Nat.le_refl _) _).alloc (by simp) _).alloc (by simp; omega) _
    refine ⟨rfl, ?_, ?_, (HB.out X).trans (hbX.mono (HB.out X).size), BlkIs.below (X.blk K1.out) hbX (X.blk K1.out).lt, ?_, by rw [hA]; exact z0 X⟩
    · refine SlIs.made (cs := #[]) ?_ (Nat.le_refl _) rfl (by decide)
      rw [hW3, hA]
      exact ((BlkIs.new _ _ _).alloc _).alloc _
    · intro e; have e : A = A + 1 + 1 := Option.some.inj e; omega
    · rw [hW3, hA]; exact BlkIs.new3 _ _ _ _ _)
  have HA := Lib.hid hA
  have HW3 := Lib.hid hW3
  clear hZ hid hW3 K1 hA
  go_wp2_with fail
  rw [← HA.out, ← HW3.out]
  clear M1 C1 HA HW3 q1 u0 u1 u2 z0
  have HNd := HND.out
  go_loopw [6, 7, 9] (fun o p i wr => ∃ (k n c : Nat) (ao : Option Addr) (b : Bool) (l : List Tok), o = .slice ao n c ∧ p = .bool b ∧ i = .int .i64 (k : Int) ∧ k ≤ n2 ∧ Hid (NtSt w #[.slice o1 n1 f1, .slice o2 n2 f2, .slice o3 n3 f3] A ⟨nd, N, id⟩ ao n c l wr ∧ nxAt ⟨nd, N, id⟩ toks k = (l, b))) (fun _ _ i _ => n2 - (intOf i).toNat)
  case atStart => exact ⟨0, 0, 0, some ⟨A, 0, none⟩, false, [], rfl, rfl, rfl, Nat.zero_le _, Lib.hid ⟨HS0.out, nxAt_zero _ _⟩⟩
  case round =>
    obtain ⟨k, n, c, ao, p, l, rfl, rfl, rfl, hkn, HL⟩ := hrel
    clear HS0
    have d0 : wr.cell? ⟨w.heap.size, 1, none⟩ = some (.slice o2 n2 f2) := HL.out.1.2.2.2.2.1.cell 1
    have x0 : wr.cell? ⟨A + 1 + 1, 0, none⟩ = some (.int .i64 nd) := HL.out.1.2.2.2.2.2.1.cell 0
    have x1 : wr.cell? ⟨A + 1 + 1, 1, none⟩ = some (.int .i64 N) := HL.out.1.2.2.2.2.2.1.cell 1
    have x2 : wr.cell? ⟨A + 1 + 1, 2, none⟩ = some (.string id) := HL.out.1.2.2.2.2.2.1.cell 2
    have hnl : n ≤ k + 1 := by
      have h1 := nxAt_len ⟨nd, N, id⟩ toks k (by have := HN.out.2.1; omega)
      rw [HL.out.2] at h1
      have h2 := HL.out.1.1
      have h3 : (if p = true then 1 else 0) ≤ 1 := by split <;> omega
      dsimp only at h1
      omega
    have hnm : n2 ≤ 300 := by have h1 := hs.out.2.1; have h2 := HN.out.2.1; dsimp only at h1; omega
    rcases Nat.lt_or_ge k n2 with hlt | hge
    · have ki : (k : Int) < n2 := by omega
      have kw : IntKind.i64.wrap ((k : Int) + 1) = ((k + 1 : Nat) : Int) := IntWalk.i64_in _ (by omega)
      have hkl : k < toks.length := by have := HN.out.2.1; omega
      obtain ⟨b, off, ha, hblt, hc⟩ := (H.out.2.1.later HL.out.1.2.2.2.1).at_ (by omega)
      dsimp only at hc
      obtain ⟨y, hy⟩ : ∃ y, y = toks[k] := ⟨_, rfl⟩
      have e0 := hc k hkl 0 _ (by rw [← hy]; rfl)
      have e1 := hc k hkl 1 _ (by rw [← hy]; rfl)
      have e2 := hc k hkl 2 _ (by rw [← hy]; rfl)
      have HE := Lib.hid (fun W (hb : Below w.heap.size w W) j u (hu : (vTok y)[j]? = some u) => (show W.cell? ⟨b, off + k * 3 + j, none⟩ = some u from by
        obtain ⟨b', off', ha', -, hc'⟩ := (H.out.2.1.later hb).at_ (by omega)
        rw [ha] at ha'
        injection ha' with ha'
        injection ha' with e1 e2
        subst e1 e2
        exact hc' k hkl j u (by rw [← hy]; exact hu)))
      have hst := nxAt_succ ⟨nd, N, id⟩ toks hkl
      rw [HL.out.2, ← hy] at hst
      have hym : y ∈ MK.toks := by rw [HMK.out.2.1, hy]; exact List.getElem_mem hkl
      have hab := NA1.out y hym
      obtain ⟨a0, a1, a2⟩ := y
      dsimp only at e0 e1 e2 hab
      rw [show off + k * 3 + 0 = off + k * 3 from rfl] at e0
      have HST := Lib.hid hst
      have HSL := Lib.hid HL.out.1
      subst ha
      clear hblt hc hy hkl hst hym HL
      by_cases q2 : nd < a0
      · have q1 : (a0 == nd) = false := by simp; omega
        clear hab
        cases p
        · have hst2 : nxAt ⟨nd, N, id⟩ toks (k + 1) = (l ++ [⟨nd, N, id⟩] ++ [⟨a0, a1, a2⟩], true) := by rw [HST.out]; unfold nxStep; rw [if_pos ⟨rfl, q2⟩]
          have HS2 := Lib.hid hst2
          clear hst2 HST
          have Hsl := Lib.hid HSL.out.2.1
          have hn1 : n ≤ 2000000 := by omega
          go_wp2_with (at_builtin; refine wpList_append_sl rfl _ _ _ 23 (by rfl) el_tok (base := A) (.slice ao n c) n (rowCells vTok l) (by rfl) (Hsl.out.alloc _) _ 1 [Value.int .i64 nd, Value.int .i64 N, Value.string id] (by rfl) (SrcIs.own Tryz.underlying23 (SlIs.made (base := 0) (BlkIs.new _ _ _) (Nat.zero_le _) rfl (by decide))) (by intro u hu; simp at hu; rcases hu with rfl | rfl | rfl <;> rfl) (by unfold maxLen; omega) (by omega) (by have := HSL.out.2.2.2.2.2.1.lt; simp; omega) ?_)
          intro v5 w4 hs5 hg5 hat5
          obtain ⟨ao4, c4, rfl, -, -, -⟩ := hs5.form
          have HSM := Lib.hid (NtSt.app (y := ⟨nd, N, id⟩) (HSL.out.later ((Below.refl _ _).alloc (Nat.le_refl _) (.cells #[Value.int .i64 nd, Value.int .i64 N, Value.string id] 43))) hs5 hg5 hat5 (by have := HSL.out.2.2.2.2.2.1.lt; omega))
          clear hs5 hg5 hat5 Hsl hn1
          have d1 : w4.cell? ⟨w.heap.size, 1, none⟩ = some (.slice (some ⟨b, off, none⟩) n2 f2) := HSM.out.2.2.2.2.1.cell 1
          have e0 : w4.cell? ⟨b, off + k * 3, none⟩ = some (.int .i64 a0) := HE.out w4 HSM.out.2.2.2.1 0 _ rfl
          have e1 : w4.cell? ⟨b, off + k * 3 + 1, none⟩ = some (.int .i64 a1) := HE.out w4 HSM.out.2.2.2.1 1 _ rfl
          have e2 : w4.cell? ⟨b, off + k * 3 + 2, none⟩ = some (.string a2) := HE.out w4 HSM.out.2.2.2.1 2 _ rfl
          clear d0 x0 x1 x2
          have Hsl := Lib.hid HSM.out.2.1
          have hn1 : (n + 1) ≤ 2000000 := by omega
          go_wp2_with (at_builtin; refine wpList_append_sl rfl _ _ _ 23 (by rfl) el_tok (base := A) (.slice ao4 (n + 1) c4) (n + 1) (rowCells vTok (l ++ [⟨nd, N, id⟩])) (by rfl) (Hsl.out.alloc _) _ 1 [Value.int .i64 a0, Value.int .i64 a1, Value.string a2] (by rfl) (SrcIs.own Tryz.underlying23 (SlIs.made (base := 0) (BlkIs.new _ _ _) (Nat.zero_le _) rfl (by decide))) (by intro u hu; simp at hu; rcases hu with rfl | rfl | rfl <;> rfl) (by unfold maxLen; omega) (by omega) (by have := HSM.out.2.2.2.2.2.1.lt; simp; omega) ?_)
          intro v5 w5 hs5 hg5 hat5
          obtain ⟨ao5, c5, rfl, -, -, -⟩ := hs5.form
          have HSN := Lib.hid (NtSt.app (y := ⟨a0, a1, a2⟩) (HSM.out.later ((Below.refl _ _).alloc (Nat.le_refl _) (.cells #[Value.int .i64 a0, Value.int .i64 a1, Value.string a2] 43))) hs5 hg5 hat5 (by have := HSM.out.2.2.2.2.2.1.lt; omega))
          clear hs5 hg5 hat5 Hsl hn1
          go_wp2_with fail
          exact ⟨⟨k + 1, n + 1 + 1, c5, ao5, true, _, rfl, rfl, by simp, by omega, Lib.hid ⟨HSN.out, HS2.out⟩⟩, by simp [intOf]; omega⟩
        · have hst2 : nxAt ⟨nd, N, id⟩ toks (k + 1) = (l ++ [⟨a0, a1, a2⟩], true) := by rw [HST.out]; unfold nxStep; rw [if_neg (fun h => by cases h.1)]
          have HS2 := Lib.hid hst2
          clear hst2 HST
          have Hsl := Lib.hid HSL.out.2.1
          have hn1 : n ≤ 2000000 := by omega
          go_wp2_with (at_builtin; refine wpList_append_sl rfl _ _ _ 23 (by rfl) el_tok (base := A) (.slice ao n c) n (rowCells vTok l) (by rfl) (Hsl.out.alloc _) _ 1 [Value.int .i64 a0, Value.int .i64 a1, Value.string a2] (by rfl) (SrcIs.own Tryz.underlying23 (SlIs.made (base := 0) (BlkIs.new _ _ _) (Nat.zero_le _) rfl (by decide))) (by intro u hu; simp at hu; rcases hu with rfl | rfl | rfl <;> rfl) (by unfold maxLen; omega) (by omega) (by have := HSL.out.2.2.2.2.2.1.lt; simp; omega) ?_)
          intro v5 w5 hs5 hg5 hat5
          obtain ⟨ao5, c5, rfl, -, -, -⟩ := hs5.form
          have HSN := Lib.hid (NtSt.app (y := ⟨a0, a1, a2⟩) (HSL.out.later ((Below.refl _ _).alloc (Nat.le_refl _) (.cells #[Value.int .i64 a0, Value.int .i64 a1, Value.string a2] 43))) hs5 hg5 hat5 (by have := HSL.out.2.2.2.2.2.1.lt; omega))
          clear hs5 hg5 hat5 Hsl hn1
          go_wp2_with fail
          exact ⟨⟨k + 1, n + 1, c5, ao5, true, _, rfl, rfl, by simp, by omega, Lib.hid ⟨HSN.out, HS2.out⟩⟩, by simp [intOf]; omega⟩
      · have hst2 : nxAt ⟨nd, N, id⟩ toks (k + 1) = (l ++ [⟨a0, a1, a2⟩], p) := by rw [HST.out]; unfold nxStep; rw [if_neg (fun h => q2 h.2)]
        have HS2 := Lib.hid hst2
        have q3 : decide (nd < a0) = false := decide_eq_false q2
        clear hst2 HST q2
        by_cases q : a0 = nd
        · have q4 : decide (N ≤ a1) = false := decide_eq_false (by have := hab q; omega)
          have q1 : (a0 == nd) = true := by simpa using q
          clear q hab
          cases p
          · skip
            have Hsl := Lib.hid HSL.out.2.1
            have hn1 : n ≤ 2000000 := by omega
            go_wp2_with (at_builtin; refine wpList_append_sl rfl _ _ _ 23 (by rfl) el_tok (base := A) (.slice ao n c) n (rowCells vTok l) (by rfl) (Hsl.out.alloc _) _ 1 [Value.int .i64 a0, Value.int .i64 a1, Value.string a2] (by rfl) (SrcIs.own Tryz.underlying23 (SlIs.made (base := 0) (BlkIs.new _ _ _) (Nat.zero_le _) rfl (by decide))) (by intro u hu; simp at hu; rcases hu with rfl | rfl | rfl <;> rfl) (by unfold maxLen; omega) (by omega) (by have := HSL.out.2.2.2.2.2.1.lt; simp; omega) ?_)
            intro v5 w5 hs5 hg5 hat5
            obtain ⟨ao5, c5, rfl, -, -, -⟩ := hs5.form
            have HSN := Lib.hid (NtSt.app (y := ⟨a0, a1, a2⟩) (HSL.out.later ((Below.refl _ _).alloc (Nat.le_refl _) (.cells #[Value.int .i64 a0, Value.int .i64 a1, Value.string a2] 43))) hs5 hg5 hat5 (by have := HSL.out.2.2.2.2.2.1.lt; omega))
            clear hs5 hg5 hat5 Hsl hn1
            go_wp2_with fail
            exact ⟨⟨k + 1, n + 1, c5, ao5, false, _, rfl, rfl, by simp, by omega, Lib.hid ⟨HSN.out, HS2.out⟩⟩, by simp [intOf]; omega⟩
          · skip
            have Hsl := Lib.hid HSL.out.2.1
            have hn1 : n ≤ 2000000 := by omega
            go_wp2_with (at_builtin; refine wpList_append_sl rfl _ _ _ 23 (by rfl) el_tok (base := A) (.slice ao n c) n (rowCells vTok l) (by rfl) (Hsl.out.alloc _) _ 1 [Value.int .i64 a0, Value.int .i64 a1, Value.string a2] (by rfl) (SrcIs.own Tryz.underlying23 (SlIs.made (base := 0) (BlkIs.new _ _ _) (Nat.zero_le _) rfl (by decide))) (by intro u hu; simp at hu; rcases hu with rfl | rfl | rfl <;> rfl) (by unfold maxLen; omega) (by omega) (by have := HSL.out.2.2.2.2.2.1.lt; simp; omega) ?_)
            intro v5 w5 hs5 hg5 hat5
            obtain ⟨ao5, c5, rfl, -, -, -⟩ := hs5.form
            have HSN := Lib.hid (NtSt.app (y := ⟨a0, a1, a2⟩) (HSL.out.later ((Below.refl _ _).alloc (Nat.le_refl _) (.cells #[Value.int .i64 a0, Value.int .i64 a1, Value.string a2] 43))) hs5 hg5 hat5 (by have := HSL.out.2.2.2.2.2.1.lt; omega))
            clear hs5 hg5 hat5 Hsl hn1
            go_wp2_with fail
            exact ⟨⟨k + 1, n + 1, c5, ao5, true, _, rfl, rfl, by simp, by omega, Lib.hid ⟨HSN.out, HS2.out⟩⟩, by simp [intOf]; omega⟩
        · have q1 : (a0 == nd) = false := by simpa using q
          clear q hab
          cases p
          · skip
            have Hsl := Lib.hid HSL.out.2.1
            have hn1 : n ≤ 2000000 := by omega
            go_wp2_with (at_builtin; refine wpList_append_sl rfl _ _ _ 23 (by rfl) el_tok (base := A) (.slice ao n c) n (rowCells vTok l) (by rfl) (Hsl.out.alloc _) _ 1 [Value.int .i64 a0, Value.int .i64 a1, Value.string a2] (by rfl) (SrcIs.own Tryz.underlying23 (SlIs.made (base := 0) (BlkIs.new _ _ _) (Nat.zero_le _) rfl (by decide))) (by intro u hu; simp at hu; rcases hu with rfl | rfl | rfl <;> rfl) (by unfold maxLen; omega) (by omega) (by have := HSL.out.2.2.2.2.2.1.lt; simp; omega) ?_)
            intro v5 w5 hs5 hg5 hat5
            obtain ⟨ao5, c5, rfl, -, -, -⟩ := hs5.form
            have HSN := Lib.hid (NtSt.app (y := ⟨a0, a1, a2⟩) (HSL.out.later ((Below.refl _ _).alloc (Nat.le_refl _) (.cells #[Value.int .i64 a0, Value.int .i64 a1, Value.string a2] 43))) hs5 hg5 hat5 (by have := HSL.out.2.2.2.2.2.1.lt; omega))
            clear hs5 hg5 hat5 Hsl hn1
            go_wp2_with fail
            exact ⟨⟨k + 1, n + 1, c5, ao5, false, _, rfl, rfl, by simp, by omega, Lib.hid ⟨HSN.out, HS2.out⟩⟩, by simp [intOf]; omega⟩
          · skip
            have Hsl := Lib.hid HSL.out.2.1
            have hn1 : n ≤ 2000000 := by omega
            go_wp2_with (at_builtin; refine wpList_append_sl rfl _ _ _ 23 (by rfl) el_tok (base := A) (.slice ao n c) n (rowCells vTok l) (by rfl) (Hsl.out.alloc _) _ 1 [Value.int .i64 a0, Value.int .i64 a1, Value.string a2] (by rfl) (SrcIs.own Tryz.underlying23 (SlIs.made (base := 0) (BlkIs.new _ _ _) (Nat.zero_le _) rfl (by decide))) (by intro u hu; simp at hu; rcases hu with rfl | rfl | rfl <;> rfl) (by unfold maxLen; omega) (by omega) (by have := HSL.out.2.2.2.2.2.1.lt; simp; omega) ?_)
            intro v5 w5 hs5 hg5 hat5
            obtain ⟨ao5, c5, rfl, -, -, -⟩ := hs5.form
            have HSN := Lib.hid (NtSt.app (y := ⟨a0, a1, a2⟩) (HSL.out.later ((Below.refl _ _).alloc (Nat.le_refl _) (.cells #[Value.int .i64 a0, Value.int .i64 a1, Value.string a2] 43))) hs5 hg5 hat5 (by have := HSL.out.2.2.2.2.2.1.lt; omega))
            clear hs5 hg5 hat5 Hsl hn1
            go_wp2_with fail
            exact ⟨⟨k + 1, n + 1, c5, ao5, true, _, rfl, rfl, by simp, by omega, Lib.hid ⟨HSN.out, HS2.out⟩⟩, by simp [intOf]; omega⟩
    · have ki : decide (k < n2) = false := decide_eq_false (by omega)
      obtain rfl : n2 = k := by omega
      have hfin := HL.out.2
      rw [HN.out.2.1] at hfin
      have HSL := Lib.hid HL.out.1
      clear hge HL
      cases p
      · have hou : nxOut ⟨nd, N, id⟩ toks = l ++ [⟨nd, N, id⟩] := by unfold nxOut nxEnd; rw [hfin]; rfl
        have HO := Lib.hid hou
        clear hou hfin
        have Hsl := Lib.hid HSL.out.2.1
        have hn1 : n ≤ 2000000 := by omega
        go_wp2_with (at_builtin; refine wpList_append_sl rfl _ _ _ 23 (by rfl) el_tok (base := A) (.slice ao n c) n (rowCells vTok l) (by rfl) (Hsl.out.alloc _) _ 1 [Value.int .i64 nd, Value.int .i64 N, Value.string id] (by rfl) (SrcIs.own Tryz.underlying23 (SlIs.made (base := 0) (BlkIs.new _ _ _) (Nat.zero_le _) rfl (by decide))) (by intro u hu; simp at hu; rcases hu with rfl | rfl | rfl <;> rfl) (by unfold maxLen; omega) (by omega) (by have := HSL.out.2.2.2.2.2.1.lt; simp; omega) ?_)
        intro v5 w5 hs5 hg5 hat5
        obtain ⟨ao5, c5, rfl, -, -, -⟩ := hs5.form
        have HOU := Lib.hid (NtSt.app (y := ⟨nd, N, id⟩) (HSL.out.later ((Below.refl _ _).alloc (Nat.le_refl _) (.cells #[Value.int .i64 nd, Value.int .i64 N, Value.string id] 43))) hs5 hg5 hat5 (by have := HSL.out.2.2.2.2.2.1.lt; omega))
        clear hs5 hg5 hat5 Hsl hn1
        rw [← HO.out] at HOU
        clear d0 x0 x1 x2 HO
        have d5 : w5.cell? ⟨w.heap.size, 2, none⟩ = some (.slice o3 n3 f3) := HOU.out.2.2.2.2.1.cell 2
        go_wp2_with fail
        clear d5
        obtain ⟨n4, hn4⟩ : ∃ n4, n4 = (n + 1) := ⟨_, rfl⟩
        rw [← hn4] at HOU ⊢
        clear hn4
        go_loopw [10] (fun i wr => ∃ (k : Nat), i = .int .i64 (k : Int) ∧ k ≤ n3 ∧ Hid (NtSt w #[.slice o1 n1 f1, .slice o2 n2 f2, .slice o3 n3 f3] A ⟨nd, N, id⟩ ao5 n4 c5 (nxOut ⟨nd, N, id⟩ toks) wr)) (fun i _ => n3 - (intOf i).toNat)
        case atStart => exact ⟨0, rfl, Nat.zero_le _, HOU⟩
        case round =>
          obtain ⟨k, rfl, hkn, HL⟩ := hrel
          clear HOU
          try clear d0
          have d0 : wr.cell? ⟨w.heap.size, 2, none⟩ = some (.slice o3 n3 f3) := HL.out.2.2.2.2.1.cell 2
          have hnm3 : n3 ≤ 300 := by have h1 := hs.out.2.2.1; have h2 := HN.out.2.2; dsimp only at h1; omega
          rcases Nat.lt_or_ge k n3 with hlt | hge
          · have ki : (k : Int) < n3 := by omega
            have kw : IntKind.i64.wrap ((k : Int) + 1) = ((k + 1 : Nat) : Int) := IntWalk.i64_in _ (by omega)
            have hkl : k < zs.length := by have := HN.out.2.2; omega
            obtain ⟨b, off, ha, hblt, hc⟩ := (H.out.2.2.1.later HL.out.2.2.2.1).at_ (by omega)
            dsimp only at hc
            obtain ⟨y, hy⟩ : ∃ y, y = zs[k] := ⟨_, rfl⟩
            have e0 := hc k hkl 0 _ (by rw [← hy]; rfl)
            have e1 := hc k hkl 1 _ (by rw [← hy]; rfl)
            have hym : y.t ∈ MK.tombs := by rw [HMK.out.2.2, hy]; exact List.mem_map.2 ⟨_, List.getElem_mem hkl, rfl⟩
            have hab := NA2.out y.t hym
            obtain ⟨⟨a0, a1, a2, a3, a4⟩, a5, a6⟩ := y
            dsimp only at e0 e1 hab
            rw [show off + k * 5 + 0 = off + k * 5 from rfl] at e0
            subst ha
            clear hblt hc hy hkl hym
            by_cases q : a0 = nd
            · have q4 : decide (N ≤ a1) = false := decide_eq_false (by have := hab q; omega)
              have q1 : (a0 == nd) = true := by simpa using q
              clear q hab
              go_wp2_with fail
              exact ⟨⟨k + 1, by simp, by omega, HL⟩, by simp [intOf]; omega⟩
            · have q1 : (a0 == nd) = false := by simpa using q
              clear q hab
              go_wp2_with fail
              exact ⟨⟨k + 1, by simp, by omega, HL⟩, by simp [intOf]; omega⟩
          · have ki : decide (k < n3) = false := decide_eq_false (by omega)
            obtain rfl : n3 = k := by omega
            clear hge
            by_cases r1 : 256 < (n4 : Int)
            · go_wp2_with fail
              go_ret
              exact ⟨rfl, HL.out.2.2.2.1⟩
            by_cases r2 : 1073741824 < N
            · go_wp2_with fail
              go_ret
              exact ⟨rfl, HL.out.2.2.2.1⟩
            have hng := NG.out HG.out ⟨nd, N, id⟩ HND.out HNN.out HID.out (by show N ≤ _; omega) (by rw [HMK.out.2.1, ← HL.out.1]; omega)
            rw [HMK.out.1, HMK.out.2.1, HMK.out.2.2] at hng
            have hrd : MkR.Reads wr ⟨refs, nxOut ⟨nd, N, id⟩ toks, zs, .slice o1 n1 f1, .slice ao5 n4 c5, .slice o3 n3 f3⟩ := by
              refine ⟨H.out.1.later HL.out.2.2.2.1, ?_, H.out.2.2.later HL.out.2.2.2.1⟩
              have h1 := HL.out.2.1
              have h2 := HL.out.1
              refine RowAt.of_sl (fun _ => rfl) (base := A) (e := 43) ?_
              rw [← h2]
              exact h1
            have GD := good_any ⟨refs, nxOut ⟨nd, N, id⟩ toks, zs, .slice o1 n1 f1, .slice ao5 n4 c5, .slice o3 n3 f3⟩ wr hrd hs.out.small.2.2.2
            rw [show goodB (MkR.mk_ ⟨refs, nxOut ⟨nd, N, id⟩ toks, zs, .slice o1 n1 f1, .slice ao5 n4 c5, .slice o3 n3 f3⟩) = true from hng] at GD
            dsimp only [aMk] at GD
            have GD := Lib.hid GD
            have d1 : wr.cell? ⟨w.heap.size, 0, none⟩ = some (.slice o1 n1 f1) := HL.out.2.2.2.2.1.cell 0
            clear hng hrd
            go_wp2_with fail
            refine GD.out.mono ?_
            rintro e w9 ⟨rfl, hb⟩
            have HB9 := Lib.hid (HL.out.2.2.2.1.trans (hb.mono HL.out.2.2.2.1.size))
            clear hb
            go_wp2_with fail
            go_ret
            exact ⟨rfl, HB9.out⟩
      · have hou : nxOut ⟨nd, N, id⟩ toks = l := by unfold nxOut nxEnd; rw [hfin]; rfl
        have HOU := HSL
        rw [← hou] at HOU
        clear hou hfin
        have HOU := Lib.hid HOU.out
        clear x0 x1 x2
        have d5 : wr.cell? ⟨w.heap.size, 2, none⟩ = some (.slice o3 n3 f3) := HOU.out.2.2.2.2.1.cell 2
        go_wp2_with fail
        clear d5
        obtain ⟨n4, hn4⟩ : ∃ n4, n4 = n := ⟨_, rfl⟩
        rw [← hn4] at HOU ⊢
        clear hn4
        go_loopw [10] (fun i wr => ∃ (k : Nat), i = .int .i64 (k : Int) ∧ k ≤ n3 ∧ Hid (NtSt w #[.slice o1 n1 f1, .slice o2 n2 f2, .slice o3 n3 f3] A ⟨nd, N, id⟩ ao n4 c (nxOut ⟨nd, N, id⟩ toks) wr)) (fun i _ => n3 - (intOf i).toNat)
        case atStart => exact ⟨0, rfl, Nat.zero_le _, HOU⟩
        case round =>
          obtain ⟨k, rfl, hkn, HL⟩ := hrel
          clear HOU
          try clear d0
          have d0 : wr.cell? ⟨w.heap.size, 2, none⟩ = some (.slice o3 n3 f3) := HL.out.2.2.2.2.1.cell 2
          have hnm3 : n3 ≤ 300 := by have h1 := hs.out.2.2.1; have h2 := HN.out.2.2; dsimp only at h1; omega
          rcases Nat.lt_or_ge k n3 with hlt | hge
          · have ki : (k : Int) < n3 := by omega
            have kw : IntKind.i64.wrap ((k : Int) + 1) = ((k + 1 : Nat) : Int) := IntWalk.i64_in _ (by omega)
            have hkl : k < zs.length := by have := HN.out.2.2; omega
            obtain ⟨b, off, ha, hblt, hc⟩ := (H.out.2.2.1.later HL.out.2.2.2.1).at_ (by omega)
            dsimp only at hc
            obtain ⟨y, hy⟩ : ∃ y, y = zs[k] := ⟨_, rfl⟩
            have e0 := hc k hkl 0 _ (by rw [← hy]; rfl)
            have e1 := hc k hkl 1 _ (by rw [← hy]; rfl)
            have hym : y.t ∈ MK.tombs := by rw [HMK.out.2.2, hy]; exact List.mem_map.2 ⟨_, List.getElem_mem hkl, rfl⟩
            have hab := NA2.out y.t hym
            obtain ⟨⟨a0, a1, a2, a3, a4⟩, a5, a6⟩ := y
            dsimp only at e0 e1 hab
            rw [show off + k * 5 + 0 = off + k * 5 from rfl] at e0
            subst ha
            clear hblt hc hy hkl hym
            by_cases q : a0 = nd
            · have q4 : decide (N ≤ a1) = false := decide_eq_false (by have := hab q; omega)
              have q1 : (a0 == nd) = true := by simpa using q
              clear q hab
              go_wp2_with fail
              exact ⟨⟨k + 1, by simp, by omega, HL⟩, by simp [intOf]; omega⟩
            · have q1 : (a0 == nd) = false := by simpa using q
              clear q hab
              go_wp2_with fail
              exact ⟨⟨k + 1, by simp, by omega, HL⟩, by simp [intOf]; omega⟩
          · have ki : decide (k < n3) = false := decide_eq_false (by omega)
            obtain rfl : n3 = k := by omega
            clear hge
            by_cases r1 : 256 < (n4 : Int)
            · go_wp2_with fail
              go_ret
              exact ⟨rfl, HL.out.2.2.2.1⟩
            by_cases r2 : 1073741824 < N
            · go_wp2_with fail
              go_ret
              exact ⟨rfl, HL.out.2.2.2.1⟩
            have hng := NG.out HG.out ⟨nd, N, id⟩ HND.out HNN.out HID.out (by show N ≤ _; omega) (by rw [HMK.out.2.1, ← HL.out.1]; omega)
            rw [HMK.out.1, HMK.out.2.1, HMK.out.2.2] at hng
            have hrd : MkR.Reads wr ⟨refs, nxOut ⟨nd, N, id⟩ toks, zs, .slice o1 n1 f1, .slice ao n4 c, .slice o3 n3 f3⟩ := by
              refine ⟨H.out.1.later HL.out.2.2.2.1, ?_, H.out.2.2.later HL.out.2.2.2.1⟩
              have h1 := HL.out.2.1
              have h2 := HL.out.1
              refine RowAt.of_sl (fun _ => rfl) (base := A) (e := 43) ?_
              rw [← h2]
              exact h1
            have GD := good_any ⟨refs, nxOut ⟨nd, N, id⟩ toks, zs, .slice o1 n1 f1, .slice ao n4 c, .slice o3 n3 f3⟩ wr hrd hs.out.small.2.2.2
            rw [show goodB (MkR.mk_ ⟨refs, nxOut ⟨nd, N, id⟩ toks, zs, .slice o1 n1 f1, .slice ao n4 c, .slice o3 n3 f3⟩) = true from hng] at GD
            dsimp only [aMk] at GD
            have GD := Lib.hid GD
            have d1 : wr.cell? ⟨w.heap.size, 0, none⟩ = some (.slice o1 n1 f1) := HL.out.2.2.2.2.1.cell 0
            clear hng hrd
            go_wp2_with fail
            refine GD.out.mono ?_
            rintro e w9 ⟨rfl, hb⟩
            have HB9 := Lib.hid (HL.out.2.2.2.1.trans (hb.mono HL.out.2.2.2.1.size))
            clear hb
            go_wp2_with fail
            go_ret
            exact ⟨rfl, HB9.out⟩
end Go.Proofs.YtngflbakmlddeaaGreat.Mk
