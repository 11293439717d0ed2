/- mark.Live, walked. (Layer 12.) -/
import Derived.Test.YtngflbakmlddeaaGreatMk23
import Derived.Maps.Own
namespace Go.Proofs.YtngflbakmlddeaaGreat.Mk
set_option linter.unusedVariables false
open Go.RowKit Go.Lib
open Oct (Moved)
theorem wpList_update_tok (w : World) {ops : Array Oper} {rest : List Oper} {o : Oper} {a : Act} {Q : Exit → Act → World → Prop} (hg : o.guard = none) (m x v : Operand) (hop : o.op = Op.mapUpdate 102 m x v)
    (b : Nat) (f : Tok → Bool) (hm : a.eval m = .map (some b)) (hown : TokMap w b f) (key : Tok) (val : Bool) (hx : a.eval x = aTok key) (hv : a.eval v = .bool val)
    (hK : ∀ o', TokMap { w with heap := w.heap.setIfInBounds b o' } b (fun y => if eqB y key = true then val else f y) → wpList Tryz.prog ops Q rest (a.put o.dst undef) { w with heap := w.heap.setIfInBounds b o' }) :
    wpList Tryz.prog ops Q (o :: rest) a w := by
  refine wpList_plain hg fun K' hK' => ?_
  obtain ⟨o', hrun, r1⟩ := hown.update key val
  unfold Oper.wp
  simp [execOp, hop, hm, hx, hv, hrun, Result.andThen]
  exact hK' _ _ (hK o' r1)
theorem below_map {B : Nat} {w0 w : World} (h : Below B w0 w) (b : Nat) (o : Obj) (hb : B ≤ b) : Below B w0 { w with heap := w.heap.setIfInBounds b o } :=
  ⟨h.os, h.tape, h.output, by simpa using h.size, fun k hk => by
    have : ({ w with heap := w.heap.setIfInBounds b o } : World).heap[k]? = w.heap[k]? := by
      show (w.heap.setIfInBounds b o)[k]? = _
      rw [Array.getElem?_setIfInBounds, if_neg (by omega)]
    rw [this]
    exact h.block k hk⟩
theorem blk_map {w : World} {g : Nat} {t : TypeId} {cs : Array Value} (h : BlkIs w g t cs) (b : Nat) (o : Obj) (hb : b ≠ g) : BlkIs { w with heap := w.heap.setIfInBounds b o } g t cs := by
  unfold BlkIs at *
  show (w.heap.setIfInBounds b o)[g]? = _
  rw [Array.getElem?_setIfInBounds, if_neg hb]
  exact h
theorem TokMap.ne_blk {w : World} {b g : Nat} {f : Tok → Bool} {t : TypeId} {cs : Array Value} (h : TokMap w b f) (hB : BlkIs w g t cs) : b ≠ g := fun e => by
  obtain ⟨es, c, D, h1, -, -⟩ := h
  subst e
  unfold BlkIs at hB
  rw [hB] at h1
  cases h1
/-- Where Live stands: what the map says. -/
def LiveSt (w : World) (P b : Nat) (cs : Array Value) (f : Tok → Bool) (wr : World) : Prop :=
  Below w.heap.size w wr ∧ BlkIs wr w.heap.size 26 cs ∧ BlkIs wr P 102 #[.map (some b)] ∧ TokMap wr b f
theorem LiveSt.later {w : World} {P b : Nat} {cs : Array Value} {f : Tok → Bool} {wr w' : World} (h : LiveSt w P b cs f wr) (hb : Below wr.heap.size wr w') : LiveSt w P b cs f w' :=
  ⟨h.1.trans (hb.mono h.1.size), BlkIs.below h.2.1 hb h.2.1.lt, BlkIs.below h.2.2.1 hb h.2.2.1.lt, h.2.2.2.below hb h.2.2.2.lt⟩
theorem LiveSt.update {w : World} {P b : Nat} {cs : Array Value} {f g : Tok → Bool} {wr : World} (h : LiveSt w P b cs f wr) (o : Obj) (hb : w.heap.size ≤ b) (hg : TokMap { wr with heap := wr.heap.setIfInBounds b o } b g) : LiveSt w P b cs g { wr with heap := wr.heap.setIfInBounds b o } :=
  ⟨below_map h.1 b o hb, blk_map h.2.1 b o (h.2.2.2.ne_blk h.2.1), blk_map h.2.2.1 b o (h.2.2.2.ne_blk h.2.2.1), hg⟩
theorem LiveSt.congr {w : World} {P b : Nat} {cs : Array Value} {f g : Tok → Bool} {wr : World} (h : LiveSt w P b cs f wr) (hfg : ∀ x, f x = g x) : LiveSt w P b cs g wr := ⟨h.1, h.2.1, h.2.2.1, h.2.2.2.congr hfg⟩
set_option maxRecDepth 100000 in
set_option maxHeartbeats 8000000 in
theorem live_any (m : MkR) (n : Int) (w : World) (h : m.Reads w) (hs : m.Small) : Calls Tryz.prog 19 #[aMk m, .int .i64 n] w fun e w' => ∃ v, e = .returned v ∧ RowAt 3 vTok w' v (liveL m.mk_ n) ∧ Below w.heap.size w w' ∧ (0 < (liveL m.mk_ n).length → ∀ b off n c, v = .slice (some ⟨b, off, none⟩) n c → w.heap.size ≤ b) := by
  obtain ⟨refs, toks, zs, rv, kv, bv⟩ := m
  obtain ⟨h1, h2, h3, h4⟩ := h
  obtain ⟨s1, s2, s3, s4⟩ := hs
  dsimp only at h1 h2 h3 h4 s1 s2 s3 s4
  show Calls Tryz.prog 19 #[.agg #[rv, kv, bv], .int .i64 n] w fun e w' => ∃ v, e = .returned v ∧ RowAt 3 vTok w' v (toks.filter fun x => !covB (zs.map (·.t)) n x) ∧ Below w.heap.size w w' ∧ (0 < (toks.filter fun x => !covB (zs.map (·.t)) n x).length → ∀ b off n c, v = .slice (some ⟨b, off, none⟩) n c → w.heap.size ≤ b)
  obtain ⟨o1, f1, hr1, -, -⟩ := h1.form
  obtain ⟨o2, f2, hr2, -, -⟩ := h2.form
  obtain ⟨o3, f3, hr3, -, -⟩ := h3.form
  obtain ⟨n1, hn1⟩ : ∃ k, k = refs.length := ⟨_, rfl⟩
  obtain ⟨n2, hn2⟩ : ∃ k, k = toks.length := ⟨_, rfl⟩
  obtain ⟨n3, hn3⟩ : ∃ k, k = zs.length := ⟨_, rfl⟩
  rw [← hn1] at hr1
  rw [← hn2] at hr2 s2
  rw [← hn3] at hr3 s3
  subst hr1 hr2 hr3
  obtain ⟨W1, hW1⟩ : ∃ W1, W1 = ((w.alloc (.cells #[.slice o1 n1 f1, .slice o2 n2 f2, .slice o3 n3 f3] 26)).alloc (.map #[] 0)).alloc (.cells #[.map (some (w.heap.size + 1))] 102) := ⟨_, rfl⟩
  have hb1 : Below w.heap.size w W1 := by rw [hW1]; exact (((Below.refl _ _).alloc (Nat.le_refl _) _).alloc (by simp) _).alloc (by simp; omega) _
  have k0 : BlkIs W1 w.heap.size 26 #[.slice o1 n1 f1, .slice o2 n2 f2, .slice o3 n3 f3] := by rw [hW1]; exact ((BlkIs.new _ _ _).alloc _).alloc _
  have k2 : BlkIs W1 (w.heap.size + 2) 102 #[.map (some (w.heap.size + 1))] := by
    rw [hW1]
    have := BlkIs.new ((w.alloc (.cells #[.slice o1 n1 f1, .slice o2 n2 f2, .slice o3 n3 f3] 26)).alloc (.map #[] 0)) 102 #[.map (some (w.heap.size + 1))]
    simpa using this
  have k1 : TokMap W1 (w.heap.size + 1) (fun _ => false) := by
    rw [hW1]
    have := TokMap.fresh (w.alloc (.cells #[.slice o1 n1 f1, .slice o2 n2 f2, .slice o3 n3 f3] 26))
    rw [show (w.alloc (.cells #[.slice o1 n1 f1, .slice o2 n2 f2, .slice o3 n3 f3] 26)).heap.size = w.heap.size + 1 by simp] at this
    exact this.below ((Below.refl _ _).alloc (Nat.le_refl _) _) this.lt
  have H := Lib.hid (And.intro h1 (And.intro h2 (And.intro h3 h4)))
  have HS := Lib.hid s4
  have HN := Lib.hid (And.intro hn1 (And.intro hn2 hn3))
  have HK := Lib.hid (And.intro hb1 (And.intro k0 (And.intro k2 k1)))
  have HW := Lib.hid hW1
  have d2 : W1.cell? ⟨w.heap.size, 2, none⟩ = some (.slice o3 n3 f3) := k0.cell 2
  have hmm := @run_makeMap Tryz.prog
  clear h1 h2 h3 h4 hn1 hn2 hn3 hW1 hb1 k0 k1 k2 s4
  go_enter Tryz.func19, Tryz.ntmps19
  go_wp2_with fail
  obtain ⟨P, hP⟩ : ∃ P, P = w.heap.size + 1 + 1 := ⟨_, rfl⟩
  obtain ⟨b, hb⟩ : ∃ b, b = w.heap.size + 1 := ⟨_, rfl⟩
  rw [← HW.out]
  have hPb : P = b + 1 := by omega
  rw [show w.heap.size + 1 + 1 = P from hP.symm, show w.heap.size + 1 = b from hb.symm]
  have HST := Lib.hid (show LiveSt w P b #[.slice o1 n1 f1, .slice o2 n2 f2, .slice o3 n3 f3] (fun x => covB [] n x) W1 from by
    have hk := HK.out
    rw [show w.heap.size + 2 = P by omega, show w.heap.size + 1 = b from hb.symm] at hk
    exact ⟨hk.1, hk.2.1, hk.2.2.1, hk.2.2.2⟩)
  have HPB := Lib.hid (show w.heap.size < b ∧ b < P from ⟨by omega, by omega⟩)
  clear HK HW hmm d2 hP hb hPb
  go_loopw [14] (fun s wr => ∃ k : Nat, s = .int .i64 (k : Int) ∧ k ≤ n3 ∧ Hid (LiveSt w P b #[.slice o1 n1 f1, .slice o2 n2 f2, .slice o3 n3 f3] (fun x => covB ((zs.map (·.t)).take k) n x) wr)) (fun i _ => n3 - (intOf i).toNat)
  case atStart => exact ⟨0, rfl, Nat.zero_le _, HST⟩
  case round =>
    obtain ⟨k, rfl, hkn, HL⟩ := hrel
    rcases Nat.lt_or_ge k n3 with hlt | hge
    · have ki : (k : Int) < n3 := by omega
      have kw : IntKind.i64.wrap ((k : Int) + 1) = ((k + 1 : Nat) : Int) := IntWalk.i64_in _ (by omega)
      have hkz : k < zs.length := by have := HN.out.2.2; omega
      have hL := HL.out
      obtain ⟨b3, off3, ha3, hlt3, hc3⟩ := (H.out.2.2.1.later hL.1).at_ (by omega)
      obtain ⟨x, hx⟩ : ∃ x, x = zs[k] := ⟨_, rfl⟩
      have hxz : x ∈ zs := by rw [hx]; exact List.getElem_mem hkz
      have HXR := Lib.hid (H.out.2.2.2 x hxz)
      have HXF := Lib.hid (HS.out x hxz)
      have hxr := HXR.out
      have e0 := hc3 k hkz 0 _ (by rw [← hx]; rfl)
      have e1 := hc3 k hkz 1 _ (by rw [← hx]; rfl)
      have e2 := hc3 k hkz 2 _ (by rw [← hx]; rfl)
      have e3 := hc3 k hkz 3 _ (by rw [← hx]; rfl)
      have e4 := hc3 k hkz 4 _ (by rw [← hx]; rfl)
      have hts : (zs.map (·.t))[k]? = some x.t := by rw [List.getElem?_map, List.getElem?_eq_getElem hkz, ← hx]; rfl
      have HTS := Lib.hid hts
      obtain ⟨⟨a0, a1, a2, lc, la⟩, cv, av⟩ := x
      dsimp only at e0 e1 e2 e3 e4
      obtain ⟨oc, fc, hcv, hcl, hcm⟩ := hxr.1.form
      obtain ⟨oa, fa, hav, -, -⟩ := hxr.2.form
      dsimp only at hcv hav hcl
      obtain ⟨nc, hnc⟩ : ∃ q, q = lc.length := ⟨_, rfl⟩
      obtain ⟨na, hna⟩ : ∃ q, q = la.length := ⟨_, rfl⟩
      rw [← hnc] at hcv
      rw [← hna] at hav
      subst hcv hav
      rw [show off3 + k * 5 + 0 = off3 + k * 5 from rfl] at e0
      subst ha3
      have hfc : nc ≤ 1000000 := by have := HXF.out.2; dsimp only at this; omega
      have HNC := Lib.hid (And.intro hnc hna)
      have HKZ := Lib.hid hkz
      clear hL hlt3 hc3 hx hxz hxr hts hcl hcm hnc hna hkz
      go_wp2_with fail
      obtain ⟨X1, hX1⟩ : ∃ X, X = wr.heap.size := ⟨_, rfl⟩
      obtain ⟨W2, hW2⟩ : ∃ W2, W2 = wr.alloc (.cells #[.int .i64 a0, .int .i64 a1, .string a2, .slice oc nc fc, .slice oa na fa] 40) := ⟨_, rfl⟩
      rw [← hX1, ← hW2]
      have HS2 := Lib.hid (show LiveSt w P b #[.slice o1 n1 f1, .slice o2 n2 f2, .slice (some ⟨b3, off3, none⟩) n3 f3] (fun y => midF ((zs.map (·.t)).take k) ⟨a0, a1, a2, lc, la⟩ n 0 y) W2 ∧ BlkIs W2 X1 40 #[.int .i64 a0, .int .i64 a1, .string a2, .slice oc nc fc, .slice oa na fa] from by
        refine ⟨LiveSt.congr (f := fun y => covB ((zs.map (·.t)).take k) n y) ?_ (fun y => midF_zero _ _ _ _), ?_⟩
        · exact HL.out.later (by rw [hW2]; exact (Below.refl _ _).alloc (Nat.le_refl _) _)
        · rw [hW2, hX1]; exact BlkIs.new _ _ _)
      clear hX1 hW2 e0 e1 e2 e3 e4
      clear HL
      go_loopw [21] (fun s w2 => ∃ j : Nat, s = .int .i64 (j : Int) ∧ j ≤ nc ∧ Hid (LiveSt w P b #[.slice o1 n1 f1, .slice o2 n2 f2, .slice (some ⟨b3, off3, none⟩) n3 f3] (fun y => midF ((zs.map (·.t)).take k) ⟨a0, a1, a2, lc, la⟩ n j y) w2 ∧ BlkIs w2 X1 40 #[.int .i64 a0, .int .i64 a1, .string a2, .slice oc nc fc, .slice oa na fa])) (fun i _ => nc - (intOf i).toNat)
      case atStart => exact ⟨0, rfl, Nat.zero_le _, HS2⟩
      case round =>
        clear HS2
        obtain ⟨j, rfl, hjn, HL2⟩ := hrel
        rcases Nat.lt_or_ge j nc with hlt2 | hge2
        · have ji : (j : Int) < nc := by omega
          have jw : IntKind.i64.wrap ((j : Int) + 1) = ((j + 1 : Nat) : Int) := IntWalk.i64_in _ (by omega)
          have hjl : j < lc.length := by have := HNC.out.1; omega
          obtain ⟨b4, off4, ha4, hlt4, hc4⟩ := (HXR.out.1.later HL2.out.1.1).at_ (by omega)
          dsimp only at hc4
          obtain ⟨y, hy⟩ : ∃ y, y = lc[j] := ⟨_, rfl⟩
          have g0 := hc4 j hjl 0 _ (by rw [← hy]; rfl)
          have g1 := hc4 j hjl 1 _ (by rw [← hy]; rfl)
          have g2 := hc4 j hjl 2 _ (by rw [← hy]; rfl)
          have HY := Lib.hid (show lc[j]? = some y by rw [List.getElem?_eq_getElem hjl, ← hy])
          obtain ⟨y0, y1, y2⟩ := y
          dsimp only at g0 g1 g2
          rw [show off4 + j * 3 + 0 = off4 + j * 3 from rfl] at g0
          subst ha4
          clear hlt4 hc4 hy hjl
          obtain ⟨W3, hW3⟩ : ∃ W3, W3 = wr.alloc (.cells #[.int .i64 y0, .int .i64 y1, .string y2] 43) := ⟨_, rfl⟩
          have hb3 : Below wr.heap.size wr W3 := by rw [hW3]; exact (Below.refl _ _).alloc (Nat.le_refl _) _
          have k3 : BlkIs W3 wr.heap.size 43 #[.int .i64 y0, .int .i64 y1, .string y2] := by rw [hW3]; exact BlkIs.new _ _ _
          have L3 := HL2.out.1.later hb3
          have t3 := BlkIs.below HL2.out.2 hb3 HL2.out.2.lt
          have u0 : ∀ X : LaterOf W3, X.w.cell? ⟨wr.heap.size, 0, none⟩ = some (.int .i64 y0) := fun X => (X.blk k3).cell 0
          have u1 : ∀ X : LaterOf W3, X.w.cell? ⟨wr.heap.size, 1, none⟩ = some (.int .i64 y1) := fun X => (X.blk k3).cell 1
          have u2 : ∀ X : LaterOf W3, X.w.cell? ⟨wr.heap.size, 2, none⟩ = some (.string y2) := fun X => (X.blk k3).cell 2
          have v0 : ∀ X : LaterOf W3, X.w.cell? ⟨X1, 0, none⟩ = some (.int .i64 a0) := fun X => (X.blk t3).cell 0
          have v1 : ∀ X : LaterOf W3, X.w.cell? ⟨X1, 1, none⟩ = some (.int .i64 a1) := fun X => (X.blk t3).cell 1
          have v2 : ∀ X : LaterOf W3, X.w.cell? ⟨X1, 2, none⟩ = some (.string a2) := fun X => (X.blk t3).cell 2
          have v3 : ∀ X : LaterOf W3, X.w.cell? ⟨X1, 3, none⟩ = some (.slice (some ⟨b4, off4, none⟩) nc fc) := fun X => (X.blk t3).cell 3
          have v4 : ∀ X : LaterOf W3, X.w.cell? ⟨X1, 4, none⟩ = some (.slice oa na fa) := fun X => (X.blk t3).cell 4
          have p0 : ∀ X : LaterOf W3, X.w.cell? ⟨P, 0, none⟩ = some (.map (some b)) := fun X => (X.blk L3.2.2.1).cell 0
          obtain ⟨q, hq⟩ : ∃ q, q = midF ((zs.map (·.t)).take k) ⟨a0, a1, a2, lc, la⟩ n j ⟨y0, y1, y2⟩ := ⟨_, rfl⟩
          obtain ⟨sb, hsb⟩ : ∃ sb, sb = sureB ⟨a0, a1, a2, lc, la⟩ n := ⟨_, rfl⟩
          have lk : ∀ X : LaterOf W3, (Instr.lookup 102 (.map (some b)) (.agg #[.int .i64 y0, .int .i64 y1, .string y2]) false).run Tryz.prog X.w = .ok (.bool q) X.w := fun X => by
            rw [hq]
            exact (L3.2.2.2.below X.h L3.2.2.2.lt).lookup ⟨y0, y1, y2⟩
          have T1 : ∀ X : LaterOf W3, Calls Tryz.prog 20 #[.agg #[.int .i64 a0, .int .i64 a1, .string a2, .slice (some ⟨b4, off4, none⟩) nc fc, .slice oa na fa], .int .i64 n] X.w fun e w' => e = .returned (.bool sb) ∧ Below X.w.heap.size X.w w' := fun X => by
            rw [hsb]
            exact sure_any ⟨⟨a0, a1, a2, lc, la⟩, .slice (some ⟨b4, off4, none⟩) nc fc, .slice oa na fa⟩ n X.w (HXR.out.later ((L3.1.trans (X.h.mono L3.1.size)))) HXF.out.1
          have T1 := Lib.hid T1
          have H3 := Lib.hid (And.intro L3 t3)
          have HW3 := Lib.hid hW3
          have HQ := Lib.hid hq
          have HSB := Lib.hid hsb
          clear hb3 k3 L3 t3 hq hsb hW3
          go_wp2_with fail
          rw [← HW3.out]
          refine wp_region_heads (fun w' => ∃ x : LaterOf W3, w' = x.w) 10 (by kernel_rfl) (by kernel_rfl) ⟨LaterOf.start W3, rfl⟩ ?_
          simp only [List.take_succ_cons, List.take_zero, List.drop_succ_cons, List.drop_zero]
          cases q
          · repeat (go_big_quiet_step (first | with_reducible exact LaterOf.call _ (T1.out _)))
            refine wpQuiet_nil ?_
            intro w4 hw4
            obtain ⟨X, rfl⟩ := hw4
            have HX := Lib.hid (And.intro (H3.out.1.later X.h) (BlkIs.below H3.out.2 X.h H3.out.2.lt))
            obtain ⟨w4, hx4⟩ := X
            clear u0 u1 u2 v0 v1 v2 v3 v4 p0 lk T1
            refine wpList_update_tok w4 rfl _ _ _ rfl b _ (by rfl) HX.out.1.2.2.2 ⟨y0, y1, y2⟩ sb (by rfl) (by rfl) ?_
            intro o' hT
            have hN : LiveSt w P b #[.slice o1 n1 f1, .slice o2 n2 f2, .slice (some ⟨b3, off3, none⟩) n3 f3] (fun y => midF ((zs.map (·.t)).take k) ⟨a0, a1, a2, lc, la⟩ n (j + 1) y) { w4 with heap := w4.heap.setIfInBounds b o' } :=
              LiveSt.congr (HX.out.1.update o' (Nat.le_of_lt HPB.out.1) hT) (fun y => by
                rw [← midF_step _ _ _ j ⟨y0, y1, y2⟩ HY.out y, ← HQ.out, ← HSB.out]
                rfl)
            have hT5 := blk_map HX.out.2 b o' (HX.out.1.2.2.2.ne_blk HX.out.2)
            obtain ⟨w5, hw5⟩ : ∃ w5 : World, w5 = { w4 with heap := w4.heap.setIfInBounds b o' } := ⟨_, rfl⟩
            rw [← hw5] at hN hT5 ⊢
            have HN5 := Lib.hid (And.intro hN hT5)
            clear hN hT5 hw5 hT
            go_wp2_with fail
            exact ⟨⟨j + 1, by simp, by omega, HN5⟩, by simp [intOf]; omega⟩
          · repeat (go_big_quiet_step (first | with_reducible exact LaterOf.call _ (T1.out _)))
            refine wpQuiet_nil ?_
            intro w4 hw4
            obtain ⟨X, rfl⟩ := hw4
            have HX := Lib.hid (And.intro (H3.out.1.later X.h) (BlkIs.below H3.out.2 X.h H3.out.2.lt))
            obtain ⟨w4, hx4⟩ := X
            clear u0 u1 u2 v0 v1 v2 v3 v4 p0 lk T1
            refine wpList_update_tok w4 rfl _ _ _ rfl b _ (by rfl) HX.out.1.2.2.2 ⟨y0, y1, y2⟩ true (by rfl) (by rfl) ?_
            intro o' hT
            have hN : LiveSt w P b #[.slice o1 n1 f1, .slice o2 n2 f2, .slice (some ⟨b3, off3, none⟩) n3 f3] (fun y => midF ((zs.map (·.t)).take k) ⟨a0, a1, a2, lc, la⟩ n (j + 1) y) { w4 with heap := w4.heap.setIfInBounds b o' } :=
              LiveSt.congr (HX.out.1.update o' (Nat.le_of_lt HPB.out.1) hT) (fun y => by
                rw [← midF_step _ _ _ j ⟨y0, y1, y2⟩ HY.out y, ← HQ.out, ← HSB.out]
                rfl)
            have hT5 := blk_map HX.out.2 b o' (HX.out.1.2.2.2.ne_blk HX.out.2)
            obtain ⟨w5, hw5⟩ : ∃ w5 : World, w5 = { w4 with heap := w4.heap.setIfInBounds b o' } := ⟨_, rfl⟩
            rw [← hw5] at hN hT5 ⊢
            have HN5 := Lib.hid (And.intro hN hT5)
            clear hN hT5 hw5 hT
            go_wp2_with fail
            exact ⟨⟨j + 1, by simp, by omega, HN5⟩, by simp [intOf]; omega⟩
        · have ji : decide (j < nc) = false := decide_eq_false (by omega)
          obtain rfl : nc = j := by omega
          go_wp2_with fail
          refine ⟨⟨k + 1, by simp, by omega, Lib.hid (HL2.out.1.congr fun y => ?_)⟩, by simp [intOf]; omega⟩
          rw [List.take_add_one, HTS.out, HNC.out.1]
          exact midF_end _ _ _ _
    · have ki : decide (k < n3) = false := decide_eq_false (by omega)
      obtain rfl : n3 = k := by omega
      have hL := HL.out
      have d1 : wr.cell? ⟨w.heap.size, 1, none⟩ = some (.slice o2 n2 f2) := hL.2.1.cell 1
      have HC := Lib.hid (clone_tok (.slice o2 n2 f2) toks wr (H.out.2.1.later hL.1) (by have := HN.out.2.1; omega))
      clear hL
      go_wp2_with fail
      refine HC.out.mono ?_
      rintro e w5 ⟨v5, rfl, hs5, hb5⟩
      have hL5 := HL.out.later hb5
      obtain ⟨ao5, c5, hv5, -, -, -⟩ := hs5.form
      have HDL := Lib.hid (del_tok v5 toks wr.heap.size P b (fun x => covB ((zs.map (·.t)).take n3) n x) w5 hs5 hL5.2.2.2 hL5.2.2.1 HL.out.2.2.1.lt HL.out.2.2.2.lt (by have := HN.out.2.1; omega) hb5.size)
      have HB5 := Lib.hid hL5.1
      have HBS := Lib.hid HL.out.1.size
      clear hs5 hb5 hL5 hv5 HC d1
      go_wp2_with fail
      refine HDL.out.mono ?_
      rintro e w6 ⟨v6, rfl, hr6, hb6, hge6⟩
      have H6 := Lib.hid (And.intro hr6 (And.intro (HB5.out.trans (hb6.mono HBS.out)) hge6))
      clear hr6 hb6 hge6
      go_wp2_with fail
      go_ret
      have hr6 := H6.out
      rw [List.take_of_length_le (by rw [List.length_map, ← HN.out.2.2]; exact Nat.le_refl _)] at hr6
      exact ⟨_, rfl, hr6.1, hr6.2.1, fun hn b off n' c hv => Nat.le_trans HBS.out (hr6.2.2 hn b off n' c hv)⟩
end Go.Proofs.YtngflbakmlddeaaGreat.Mk
