/- The law MarkLives, walked: what lives, and which ids must be kept. (Layer 12.) -/
import Derived.Test.YtngflbakmlddeaaGreatMkLaw
import Derived.Test.YtngflbakmlddeaaGreatMkLivesLaw
import Derived.Test.YtngflbakmlddeaaGreatMk27
import Derived.Test.YtngflbakmlddeaaGreatMk35
import Derived.Test.YtngflbakmlddeaaGreatMk26
import Derived.Test.YtngflbakmlddeaaGreatMk29
import Derived.Deep.RegionHeld
import Derived.Deep.CutBlock
import Derived.Deep.CutRange
namespace Go.Proofs.YtngflbakmlddeaaGreat.Mk
set_option linter.unusedVariables false
open Go.RowKit Set Oct
/-- A row of numbers that can be read, as what is appended. -/
theorem srcIs_ints {w : World} {v : Value} {l : List Int} (h : RowAt 1 vInt w v l) : SrcIs Tryz.prog w 38 1 v l.length (rowCells vInt l) := by
  obtain ⟨ao, cap, rfl, -, -, hc⟩ := h
  by_cases h0 : l.length = 0
  · obtain rfl := List.eq_nil_of_length_eq_zero h0
    cases ao with
    | none => exact SrcIs.none_ Tryz.underlying38 w 1 cap
    | some ad => exact SrcIs.cells Tryz.underlying38 w 1 ad 0 cap [] rfl (fun j v hv => by simp at hv)
  · obtain ⟨b, off, rfl, hlt, hx⟩ := hc (by omega)
    refine SrcIs.cells Tryz.underlying38 w 1 ⟨b, off, none⟩ l.length cap _ (by rw [rowCells_len (k := 1) (fun _ => rfl)]) (fun j v hv => ?_)
    have hj : j < l.length := by
      have := (List.getElem?_eq_some_iff.1 hv).1
      rw [rowCells_len (k := 1) (fun _ => rfl)] at this
      omega
    have h1 := rowCells_get (k := 1) (enc := vInt) (fun _ => rfl) l j hj 0 (by omega)
    rw [Nat.mul_one, Nat.add_zero, hv] at h1
    have h2 := hx j hj 0 v h1.symm
    rw [Nat.mul_one, Nat.add_zero] at h2
    rw [← h2]
    congr 1
    unfold Addr.add
    split
    · next he => rw [he]; rfl
    · next he => rfl
/-- Where the law stands in the going that lays an ack more: the marks at Mo. -/
def MoSt (U : World) (Mo : Nat) (r k : Value) (zs : List TbR) (a : Int) (n : Nat) (zs' : List TbR) (ao : Option Addr) (c : Nat) (wr : World) : Prop :=
  Below U.heap.size U wr ∧ U.heap.size ≤ Mo ∧ BlkIs wr Mo 26 #[r, k, .slice ao n c] ∧ SlIs wr (Mo + 1) 40 5 (.slice ao n c) n (rowCells vTb zs') ∧ zs'.length = n ∧ zs'.map (·.t) = ((zs.map (·.t)).take n).map (withAck a) ∧
    ∀ z ∈ zs', SlIs wr (Mo + 1) 3 1 z.av z.t.acks.length (rowCells vInt z.t.acks) ∧ ∃ z0 ∈ zs, z.cv = z0.cv ∧ z.t.cov = z0.t.cov ∧ z.t.acks.length = z0.t.acks.length + 1
/-- The set of ids so far; since w0 nothing else has changed. -/
def WnSt (w0 : World) (g : Nat) (ids : List ByteArray) (wr : World) : Prop := ∃ kv vv l, StrSet wr w0.heap.size g kv vv l ∧ IsOf ids l ∧ l.length ≤ ids.length ∧ Below w0.heap.size w0 wr
theorem WnSt.below {w0 : World} {g : Nat} {ids : List ByteArray} {wr : World} (h : WnSt w0 g ids wr) : Below w0.heap.size w0 wr := by
  obtain ⟨kv, vv, l, h1, h2, h3, h4⟩ := h
  exact h4
theorem WnSt.later {w0 : World} {g : Nat} {ids : List ByteArray} {wr w' : World} (h : WnSt w0 g ids wr) (hb : Below wr.heap.size wr w') : WnSt w0 g ids w' := by
  obtain ⟨kv, vv, l, h1, h2, h3, h4⟩ := h
  exact ⟨kv, vv, l, h1.later hb, h2, h3, h4.trans (hb.mono h4.size)⟩
theorem WnSt.add {w0 : World} {g : Nat} {ids : List ByteArray} {wr : World} (h : WnSt w0 g ids wr) (x : ByteArray) (hn : ids.length < 1000000) :
    Calls Tryz.prog 22 #[.pointer (some ⟨g, 0, none⟩), .string x] wr fun e w' => ∃ b, e = .returned (.bool b) ∧ WnSt w0 g (ids ++ [x]) w' := by
  obtain ⟨kv, vv, l, h1, h2, h3, h4⟩ := h
  refine (add_string _ g kv vv l x wr h1 (by omega)).mono ?_
  rintro e w' ⟨kv', vv', rfl, hs, hc, ho⟩
  have hb : Below w0.heap.size wr w' := hc.below h4.size (fun k hk => (h1.own hk).1)
  refine ⟨_, rfl, kv', vv', _, hs, isOf_ins x h2, ?_, h4.trans hb⟩
  have := @Mk.ins_le x l
  simp only [List.length_append, List.length_singleton]
  omega
set_option maxRecDepth 100000 in
set_option maxHeartbeats 8000000 in
theorem lives_any (m : MkR) (nodes ack : Int) (w : World) (h : m.Reads w) (hnw : (Lit.int .i64 nodes).wf = true) : Calls Tryz.prog 6 #[aMk m, .int .i64 nodes, .int .i64 ack] w fun e w' => e = .returned (.bool true) ∧ Below w.heap.size w w' := by
  have hnr : -9223372036854775808 ≤ nodes ∧ nodes ≤ 9223372036854775807 := by
    simp [Lit.wf, IntKind.min, IntKind.max, IntKind.signed, IntKind.bits] at hnw
    omega
  have GRm := fun (X : World) (hX : m.Reads X) => great_any m X hX
  have LVm := fun (hs : m.Small) (n : Int) (X : World) (hX : m.Reads X) => live_any m n X hX hs
  have RTm := fun (hs : m.Small) (hl : m.refs.length + m.toks.length ≤ 900000) (X : World) (hX : m.Reads X) => roots_any m nodes X hX hs hl
  have LLm : (liveL m.mk_ nodes).length ≤ m.toks.length := List.length_filter_le _ _
  have LUm : (liveL m.mk_ nodes).length ≤ (liveL m.mk_ (nodes + 1)).length := live_up m.mk_ nodes
  obtain ⟨P, hP⟩ : ∃ P : Tok → Bool, P = fun x => covB m.mk_.tombs nodes x := ⟨_, rfl⟩
  have hPe : ∀ x, P x = covB (m.tombs.map (·.t)) nodes x := fun x => by rw [hP]; rfl
  obtain ⟨LV, hLV⟩ : ∃ LV, LV = liveL m.mk_ nodes := ⟨_, rfl⟩
  have hLP : LV = m.toks.filter (fun x => !P x) := by rw [hLV, hP]; rfl
  obtain ⟨RT, hRT⟩ : ∃ RT, RT = rootIds m.mk_ nodes := ⟨_, rfl⟩
  have hRTe : RT = m.refs.map (·.id) ++ LV.map (·.id) := by rw [hRT, hLV]; rfl
  have hMOm : ∀ m' : MkR, m'.toks = m.toks → m'.mk_.tombs = (m.tombs.map (·.t)).map (withAck ack) → (liveL m'.mk_ nodes).length ≤ LV.length := fun m' h1 h2 => by
    rw [hLV]; exact live_more m.mk_ m'.mk_ ack nodes h1 h2
  rw [← hLV] at LLm LUm
  rw [← hRT] at RTm
  have LV1 := fun (hs : m.Small) (X : World) (hX : m.Reads X) => LVm hs nodes X hX
  have LV2 := fun (hs : m.Small) (X : World) (hX : m.Reads X) => LVm hs (nodes + 1) X hX
  rw [← hLV] at LV1
  clear LVm hP hLV hRT
  obtain ⟨refs, toks, zs, rv, kv, bv⟩ := m
  obtain ⟨o1, f1, hr1, hg1, hx1⟩ := h.1.form
  obtain ⟨o2, f2, hr2, -, hx2⟩ := h.2.1.form
  obtain ⟨o3, f3, hr3, -, hx3⟩ := h.2.2.1.form
  obtain ⟨n1, hn1⟩ : ∃ k, k = refs.length := ⟨_, rfl⟩
  obtain ⟨n2, hn2⟩ : ∃ k, k = toks.length := ⟨_, rfl⟩
  obtain ⟨n3, hn3⟩ : ∃ k, k = zs.length := ⟨_, rfl⟩
  dsimp only at hr1 hr2 hr3 LLm RTm hPe hLP hRTe hMOm
  rw [← hn1] at hr1
  rw [← hn2] at hr2 LLm
  rw [← hn3] at hr3
  subst hr1 hr2 hr3
  dsimp only [aMk] at GRm LV1 LV2 RTm ⊢
  obtain ⟨W1, hW1⟩ : ∃ W1, W1 = w.alloc (.cells #[.slice o1 n1 f1, .slice o2 n2 f2, .slice o3 n3 f3] 26) := ⟨_, rfl⟩
  have hb1 : Below w.heap.size w W1 := by rw [hW1]; exact (Below.refl _ _).alloc (Nat.le_refl _) _
  have k1 : BlkIs W1 w.heap.size 26 #[.slice o1 n1 f1, .slice o2 n2 f2, .slice o3 n3 f3] := by rw [hW1]; exact BlkIs.new _ _ _
  have hr := h.later hb1
  have GR := Lib.hid (fun X : LaterOf W1 => GRm X.w (hr.later X.h))
  have LV1 := Lib.hid (fun hs (X : LaterOf W1) => LV1 hs X.w (hr.later X.h))
  have LV2 := Lib.hid (fun hs (X : LaterOf W1) => LV2 hs X.w (hr.later X.h))
  have RTT := Lib.hid (fun hs hl (X : LaterOf W1) => RTm hs hl X.w (hr.later X.h))
  have HL := Lib.hid (And.intro LLm LUm)
  have H := Lib.hid hr
  have HN := Lib.hid (And.intro hn1 (And.intro hn2 hn3))
  have HP := Lib.hid (And.intro hPe (And.intro hLP (And.intro hRTe hMOm)))
  have u0 : ∀ X : LaterOf W1, X.w.cell? ⟨w.heap.size, 0, none⟩ = some (.slice o1 n1 f1) := fun X => (X.blk k1).cell 0
  have u1 : ∀ X : LaterOf W1, X.w.cell? ⟨w.heap.size, 1, none⟩ = some (.slice o2 n2 f2) := fun X => (X.blk k1).cell 1
  have u2 : ∀ X : LaterOf W1, X.w.cell? ⟨w.heap.size, 2, none⟩ = some (.slice o3 n3 f3) := fun X => (X.blk k1).cell 2
  have HB := Lib.hid (fun X : LaterOf W1 => hb1.trans (X.h.mono hb1.size))
  have HK1 := Lib.hid k1
  have HW := Lib.hid hW1
  have HNR := Lib.hid hnr
  clear GRm RTm LLm LUm h hr k1 hb1 hW1 hx1 hx2 hx3 hn1 hn2 hn3 hPe hLP hRTe hMOm hnr hnw
  go_enter Tryz.func6, Tryz.ntmps6
  go_wp2_with fail
  rw [← HW.out]
  clear HW
  obtain ⟨X, hX⟩ := LaterOf.at_ W1
  rw [hX]
  refine (LaterOf.call X (awake_any X.w)).mono ?_
  clear hX
  rintro e _ ⟨rfl, X, rfl⟩
  go_wp2_with fail
  refine (GR.out X).mono ?_
  rintro e w' ⟨⟨v, rfl, hlow⟩, hb⟩
  obtain ⟨X, rfl⟩ := X.next hb
  clear hb GR
  cases v
  case true =>
    clear hlow
    go_wp2_with fail
    go_ret
    exact ⟨rfl, HB.out X⟩
  have hs := Lib.hid (hlow rfl)
  clear hlow
  have hnm2 : n2 ≤ 300 := by have h1 := hs.out.2.1; have h2 := HN.out.2.1; dsimp only at h1; omega
  have hnm3 : n3 ≤ 300 := by have h1 := hs.out.2.2.1; have h2 := HN.out.2.2; dsimp only at h1; omega
  have hnm1 : n1 ≤ 300 := by have h1 := hs.out.1; have h2 := HN.out.1; dsimp only at h1; omega
  have HNM := Lib.hid (And.intro hnm1 (And.intro hnm2 hnm3))
  by_cases hmx : nodes = 9223372036854775807
  case pos =>
    have q0 : (nodes == 9223372036854775807) = true := by simpa using hmx
    clear hmx
    go_wp2_with fail
    go_ret
    exact ⟨rfl, HB.out X⟩
  have q0 : (nodes == 9223372036854775807) = false := by simpa using hmx
  have hwn : IntKind.i64.wrap (nodes + 1) = nodes + 1 := IntWalk.i64_in _ (by have := HNR.out; omega)
  have HWN := Lib.hid hwn
  clear hmx HNR hwn
  go_wp2_with fail
  refine (LV1.out hs.out.small X).mono ?_
  rintro e V ⟨v, rfl, hv, hb, -⟩
  obtain ⟨oL, fL, hq, -, hfL⟩ := hv.form
  obtain ⟨nL, hnL⟩ : ∃ k, k = LV.length := ⟨_, rfl⟩
  rw [← hnL] at hq
  subst hq
  have hbV : Below W1.heap.size W1 V := X.h.trans (hb.mono X.h.size)
  have HVR := Lib.hid (And.intro hv hnL)
  have UP := Lib.hid hbV
  have v0 : ∀ X : LaterOf V, X.w.cell? ⟨w.heap.size, 0, none⟩ = some (.slice o1 n1 f1) := fun X => u0 ⟨X.w, hbV.trans (X.h.mono hbV.size)⟩
  have v1 : ∀ X : LaterOf V, X.w.cell? ⟨w.heap.size, 1, none⟩ = some (.slice o2 n2 f2) := fun X => u1 ⟨X.w, hbV.trans (X.h.mono hbV.size)⟩
  have v2 : ∀ X : LaterOf V, X.w.cell? ⟨w.heap.size, 2, none⟩ = some (.slice o3 n3 f3) := fun X => u2 ⟨X.w, hbV.trans (X.h.mono hbV.size)⟩
  have hnLm : nL ≤ 300 := by have h1 := HL.out.1; omega
  obtain ⟨X', hX'⟩ := LaterOf.at_ V
  rw [hX']
  have HXV := Lib.hid hX'
  clear u0 u1 u2 LV1 hv hb hnL hbV hfL hX'
  go_upto_block 0 with (fail)
  go_cut [8, 9, 10, 11, 12] from 30 to 101 (fun lv y9 y10 y11 y12 wx => ∃ U : LaterOf V, lv = .int .i64 (nL : Int) ∧ U.w = wx)
  case first =>
    go_wp2_with fail
    go_loopw [8, 9] (fun lv i wr => ∃ (k q : Nat) (U : LaterOf V), lv = .int .i64 (q : Int) ∧ i = .int .i64 (k : Int) ∧ k ≤ n2 ∧ q ≤ k ∧ Hid (q = ((toks.take k).filter (fun x => !P x)).length) ∧ U.w = wr) (fun _ i _ => n2 - (intOf i).toNat)
    case atStart => exact ⟨0, 0, X', rfl, rfl, Nat.zero_le _, Nat.zero_le _, Lib.hid rfl, rfl⟩
    case round =>
      obtain ⟨k, q, U, rfl, rfl, hkn, hqk, HQ, rfl⟩ := hrel
      have kw : IntKind.i64.wrap ((k : Int) + 1) = ((k + 1 : Nat) : Int) := IntWalk.i64_in _ (by omega)
      rcases Nat.lt_or_ge k n2 with hlt | hge
      · have ki : (k : Int) < n2 := by omega
        have hkl : k < toks.length := by have := HN.out; omega
        obtain ⟨b, off, ha, hblt, hc⟩ := H.out.2.1.at_ (by omega)
        obtain ⟨y, hy⟩ : ∃ y, y = toks[k] := ⟨_, rfl⟩
        have y0 := hc k hkl 0 _ (by rw [← hy]; rfl)
        have y1 := hc k hkl 1 _ (by rw [← hy]; rfl)
        have y2 := hc k hkl 2 _ (by rw [← hy]; rfl)
        have hsn := filter_snoc (fun x => !P x) toks hkl
        have hat := fun hp => filter_at (fun x => !P x) toks hkl hp
        rw [← hy, ← HQ.out] at hsn hat
        rw [← HP.out.2.1] at hat
        have HSN := Lib.hid hsn
        have HAT := Lib.hid hat
        have HY := Lib.hid (show y = y from rfl)
        obtain ⟨yy, hyy⟩ : ∃ yy : Tok, yy = y := ⟨_, rfl⟩
        rw [← hyy] at HSN HAT
        obtain ⟨a0, a1, a2⟩ := y
        have HYY := Lib.hid hyy
        dsimp only at y0 y1 y2
        rw [show off + k * 3 + 0 = off + k * 3 from rfl] at y0
        subst ha
        have g0 : ∀ X : LaterOf V, X.w.cell? ⟨b, off + k * 3, none⟩ = some (.int .i64 a0) := fun X => by rw [(UP.out.trans (X.h.mono UP.out.size)).cell hblt]; exact y0
        have g1 : ∀ X : LaterOf V, X.w.cell? ⟨b, off + k * 3 + 1, none⟩ = some (.int .i64 a1) := fun X => by rw [(UP.out.trans (X.h.mono UP.out.size)).cell hblt]; exact y1
        have g2 : ∀ X : LaterOf V, X.w.cell? ⟨b, off + k * 3 + 2, none⟩ = some (.string a2) := fun X => by rw [(UP.out.trans (X.h.mono UP.out.size)).cell hblt]; exact y2
        clear hc hy y0 y1 y2 hsn hat hyy HY hkl
        go_wp2_with fail
        go_loopw [10, 11] (fun gn i wr => ∃ (kk : Nat) (gb : Bool) (U : LaterOf V), gn = .bool gb ∧ i = .int .i64 (kk : Int) ∧ kk ≤ n3 ∧ Hid (gb = covB ((zs.map (·.t)).take kk) nodes yy) ∧ U.w = wr) (fun _ i _ => n3 - (intOf i).toNat)
        case atStart => exact ⟨0, false, U, rfl, rfl, Nat.zero_le _, Lib.hid rfl, rfl⟩
        case round =>
          obtain ⟨kk, gb, U, rfl, rfl, hkkn, HG, rfl⟩ := hrel
          have kkw : IntKind.i64.wrap ((kk : Int) + 1) = ((kk + 1 : Nat) : Int) := IntWalk.i64_in _ (by omega)
          rcases Nat.lt_or_ge kk n3 with hlt3 | hge3
          · have kki : (kk : Int) < n3 := by omega
            have hkz : kk < zs.length := by have := HN.out; omega
            obtain ⟨b3, off3, ha3, hb3lt, hc3⟩ := H.out.2.2.1.at_ (by omega)
            obtain ⟨z, hz⟩ : ∃ z, z = zs[kk] := ⟨_, rfl⟩
            have e0 := hc3 kk hkz 0 _ (by rw [← hz]; rfl)
            have e1 := hc3 kk hkz 1 _ (by rw [← hz]; rfl)
            have e2 := hc3 kk hkz 2 _ (by rw [← hz]; rfl)
            have e3 := hc3 kk hkz 3 _ (by rw [← hz]; rfl)
            have e4 := hc3 kk hkz 4 _ (by rw [← hz]; rfl)
            have hzr := H.out.2.2.2 z (by rw [hz]; exact List.getElem_mem hkz)
            have hzf := hs.out.small.2.2.2 z (by rw [hz]; exact List.getElem_mem hkz)
            have hzl := hs.out.2.2.2 z (by rw [hz]; exact List.getElem_mem hkz)
            have T1 := fun X : LaterOf V => sure_any z nodes X.w (hzr.later (UP.out.trans (X.h.mono UP.out.size))) hzf.1
            obtain ⟨sv, hsv⟩ : ∃ sv, sv = sureB z.t nodes := ⟨_, rfl⟩
            rw [← hsv] at T1
            have hno := fun (hf : sureB z.t nodes = false) (j : Nat) => mid_no (ts := (zs.map (·.t)).take kk) (j := j) (x := yy) hf
            have hup := fun (hf : sureB z.t nodes = true) (j : Nat) (u : Tok) (hu : z.t.cov[j]? = some u) => mid_up (ts := (zs.map (·.t)).take kk) (j := j) (x := yy) hf hu
            have hze := midF_zero ((zs.map (·.t)).take kk) z.t nodes yy
            have hend := midF_end ((zs.map (·.t)).take kk) z.t nodes yy
            have htk : (zs.map (·.t)).take kk ++ [z.t] = (zs.map (·.t)).take (kk + 1) := by rw [take_snoc' (by rw [List.length_map]; exact hkz), List.getElem_map, ← hz]
            rw [htk] at hend
            simp only [htk] at hno
            rw [← hsv] at hno hup
            obtain ⟨mid, hmid⟩ : ∃ mid : Nat → Bool, mid = fun j => midF ((zs.map (·.t)).take kk) z.t nodes j yy := ⟨_, rfl⟩
            have hmidx : ∀ j, midF ((zs.map (·.t)).take kk) z.t nodes j yy = mid j := fun j => by rw [hmid]
            rw [hmidx, ← HG.out] at hze
            rw [hmidx] at hend
            simp only [hmidx] at hno hup
            have HNO := Lib.hid hno
            have HUP := Lib.hid hup
            have HZE := Lib.hid hze
            have HEND := Lib.hid hend
            obtain ⟨⟨c0, c1, c2, lc, la⟩, cv, av⟩ := z
            obtain ⟨oc, fc, hcv, -, -⟩ := hzr.1.form
            obtain ⟨oa, fa, hav, -, -⟩ := hzr.2.form
            dsimp only at hcv hav hzl
            obtain ⟨nc, hnc⟩ : ∃ q, q = lc.length := ⟨_, rfl⟩
            obtain ⟨na, hna⟩ : ∃ q, q = la.length := ⟨_, rfl⟩
            rw [← hnc] at hcv hzl
            rw [← hna] at hav
            subst hcv hav
            have hncm := hzl.1
            have HNC := Lib.hid (And.intro hnc hzr.1)
            dsimp only [aTb] at e0 e1 e2 e3 e4 T1
            rw [show off3 + kk * 5 + 0 = off3 + kk * 5 from rfl] at e0
            subst ha3
            have p0 : ∀ X : LaterOf V, X.w.cell? ⟨b3, off3 + kk * 5, none⟩ = some (.int .i64 c0) := fun X => by rw [(UP.out.trans (X.h.mono UP.out.size)).cell hb3lt]; exact e0
            have p1 : ∀ X : LaterOf V, X.w.cell? ⟨b3, off3 + kk * 5 + 1, none⟩ = some (.int .i64 c1) := fun X => by rw [(UP.out.trans (X.h.mono UP.out.size)).cell hb3lt]; exact e1
            have p2 : ∀ X : LaterOf V, X.w.cell? ⟨b3, off3 + kk * 5 + 2, none⟩ = some (.string c2) := fun X => by rw [(UP.out.trans (X.h.mono UP.out.size)).cell hb3lt]; exact e2
            have p3 : ∀ X : LaterOf V, X.w.cell? ⟨b3, off3 + kk * 5 + 3, none⟩ = some (.slice oc nc fc) := fun X => by rw [(UP.out.trans (X.h.mono UP.out.size)).cell hb3lt]; exact e3
            have p4 : ∀ X : LaterOf V, X.w.cell? ⟨b3, off3 + kk * 5 + 4, none⟩ = some (.slice oa na fa) := fun X => by rw [(UP.out.trans (X.h.mono UP.out.size)).cell hb3lt]; exact e4
            have T1 := Lib.hid T1
            have HSV := Lib.hid hsv
            clear hc3 hz e0 e1 e2 e3 e4 hzr hzf hzl hsv hno hup hze hend htk hmid hmidx hnc hna hkz
            go_wp2_with fail
            go_loopw [10, 12] (fun gn i wr => ∃ (j : Nat) (gb : Bool) (U : LaterOf V), gn = .bool gb ∧ i = .int .i64 (j : Int) ∧ j ≤ nc ∧ Hid (gb = mid j) ∧ U.w = wr) (fun _ i _ => nc - (intOf i).toNat)
            case atStart => exact ⟨0, gb, U, rfl, rfl, Nat.zero_le _, Lib.hid HZE.out, rfl⟩
            case round =>
              obtain ⟨j, gb, U, rfl, rfl, hjn, HM, rfl⟩ := hrel
              clear HG HZE
              have jw : IntKind.i64.wrap ((j : Int) + 1) = ((j + 1 : Nat) : Int) := IntWalk.i64_in _ (by omega)
              rcases Nat.lt_or_ge j nc with hltj | hgej
              · have ji : (j : Int) < nc := by omega
                go_wp2_with fail
                refine (LaterOf.call U (T1.out U)).mono ?_
                rintro e _ ⟨rfl, U, rfl⟩
                cases sv
                · go_wp2_with fail
                  exact ⟨⟨kk + 1, gb, U, rfl, by simp, by omega, Lib.hid (by rw [HM.out]; exact HNO.out trivial j), rfl⟩, by simp [intOf]; omega⟩
                · cases gb
                  · have hjl : j < lc.length := by have := HNC.out.1; omega
                    obtain ⟨b4, off4, ha4, hb4lt, hc4⟩ := HNC.out.2.at_ (by omega)
                    obtain ⟨u, hu⟩ : ∃ u, u = lc[j] := ⟨_, rfl⟩
                    have t0 := hc4 j hjl 0 _ (by rw [← hu]; rfl)
                    have t1 := hc4 j hjl 1 _ (by rw [← hu]; rfl)
                    have t2 := hc4 j hjl 2 _ (by rw [← hu]; rfl)
                    have hup := HUP.out rfl j u (by rw [List.getElem?_eq_getElem hjl, hu])
                    rw [← HM.out, Bool.false_or] at hup
                    have hne := fun W => eql_tok u yy W
                    rw [HYY.out] at hne
                    obtain ⟨s0, s1, s2⟩ := u
                    dsimp only at t0 t1 t2 hne
                    rw [← HYY.out] at hne
                    rw [show off4 + j * 3 + 0 = off4 + j * 3 from rfl] at t0
                    obtain ⟨eb, heb⟩ : ∃ eb, eb = eqB (⟨s0, s1, s2⟩ : Tok) yy := ⟨_, rfl⟩
                    rw [← heb] at hne hup
                    have HUP2 := Lib.hid hup
                    subst ha4
                    have hlt4 : b4 < W1.heap.size := hb4lt
                    have s0' : ∀ X : LaterOf V, X.w.cell? ⟨b4, off4 + j * 3, none⟩ = some (.int .i64 s0) := fun X => by rw [(UP.out.trans (X.h.mono UP.out.size)).cell hlt4]; exact t0
                    have s1' : ∀ X : LaterOf V, X.w.cell? ⟨b4, off4 + j * 3 + 1, none⟩ = some (.int .i64 s1) := fun X => by rw [(UP.out.trans (X.h.mono UP.out.size)).cell hlt4]; exact t1
                    have s2' : ∀ X : LaterOf V, X.w.cell? ⟨b4, off4 + j * 3 + 2, none⟩ = some (.string s2) := fun X => by rw [(UP.out.trans (X.h.mono UP.out.size)).cell hlt4]; exact t2
                    have hg : Tryz.prog.eqGuardType Tryz.prog.depth 43 = false := by kernel_rfl
                    clear hc4 hu t0 t1 t2 hup heb hb4lt hlt4 hjl
                    go_wp2_with fail
                    obtain ⟨U2, hU2⟩ := LaterOf.drawn U
                    refine wp_region_all (fun w' => ∃ x : LaterOf V, w' = x.w) (by kernel_rfl) (by kernel_rfl) ⟨U2, hU2⟩ ?_
                    clear hU2
                    repeat (go_big_quiet_step (fail))
                    refine wpQuiet_nil ?_
                    intro w5 hw5
                    obtain ⟨U3, rfl⟩ := hw5
                    clear hne
                    go_wp2_with fail
                    exact ⟨⟨j + 1, eb, U3, rfl, by simp, by omega, Lib.hid HUP2.out.symm, rfl⟩, by simp [intOf]; omega⟩
                  · have hjl : j < lc.length := by have := HNC.out.1; omega
                    have hup := HUP.out rfl j lc[j] (by rw [List.getElem?_eq_getElem hjl])
                    rw [← HM.out, Bool.true_or] at hup
                    have HUP2 := Lib.hid hup
                    clear hup hjl
                    go_wp2_with fail
                    obtain ⟨U2, hU2⟩ := LaterOf.drawn U
                    refine wp_region_all (fun w' => ∃ x : LaterOf V, w' = x.w) (by kernel_rfl) (by kernel_rfl) ⟨U2, hU2⟩ ?_
                    clear hU2
                    repeat (go_big_quiet_step (fail))
                    refine wpQuiet_nil ?_
                    intro w5 hw5
                    obtain ⟨U3, rfl⟩ := hw5
                    go_wp2_with fail
                    exact ⟨⟨j + 1, true, U3, rfl, by simp, by omega, Lib.hid HUP2.out.symm, rfl⟩, by simp [intOf]; omega⟩
              · have ji : decide (j < nc) = false := decide_eq_false (by omega)
                obtain rfl : nc = j := by omega
                clear hgej
                go_wp2_with fail
                exact ⟨⟨kk + 1, gb, U, rfl, by simp, by omega, Lib.hid (by rw [HM.out, HNC.out.1]; exact HEND.out), rfl⟩, by simp [intOf]; omega⟩
          · have kki : decide (kk < n3) = false := decide_eq_false (by omega)
            obtain rfl : n3 = kk := by omega
            have hg := HG.out
            rw [List.take_of_length_le (by rw [List.length_map, ← HN.out.2.2]; exact Nat.le_refl _), ← HP.out.1] at hg
            have HGP := Lib.hid hg
            clear hg hge3 HG
            cases gb
            · have hp : (!P yy) = true := by rw [← HGP.out]; rfl
              have hat := HAT.out hp
              have hsn := HSN.out
              rw [if_pos hp] at hsn
              have HSQ := Lib.hid hsn
              have hql : q < nL := by rw [HVR.out.2]; exact hat.2
              have qi : decide (nL ≤ q) = false := decide_eq_false (by omega)
              have hqL : q < LV.length := by rw [← HVR.out.2]; exact hql
              obtain ⟨b5, off5, ha5, hb5lt, hc5⟩ := HVR.out.1.at_ (by omega)
              have hLq : LV[q] = yy := by
                have h1 := hat.1
                rw [List.getElem?_eq_getElem hqL] at h1
                exact Option.some.inj h1
              have t0 := hc5 q hqL 0 (.int .i64 a0) (by rw [hLq, HYY.out]; rfl)
              have t1 := hc5 q hqL 1 (.int .i64 a1) (by rw [hLq, HYY.out]; rfl)
              have t2 := hc5 q hqL 2 (.string a2) (by rw [hLq, HYY.out]; rfl)
              rw [show off5 + q * 3 + 0 = off5 + q * 3 from rfl] at t0
              subst ha5
              have s0' : ∀ X : LaterOf V, X.w.cell? ⟨b5, off5 + q * 3, none⟩ = some (.int .i64 a0) := fun X => by rw [X.h.cell hb5lt]; exact t0
              have s1' : ∀ X : LaterOf V, X.w.cell? ⟨b5, off5 + q * 3 + 1, none⟩ = some (.int .i64 a1) := fun X => by rw [X.h.cell hb5lt]; exact t1
              have s2' : ∀ X : LaterOf V, X.w.cell? ⟨b5, off5 + q * 3 + 2, none⟩ = some (.string a2) := fun X => by rw [X.h.cell hb5lt]; exact t2
              have hne := fun W => neq_of_eql (eql_tok ⟨a0, a1, a2⟩ ⟨a0, a1, a2⟩ W)
              rw [eqB_yes rfl] at hne
              dsimp only [Bool.not_true] at hne
              have hg : Tryz.prog.eqGuardType Tryz.prog.depth 43 = false := by kernel_rfl
              have qli : (q : Int) < nL := by omega
              have qw : IntKind.i64.wrap ((q : Int) + 1) = ((q + 1 : Nat) : Int) := IntWalk.i64_in _ (by omega)
              clear hp hat hsn hql hqL hc5 hLq t0 t1 t2 hb5lt
              go_wp2_with fail
              obtain ⟨U2, hU2⟩ := LaterOf.drawn U
              refine wp_region_all (fun w' => ∃ x : LaterOf V, w' = x.w) (by kernel_rfl) (by kernel_rfl) ⟨U2, hU2⟩ ?_
              clear hU2
              repeat (go_big_quiet_step (fail))
              refine wpQuiet_nil ?_
              intro w5 hw5
              obtain ⟨U3, rfl⟩ := hw5
              clear hne
              go_wp2_with fail
              exact ⟨⟨k + 1, q + 1, U3, by simp, by simp, by omega, by omega, Lib.hid HSQ.out.symm, rfl⟩, by simp [intOf]; omega⟩
            · have hp : (!P yy) = false := by rw [← HGP.out]; rfl
              have hsn := HSN.out
              rw [if_neg (by rw [hp]; simp)] at hsn
              have HSQ := Lib.hid hsn
              clear hp hsn
              go_wp2_with fail
              exact ⟨⟨k + 1, q, U, rfl, by simp, by omega, by omega, Lib.hid HSQ.out.symm, rfl⟩, by simp [intOf]; omega⟩
      · have ki : decide (k < n2) = false := decide_eq_false (by omega)
        obtain rfl : n2 = k := by omega
        have hqq : q = nL := by
          rw [HQ.out, show toks.take n2 = toks by rw [HN.out.2.1, List.take_length], ← HP.out.2.1, HVR.out.2]
        subst hqq
        clear hge
        go_wp2_with fail
        go_meet
        case rel => exact ⟨U, rfl, rfl⟩
  case rest =>
    obtain ⟨U, rfl, rfl⟩ := hcut
    have nn0 : ((nL : Int) != nL) = false := by simp
    have HWN1 := HWN.out
    obtain ⟨L2, hL2⟩ : ∃ L2, L2 = liveL (MkR.mk_ ⟨refs, toks, zs, .slice o1 n1 f1, .slice o2 n2 f2, .slice o3 n3 f3⟩) (nodes + 1) := ⟨_, rfl⟩
    have hLU := HL.out.2
    rw [← hL2] at LV2 hLU
    rw [← HVR.out.2] at hLU
    have HLU := Lib.hid hLU
    clear hL2 hLU
    go_wp2_with fail
    refine (LV2.out hs.out.small ⟨U.w, UP.out.trans (U.h.mono UP.out.size)⟩).mono ?_
    rintro e w2 ⟨v2, rfl, hv2, hb2, -⟩
    obtain ⟨oM, fM, hq2, -, -⟩ := hv2.form
    subst hq2
    obtain ⟨nM, hnM⟩ : ∃ k, k = L2.length := ⟨_, rfl⟩
    have HLU2 := Lib.hid (show nL ≤ nM by rw [hnM]; exact HLU.out)
    rw [← hnM]
    obtain ⟨U, rfl⟩ := U.next hb2
    have nn1 : decide (nM < nL) = false := decide_eq_false (by have := HLU2.out; omega)
    clear hv2 hb2 hnM LV2 HWN1
    go_upto_block 6 with (fail)
    obtain ⟨Mo, hMo⟩ : ∃ Mo, Mo = U.w.heap.size := ⟨_, rfl⟩
    obtain ⟨M1, hM1⟩ : ∃ M1, M1 = U.w.alloc (.cells #[.slice o1 n1 f1, .slice o2 n2 f2, .slice none 0 0] 26) := ⟨_, rfl⟩
    have HM0 := Lib.hid (show MoSt U.w Mo (.slice o1 n1 f1) (.slice o2 n2 f2) zs ack 0 [] none 0 M1 from by
      rw [hM1, hMo]
      exact ⟨(Below.refl _ _).alloc (Nat.le_refl _) _, Nat.le_refl _, BlkIs.new _ _ _, SlIs.nil_ _ _ _ _, rfl, by simp, fun z hz => by cases hz⟩)
    rw [← hM1, ← hMo]
    clear hMo hM1 nn0 nn1
    go_cut [14, 15] from 120 to 145 (fun y14 y15 wx => Hid (∃ (zs' : List TbR) (ao : Option Addr) (c : Nat), MoSt U.w Mo (.slice o1 n1 f1) (.slice o2 n2 f2) zs ack n3 zs' ao c wx))
    case first =>
      go_wp2_with fail
      go_loopw [14] (fun i wr => ∃ (k c : Nat) (ao : Option Addr) (zs' : List TbR), i = .int .i64 (k : Int) ∧ k ≤ n3 ∧ Hid (MoSt U.w Mo (.slice o1 n1 f1) (.slice o2 n2 f2) zs ack k zs' ao c wr)) (fun i _ => n3 - (intOf i).toNat)
      case atStart => exact ⟨0, 0, none, [], rfl, Nat.zero_le _, HM0⟩
      case round =>
        obtain ⟨k, c, ao, zs', rfl, hkn, HI⟩ := hrel
        clear HM0
        have kw : IntKind.i64.wrap ((k : Int) + 1) = ((k + 1 : Nat) : Int) := IntWalk.i64_in _ (by omega)
        have HLW := Lib.hid (show Below V.heap.size V wr from U.h.trans (HI.out.1.mono U.h.size))
        have d2 : wr.cell? ⟨w.heap.size, 2, none⟩ = some (.slice o3 n3 f3) := v2 ⟨wr, HLW.out⟩
        rcases Nat.lt_or_ge k n3 with hlt | hge
        · have ki : (k : Int) < n3 := by omega
          have hkz : k < zs.length := by have := HN.out; omega
          have HW1 := Lib.hid (show Below W1.heap.size W1 wr from UP.out.trans (HLW.out.mono UP.out.size))
          obtain ⟨b3, off3, ha3, hb3lt, hc3⟩ := (H.out.2.2.1.later HW1.out).at_ (by omega)
          obtain ⟨z, hz⟩ : ∃ z, z = zs[k] := ⟨_, rfl⟩
          have e0 := hc3 k hkz 0 _ (by rw [← hz]; rfl)
          have e1 := hc3 k hkz 1 _ (by rw [← hz]; rfl)
          have e2 := hc3 k hkz 2 _ (by rw [← hz]; rfl)
          have e3 := hc3 k hkz 3 _ (by rw [← hz]; rfl)
          have e4 := hc3 k hkz 4 _ (by rw [← hz]; rfl)
          have hzr := H.out.2.2.2 z (by rw [hz]; exact List.getElem_mem hkz)
          have hzl := hs.out.2.2.2 z (by rw [hz]; exact List.getElem_mem hkz)
          have HTK := Lib.hid (show (zs.map (·.t)).take (k + 1) = (zs.map (·.t)).take k ++ [z.t] by rw [take_snoc' (by rw [List.length_map]; exact hkz), List.getElem_map, ← hz])
          have HZM := Lib.hid (show z ∈ zs by rw [hz]; exact List.getElem_mem hkz)
          have HZR := Lib.hid (show ∀ W, Below W1.heap.size W1 W → z.Reads W from fun W hW => hzr.later hW)
          obtain ⟨zz, hzz⟩ : ∃ zz, zz = z := ⟨_, rfl⟩
          rw [← hzz] at HTK HZM HZR
          obtain ⟨⟨c0, c1, c2, lc, la⟩, cv, av⟩ := z
          have HZZ := Lib.hid hzz
          obtain ⟨oc, fc, hcv, -, -⟩ := hzr.1.form
          obtain ⟨oa, fa, hav, -, -⟩ := hzr.2.form
          dsimp only at hcv hav hzl e0 e1 e2 e3 e4
          obtain ⟨nc, hnc⟩ : ∃ q, q = lc.length := ⟨_, rfl⟩
          obtain ⟨na, hna⟩ : ∃ q, q = la.length := ⟨_, rfl⟩
          rw [← hnc, ← hna] at hzl
          rw [← hnc] at hcv
          rw [← hna] at hav
          subst hcv hav
          have hnam := hzl.2
          have HNA := Lib.hid hna
          rw [show off3 + k * 5 + 0 = off3 + k * 5 from rfl] at e0
          subst ha3
          clear hc3 hz hzr hzl hzz hnc hna hkz
          go_upto_region 29 with (fail)
          obtain ⟨T, hT⟩ : ∃ T, T = wr.heap.size := ⟨_, rfl⟩
          obtain ⟨Wt, hWt⟩ : ∃ Wt, Wt = wr.alloc (.cells #[.int .i64 c0, .int .i64 c1, .string c2, .slice oc nc fc, .slice oa na fa] 40) := ⟨_, rfl⟩
          have HT := Lib.hid (show Chg (fun _ => False) wr Wt ∧ BlkIs Wt T 40 #[.int .i64 c0, .int .i64 c1, .string c2, .slice oc nc fc, .slice oa na fa] ∧ wr.heap.size ≤ T ∧ Mo < T ∧ Wt.heap.size = T + 1 from by
            rw [hWt, hT]
            exact ⟨(Chg.refl _ _).alloc _, BlkIs.new _ _ _, Nat.le_refl _, HI.out.2.2.1.lt, by simp⟩)
          rw [← hWt, ← hT]
          clear hT hWt e0 e1 e2 e3 e4 hb3lt d2
          have t4 : Wt.cell? ⟨T, 4, none⟩ = some (.slice oa na fa) := HT.out.2.1.cell 4
          have hTs : T < Wt.heap.size := HT.out.2.1.lt
          have HSR := Lib.hid (show RowAt 1 vInt (Wt.alloc (.cells #[] 3)) (.slice oa na fa) la from by
            have h1 := (HZR.out (Wt.alloc (.cells #[] 3)) (HW1.out.trans ((HT.out.1.below (Nat.le_refl _) (fun _ h => h.elim)).mono HW1.out.size |>.trans (((Below.refl _ _).alloc (Nat.le_refl _) _).mono (by have := HW1.out.size; have := HT.out.1.size; omega))))).2
            rw [HZZ.out] at h1
            exact h1)
          have hE0 : SlIs (Wt.alloc (.cells #[] 3)) (T + 1) 3 1 (.slice (some ⟨Wt.heap.size, 0, none⟩) 0 0) 0 (rowCells vInt []) := SlIs.made (cs := #[]) (BlkIs.new _ _ _) (by have := HT.out.2.2.2.2; omega) rfl (by decide)
          have HE0 := Lib.hid hE0
          clear hE0
          go_wp2_with (at_builtin; refine wpList_append_sl rfl _ _ _ 38 (by rfl) el_int (base := T + 1) (.slice (some ⟨Wt.heap.size, 0, none⟩) 0 0) 0 (rowCells vInt []) (by rfl) HE0.out _ la.length (rowCells vInt la) (by rfl) (srcIs_ints HSR.out) (by intro u hu; obtain ⟨x, _, hx⟩ := List.mem_flatMap.1 hu; rw [List.mem_singleton.1 hx]; rfl) (by unfold maxLen; have := HNA.out; omega) (by have := HNA.out; omega) (by simp; omega) ?_)
          intro v5 w5 hs5 hg5 hat5
          rw [show rowCells vInt ([] : List Int) ++ rowCells vInt la = rowCells vInt la from rfl] at hs5
          obtain ⟨a5, q5, rfl, -, -, -⟩ := hs5.form
          have C5 : Chg (fun _ => False) wr w5 := (HT.out.1.alloc (.cells #[] 3)).trans (Chg.of_grown hg5 (fun j hj => Or.inr (by have h1 : Wt.heap.size = j := Option.some.inj hj; have := HT.out.1.size; omega)))
          have B5 : BlkIs w5 T 40 #[.int .i64 c0, .int .i64 c1, .string c2, .slice oc nc fc, .slice oa na fa] := BlkIs.grown (HT.out.2.1.alloc _) hg5 (fun e => by have h1 : T = Wt.heap.size := Option.some.inj e; omega)
          have H5 := Lib.hid (And.intro hs5 (And.intro C5 B5))
          have hT5 : T < w5.heap.size := B5.lt
          have hlaN : la.length ≤ 300 := by rw [← HNA.out]; exact hnam
          clear hs5 hg5 hat5 C5 B5 HE0 HSR t4 hTs
          go_wp2_with (at_builtin; refine wpList_append_sl rfl _ _ _ 38 (by rfl) el_int (base := T + 1) (.slice a5 la.length q5) la.length (rowCells vInt la) (by rfl) (H5.out.1.alloc _) _ 1 [Value.int .i64 ack] (by rfl) (SrcIs.own Tryz.underlying38 (SlIs.made (base := 0) (BlkIs.new _ _ _) (Nat.zero_le _) rfl (by decide))) (by intro u hu; simp at hu; rw [hu]; rfl) (by unfold maxLen; omega) (by omega) (by simp; omega) ?_)
          intro v6 w6 hs6 hg6 hat6
          obtain ⟨a6, q6, rfl, -, -, -⟩ := hs6.form
          have hrow6 : ∀ j, (Value.slice a5 la.length q5).ownBlock = some j → T + 1 ≤ j := fun j hj => (H5.out.1.lt j hj).1
          have C6 : Chg (fun _ => False) wr w6 := (H5.out.2.1.alloc (.cells #[.int .i64 ack] 3)).trans (Chg.of_grown hg6 (fun j hj => Or.inr (by have := hrow6 j hj; have := HT.out.2.2; omega)))
          have B6 : BlkIs w6 T 40 #[.int .i64 c0, .int .i64 c1, .string c2, .slice oc nc fc, .slice oa na fa] := BlkIs.grown (H5.out.2.2.alloc _) hg6 (fun e => by have := hrow6 T e.symm; omega)
          have t4 : w6.cell? ⟨T, 4, none⟩ = some (.slice oa na fa) := B6.cell 4
          have tf : w6.frozen? ⟨T, 4, none⟩ = false := B6.free 4
          have H6 := Lib.hid (And.intro hs6 (And.intro C6 B6))
          clear hs6 hg6 hat6 hrow6 C6 B6 hT5
          go_upto_region 30 with (fail)
          obtain ⟨W7, hW7⟩ : ∃ W7, W7 = w6.setCell ⟨T, 4, none⟩ (.slice a6 (la.length + 1) q6) := ⟨_, rfl⟩
          have H7 := Lib.hid (show SlIs W7 (T + 1) 3 1 (.slice a6 (la.length + 1) q6) (la.length + 1) (rowCells vInt la ++ [.int .i64 ack]) ∧ Chg (fun _ => False) wr W7 ∧ BlkIs W7 T 40 #[.int .i64 c0, .int .i64 c1, .string c2, .slice oc nc fc, .slice a6 (la.length + 1) q6] from by
            rw [hW7]
            exact ⟨sl_farB H6.out.1 (p := ⟨T, 4, none⟩) (Nat.lt_succ_self T) _, H6.out.2.1.setCell (p := ⟨T, 4, none⟩) (Or.inr HT.out.2.2.1) _, H6.out.2.2.put 4 _⟩)
          rw [← hW7]
          clear hW7 t4 tf H5 H6
          have hs8 := Lib.hid (H7.out.2.1.sl HI.out.2.2.2.1 (fun _ _ h => h))
          have m2 : W7.cell? ⟨Mo, 2, none⟩ = some (.slice ao k c) := (H7.out.2.1.blk HI.out.2.2.1 (fun h => h)).cell 2
          have mf : W7.frozen? ⟨Mo, 2, none⟩ = false := (H7.out.2.1.blk HI.out.2.2.1 (fun h => h)).free 2
          have t0 : W7.cell? ⟨T, 0, none⟩ = some (.int .i64 c0) := H7.out.2.2.cell 0
          have t1 : W7.cell? ⟨T, 1, none⟩ = some (.int .i64 c1) := H7.out.2.2.cell 1
          have t2 : W7.cell? ⟨T, 2, none⟩ = some (.string c2) := H7.out.2.2.cell 2
          have t3 : W7.cell? ⟨T, 3, none⟩ = some (.slice oc nc fc) := H7.out.2.2.cell 3
          have t4 : W7.cell? ⟨T, 4, none⟩ = some (.slice a6 (la.length + 1) q6) := H7.out.2.2.cell 4
          have hMl : Mo + 1 ≤ W7.heap.size := (H7.out.2.1.blk HI.out.2.2.1 (fun h => h)).lt
          go_wp2_with (at_builtin; refine wpList_append_sl rfl _ _ _ 24 (by rfl) el_tb (base := Mo + 1) (.slice ao k c) k (rowCells vTb zs') (by rfl) (hs8.out.alloc _) _ 1 [Value.int .i64 c0, Value.int .i64 c1, Value.string c2, Value.slice oc nc fc, Value.slice a6 (la.length + 1) q6] (by rfl) (SrcIs.own Tryz.underlying24 (SlIs.made (base := 0) (BlkIs.new _ _ _) (Nat.zero_le _) rfl (by decide))) (by intro u hu; simp at hu; rcases hu with rfl | rfl | rfl | rfl | rfl <;> rfl) (by unfold maxLen; omega) (by omega) (by simp; omega) ?_)
          intro v9 w9 hs9 hg9 hat9
          obtain ⟨a9, q9, rfl, -, -, -⟩ := hs9.form
          have hrow9 : ∀ j, (Value.slice ao k c).ownBlock = some j → Mo + 1 ≤ j := fun j hj => (hs8.out.lt j hj).1
          have BM9 : BlkIs w9 Mo 26 #[.slice o1 n1 f1, .slice o2 n2 f2, .slice ao k c] := BlkIs.grown ((H7.out.2.1.blk HI.out.2.2.1 (fun h => h)).alloc _) hg9 (fun e => by have := hrow9 Mo e.symm; omega)
          have m9 : w9.cell? ⟨Mo, 2, none⟩ = some (.slice ao k c) := BM9.cell 2
          have mf9 : w9.frozen? ⟨Mo, 2, none⟩ = false := BM9.free 2
          obtain ⟨W10, hW10⟩ : ∃ W10, W10 = w9.setCell ⟨Mo, 2, none⟩ (.slice a9 (k + 1) q9) := ⟨_, rfl⟩
          have HF := Lib.hid (show MoSt U.w Mo (.slice o1 n1 f1) (.slice o2 n2 f2) zs ack (k + 1) (zs' ++ [(⟨withAck ack zz.t, .slice oc nc fc, .slice a6 (la.length + 1) q6⟩ : TbR)]) a9 q9 W10 from by
            have hU : U.w.heap.size ≤ wr.heap.size := HI.out.1.size
            have hb7 : Below U.w.heap.size U.w W7 := HI.out.1.trans ((H7.out.2.1.below (Nat.le_refl _) (fun _ h => h.elim)).mono hU)
            have hb8 := hb7.alloc hb7.size (.cells #[Value.int .i64 c0, Value.int .i64 c1, Value.string c2, Value.slice oc nc fc, Value.slice a6 (la.length + 1) q6] 40)
            have hb9 := hb8.grown hg9 hb8.size (fun j hj => by have := hrow9 j hj; have := HI.out.2.1; omega)
            rw [hW10]
            refine ⟨hb9.setCell (p := ⟨Mo, 2, none⟩) HI.out.2.1 _, HI.out.2.1, BM9.put 2 _, ?_, by rw [List.length_append, HI.out.2.2.2.2.1]; rfl, ?_, ?_⟩
            · rw [rowCells_app, rowCells_one]
              have h1 := sl_farB hs9 (p := ⟨Mo, 2, none⟩) (Nat.lt_succ_self Mo) (.slice a9 (k + 1) q9)
              have h2 : vTb (⟨withAck ack zz.t, .slice oc nc fc, .slice a6 (la.length + 1) q6⟩ : TbR) = [Value.int .i64 c0, Value.int .i64 c1, Value.string c2, Value.slice oc nc fc, Value.slice a6 (la.length + 1) q6] := by rw [HZZ.out]; rfl
              rw [h2]
              exact h1
            · rw [List.map_append, HI.out.2.2.2.2.2.1, HTK.out, List.map_append]
              rfl
            · intro z hz
              rcases List.mem_append.1 hz with hz | hz
              · obtain ⟨g1, g2⟩ := HI.out.2.2.2.2.2.2 z hz
                refine ⟨?_, g2⟩
                have k1 := (H7.out.2.1.sl g1 (fun _ _ h => h)).alloc (.cells #[Value.int .i64 c0, Value.int .i64 c1, Value.string c2, Value.slice oc nc fc, Value.slice a6 (la.length + 1) q6] 40)
                exact sl_farB (sl_kept k1 (hs8.out.alloc _) (by decide) hg9) (p := ⟨Mo, 2, none⟩) (Nat.lt_succ_self Mo) _
              · rw [List.mem_singleton.1 hz]
                have hac : (withAck ack zz.t).acks = la ++ [ack] := by rw [HZZ.out]; rfl
                refine ⟨?_, zz, HZM.out, by rw [HZZ.out], rfl, by show (withAck ack zz.t).acks.length = _; rw [hac, HZZ.out]; simp⟩
                show SlIs _ _ _ _ (Value.slice a6 (la.length + 1) q6) (withAck ack zz.t).acks.length (rowCells vInt (withAck ack zz.t).acks)
                rw [hac, List.length_append, rowCells_app, rowCells_one]
                have k1 := (H7.out.1.mono (base' := Mo + 1) (by have := HT.out.2.2.2.1; omega)).alloc (.cells #[Value.int .i64 c0, Value.int .i64 c1, Value.string c2, Value.slice oc nc fc, Value.slice a6 (la.length + 1) q6] 40)
                exact sl_farB (sl_kept k1 (hs8.out.alloc _) (by decide) hg9) (p := ⟨Mo, 2, none⟩) (Nat.lt_succ_self Mo) _)
          have HW10 := Lib.hid hW10
          clear hs9 hg9 hat9 hrow9 BM9 hW10 m2 mf t0 t1 t2 t3 t4 hMl
          go_wp2_with fail
          exact ⟨⟨k + 1, q9, a9, _, by simp, by omega, by rw [← HW10.out]; exact HF⟩, by simp [intOf]; omega⟩
        · have ki : decide (k < n3) = false := decide_eq_false (by omega)
          obtain rfl : n3 = k := by omega
          clear hge
          go_wp2_with fail
          go_meet
          case rel => exact Lib.hid ⟨zs', ao, c, HI.out⟩
    case rest =>
      obtain ⟨zs', ao, c, hmo⟩ := hcut.out
      have HMO := Lib.hid hmo
      clear hmo hcut HM0
      have hbM : Below V.heap.size V wc := U.h.trans (HMO.out.1.mono U.h.size)
      have hb1M : Below W1.heap.size W1 wc := UP.out.trans (hbM.mono UP.out.size)
      obtain ⟨MR, hMR⟩ : ∃ MR : MkR, MR = ⟨refs, toks, zs', .slice o1 n1 f1, .slice o2 n2 f2, .slice ao n3 c⟩ := ⟨_, rfl⟩
      have hzz : zs'.map (·.t) = (zs.map (·.t)).map (withAck ack) := by
        rw [HMO.out.2.2.2.2.2.1, List.take_of_length_le (by rw [List.length_map, ← HN.out.2.2]; exact Nat.le_refl _)]
      have hMRr : MR.Reads wc := by
        rw [hMR]
        refine ⟨H.out.1.later hb1M, H.out.2.1.later hb1M, ?_, fun z hz => ?_⟩
        · refine RowAt.of_sl (fun _ => rfl) (base := Mo + 1) (e := 40) ?_
          show SlIs wc (Mo + 1) _ 5 (.slice ao n3 c) zs'.length _
          rw [HMO.out.2.2.2.2.1]
          exact HMO.out.2.2.2.1
        · obtain ⟨g1, z0, g2, g3, g4, g5⟩ := HMO.out.2.2.2.2.2.2 z hz
          refine ⟨?_, RowAt.of_sl (fun _ => rfl) g1⟩
          rw [g3, g4]
          exact ((H.out.2.2.2 z0 g2).later hb1M).1
      have hMRs : MR.Small := by
        rw [hMR]
        refine ⟨?_, ?_, ?_, fun z hz => ?_⟩
        · show refs.length ≤ _; have := HN.out; have := HNM.out; omega
        · show toks.length ≤ _; have := HN.out; have := HNM.out; omega
        · show zs'.length ≤ _; rw [HMO.out.2.2.2.2.1]; have := HNM.out; omega
        · obtain ⟨g1, z0, g2, g3, g4, g5⟩ := HMO.out.2.2.2.2.2.2 z hz
          have h1 := hs.out.small.2.2.2 z0 g2
          have h2 := hs.out.2.2.2 z0 g2
          rw [g4, g5]
          omega
      have hLM : (liveL MR.mk_ nodes).length ≤ nL := by
        rw [HVR.out.2]
        exact HP.out.2.2.2 MR (by rw [hMR]) (by rw [hMR]; exact hzz)
      have LM := live_any MR nodes wc hMRr hMRs
      have hMa : aMk MR = .agg #[.slice o1 n1 f1, .slice o2 n2 f2, .slice ao n3 c] := by rw [hMR]; rfl
      rw [hMa] at LM
      obtain ⟨L3, hL3⟩ : ∃ L3, L3 = liveL MR.mk_ nodes := ⟨_, rfl⟩
      rw [← hL3] at LM hLM
      have LM := Lib.hid LM
      have HLM := Lib.hid hLM
      have HbM := Lib.hid hbM
      have m0 : wc.cell? ⟨Mo, 0, none⟩ = some (.slice o1 n1 f1) := HMO.out.2.2.1.cell 0
      have m1 : wc.cell? ⟨Mo, 1, none⟩ = some (.slice o2 n2 f2) := HMO.out.2.2.1.cell 1
      have m2 : wc.cell? ⟨Mo, 2, none⟩ = some (.slice ao n3 c) := HMO.out.2.2.1.cell 2
      clear hbM hb1M hMR hzz hMRr hMRs hLM hMa hL3
      go_wp2_with fail
      refine LM.out.mono ?_
      rintro e w3 ⟨v3, rfl, hv3, hb3, -⟩
      obtain ⟨o3', f3', hq3, -, -⟩ := hv3.form
      subst hq3
      obtain ⟨n5, hn5⟩ : ∃ k, k = L3.length := ⟨_, rfl⟩
      have nn1 : decide (nL < n5) = false := decide_eq_false (by have := HLM.out; omega)
      rw [← hn5]
      have hb3V : Below V.heap.size V w3 := HbM.out.trans (hb3.mono HbM.out.size)
      have HB3 := Lib.hid hb3V
      have OF := Lib.hid (of_string (.slice none 0 0) [] w3 ⟨none, 0, rfl, Nat.zero_le _, by decide, fun hh => absurd hh (Nat.lt_irrefl _)⟩ (by decide))
      clear hv3 hb3 hn5 hb3V m0 m1 m2 LM HMO HLM
      go_wp2_with fail
      refine OF.out.mono ?_
      rintro e w4 ⟨g, kv, vv, l0, rfl, hio, hst, hb4⟩
      have HS := Lib.hid (show WnSt w3 g ((refs.take 0).map (·.id)) w4 from by
        refine ⟨kv, vv, l0, hst, hio, ?_, hb4⟩
        cases l0 with
        | nil => exact Nat.le_refl _
        | cons x l => exact absurd ((hio.2 x).1 (by simp)) (by simp))
      clear OF hio hst hb4 nn1
      have HVW := Lib.hid (fun W (hW : Below w3.heap.size w3 W) => (show Below V.heap.size V W from HB3.out.trans (hW.mono HB3.out.size)))
      go_wp2_with fail
      go_loopw [17] (fun i wr => ∃ k : Nat, i = .int .i64 (k : Int) ∧ k ≤ n1 ∧ Hid (WnSt w3 g ((refs.take k).map (·.id)) wr)) (fun i _ => n1 - (intOf i).toNat)
      case atStart => exact ⟨0, rfl, Nat.zero_le _, HS⟩
      case round =>
        obtain ⟨k, rfl, hkn, HR⟩ := hrel
        clear HS
        have kw : IntKind.i64.wrap ((k : Int) + 1) = ((k + 1 : Nat) : Int) := IntWalk.i64_in _ (by omega)
        have HBV := Lib.hid (HVW.out wr HR.out.below)
        have d0 : wr.cell? ⟨w.heap.size, 0, none⟩ = some (.slice o1 n1 f1) := v0 ⟨wr, HBV.out⟩
        rcases Nat.lt_or_ge k n1 with hlt | hge
        · have ki : (k : Int) < n1 := by omega
          have hkl : k < refs.length := by have := HN.out; omega
          obtain ⟨b, off, ha, hblt, hc⟩ := (H.out.1.later (UP.out.trans (HBV.out.mono UP.out.size))).at_ (by omega)
          obtain ⟨y, hy⟩ : ∃ y, y = refs[k] := ⟨_, rfl⟩
          have y1 := hc k hkl 1 _ (by rw [← hy]; rfl)
          have hst : (refs.take (k + 1)).map (·.id) = (refs.take k).map (·.id) ++ [y.id] := by rw [take_snoc' hkl, ← hy, List.map_append]; rfl
          have AD := HR.out.add y.id (by rw [List.length_map, List.length_take]; omega)
          rw [← hst] at AD
          obtain ⟨a0, a1, a2⟩ := y
          dsimp only at y1 AD
          have AD := Lib.hid AD
          subst ha
          clear hc hy hst hblt hkl
          go_wp2_with fail
          refine AD.out.mono ?_
          rintro e w5 ⟨rb, rfl, h5⟩
          have H5 := Lib.hid h5
          clear h5 d0 y1 AD
          go_wp2_with fail
          exact ⟨⟨k + 1, by simp, by omega, H5⟩, by simp [intOf]; omega⟩
        · have ki : decide (k < n1) = false := decide_eq_false (by omega)
          obtain rfl : n1 = k := by omega
          have hp := HR.out
          rw [show refs.take n1 = refs by rw [HN.out.1, List.take_length]] at hp
          have HS5 := Lib.hid (show WnSt w3 g (refs.map (·.id) ++ (LV.take 0).map (·.id)) wr from by rw [List.take_zero, List.map_nil, List.append_nil]; exact hp)
          clear hge hp HR HBV
          go_wp2_with fail
          clear d0 ki kw
          go_loopw [18] (fun i wr => ∃ k : Nat, i = .int .i64 (k : Int) ∧ k ≤ nL ∧ Hid (WnSt w3 g (refs.map (·.id) ++ (LV.take k).map (·.id)) wr)) (fun i _ => nL - (intOf i).toNat)
          case atStart => exact ⟨0, rfl, Nat.zero_le _, HS5⟩
          case round =>
            obtain ⟨k, rfl, hkn, HR⟩ := hrel
            clear HS5
            have kw : IntKind.i64.wrap ((k : Int) + 1) = ((k + 1 : Nat) : Int) := IntWalk.i64_in _ (by omega)
            have HBV := Lib.hid (HVW.out wr HR.out.below)
            rcases Nat.lt_or_ge k nL with hlt | hge
            · have ki : (k : Int) < nL := by omega
              have hkl : k < LV.length := by have := HVR.out.2; omega
              obtain ⟨b, off, ha, hblt, hc⟩ := (HVR.out.1.later HBV.out).at_ (by omega)
              obtain ⟨y, hy⟩ : ∃ y, y = LV[k] := ⟨_, rfl⟩
              have y1 := hc k hkl 2 _ (by rw [← hy]; rfl)
              have hst : refs.map (·.id) ++ (LV.take (k + 1)).map (·.id) = refs.map (·.id) ++ (LV.take k).map (·.id) ++ [y.id] := by rw [take_snoc' hkl, ← hy, List.map_append, List.append_assoc]; rfl
              have AD := HR.out.add y.id (by rw [List.length_append, List.length_map, List.length_map, List.length_take]; have := HN.out; have := HNM.out; omega)
              rw [← hst] at AD
              obtain ⟨a0, a1, a2⟩ := y
              dsimp only at y1 AD
              have AD := Lib.hid AD
              subst ha
              clear hc hy hst hblt hkl
              go_wp2_with fail
              refine AD.out.mono ?_
              rintro e w5 ⟨rb, rfl, h5⟩
              have H5 := Lib.hid h5
              clear h5 y1 AD
              go_wp2_with fail
              exact ⟨⟨k + 1, by simp, by omega, H5⟩, by simp [intOf]; omega⟩
            · have ki : decide (k < nL) = false := decide_eq_false (by omega)
              obtain rfl : nL = k := by omega
              have hp := HR.out
              rw [show LV.take nL = LV by rw [HVR.out.2, List.take_length], ← HP.out.2.2.1] at hp
              have HF := Lib.hid hp
              have HFL := Lib.hid (show RT.length ≤ 1000000 by rw [HP.out.2.2.1, List.length_append, List.length_map, List.length_map]; have := HN.out; have := HNM.out; have := HVR.out.2; omega)
              have d0 : wr.cell? ⟨w.heap.size, 0, none⟩ = some (.slice o1 n1 f1) := v0 ⟨wr, HBV.out⟩
              have d1 : wr.cell? ⟨w.heap.size, 1, none⟩ = some (.slice o2 n2 f2) := v1 ⟨wr, HBV.out⟩
              have d2 : wr.cell? ⟨w.heap.size, 2, none⟩ = some (.slice o3 n3 f3) := v2 ⟨wr, HBV.out⟩
              clear hge hp HR
              go_wp2_with fail
              refine (RTT.out hs.out.small (by have := HN.out; have := HNM.out; omega) ⟨wr, UP.out.trans (HBV.out.mono UP.out.size)⟩).mono ?_
              rintro e w9 ⟨v9, l9, rfl, hv9, hi9, hb9⟩
              obtain ⟨o9, f9, hq9, -, -, -⟩ := hv9.form
              subst hq9
              have HV9 := Lib.hid (And.intro (StrAt.of_sl hv9) hi9)
              have hF9 := HF.out.later hb9
              obtain ⟨kv, vv, l, g1, g2, g3, g4⟩ := hF9
              have LS := Lib.hid (list_string _ g kv vv l w9 g1 (Nat.le_trans g3 HFL.out))
              have HG := Lib.hid (And.intro g2 (And.intro g3 g4))
              clear hv9 hi9 hb9 g1 g2 g3 g4 d0 d1 d2
              go_wp2_with fail
              refine LS.out.mono ?_
              rintro e w10 ⟨v10, rfl, hv10, hb10⟩
              obtain ⟨o10, f10, hq10, -, -, -⟩ := hv10.form
              subst hq10
              have hll : l9 = l := isOf_unique HV9.out.2 HG.out.1
              have HT := Lib.hid (texts_any _ _ l9 l w10 (HV9.out.1.later hb10) (StrAt.of_sl hv10) (by rw [hll]; exact Nat.le_trans HG.out.2.1 HFL.out) (Nat.le_trans HG.out.2.1 HFL.out))
              rw [eqB_yes hll] at HT
              have HE := Lib.hid (show Below V.heap.size V w10 from HVW.out w10 (HG.out.2.2.trans (hb10.mono HG.out.2.2.size)))
              clear hv10 hb10 hll LS
              go_wp2_with fail
              refine HT.out.mono ?_
              rintro e w11 ⟨rfl, hb11⟩
              have HE11 := Lib.hid (show Below w.heap.size w w11 from HB.out ⟨w11, UP.out.trans ((HE.out.trans (hb11.mono HE.out.size)).mono UP.out.size)⟩)
              clear hb11 HT
              go_wp2_with fail
              go_ret
              exact ⟨rfl, HE11.out⟩
end Go.Proofs.YtngflbakmlddeaaGreat.Mk
