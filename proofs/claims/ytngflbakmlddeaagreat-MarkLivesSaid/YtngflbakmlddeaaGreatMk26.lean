/- mark.Roots, walked. (Layer 12.) -/
import Derived.Test.YtngflbakmlddeaaGreatMk24
import Derived.Test.YtngflbakmlddeaaGreatMkSet
namespace Go.Proofs.YtngflbakmlddeaaGreat.Mk
set_option linter.unusedVariables false
open Go.RowKit Go.Lib
open Set (StrSet Own_ IsOf ins mem_ins ins_rise ins_of ins_length StrPut add_string of_string list_string scells StrOf StrAt)
theorem isOf_ins {ids l : List ByteArray} (x : ByteArray) (h : IsOf ids l) : IsOf (ids ++ [x]) (ins x l) := by
  refine ⟨ins_rise h.1, fun y => ?_⟩
  rw [mem_ins, h.2, List.mem_append, List.mem_singleton]
  exact Or.comm
theorem ins_le {x : ByteArray} {l : List ByteArray} : (ins x l).length ≤ l.length + 1 := by
  by_cases h : x ∈ l
  · rw [ins_of h]; omega
  · rw [ins_length h]; exact Nat.le_refl _
/-- Where Roots stands: the ids in the set. -/
def RtSt (w : World) (g : Nat) (cs : Array Value) (lo hi : Nat) (ids : List ByteArray) (wr : World) : Prop :=
  ∃ kv vv l, StrSet wr (w.heap.size + 1) g kv vv l ∧ IsOf ids l ∧ l.length ≤ ids.length ∧ Below w.heap.size w wr ∧ BlkIs wr w.heap.size 26 cs ∧ ∀ k, Own_ g kv vv k → k < lo ∨ hi ≤ k
theorem RtSt.later {w : World} {g : Nat} {cs : Array Value} {lo hi : Nat} {ids : List ByteArray} {wr w' : World} (h : RtSt w g cs lo hi ids wr) (hb : Below wr.heap.size wr w') : RtSt w g cs lo hi ids w' := by
  obtain ⟨kv, vv, l, h1, h2, h3, h4, h5, h6⟩ := h
  exact ⟨kv, vv, l, h1.later hb, h2, h3, h4.trans (hb.mono h4.size), BlkIs.below h5 hb h5.lt, h6⟩
/-- One id more: what Add leaves. -/
theorem RtSt.add {w : World} {g : Nat} {cs : Array Value} {lo hi : Nat} {ids : List ByteArray} {wr : World} (h : RtSt w g cs lo hi ids wr) (x : ByteArray) (hn : ids.length < 1000000) (hhi : hi ≤ wr.heap.size) (hlo : w.heap.size + 1 ≤ lo) :
    Calls Tryz.prog 22 #[.pointer (some ⟨g, 0, none⟩), .string x] wr fun e w' => ∃ b, e = .returned (.bool b) ∧ RtSt w g cs lo hi (ids ++ [x]) w' ∧ Chg (fun k => (w.heap.size + 1 ≤ k ∧ k < lo) ∨ hi ≤ k) wr w' := by
  obtain ⟨kv, vv, l, h1, h2, h3, h4, h5, h6⟩ := h
  refine (add_string _ g kv vv l x wr h1 (by omega)).mono ?_
  rintro e w' ⟨kv', vv', rfl, hs, hc, ho⟩
  have hge : ∀ k, Own_ g kv vv k → w.heap.size + 1 ≤ k := fun k hk => (h1.own hk).1
  have hb : Below (w.heap.size + 1) wr w' := hc.below h5.lt hge
  refine ⟨_, rfl, ⟨kv', vv', _, hs, isOf_ins x h2, ?_, h4.trans (hb.mono (Nat.le_succ _)), BlkIs.below h5 hb (Nat.lt_succ_self _), fun k hk => ?_⟩, hc.mono fun k _ hk => ?_⟩
  · have := @ins_le x l
    simp only [List.length_append, List.length_singleton]
    omega
  · rcases ho k hk with h | h
    · exact h6 k h
    · exact .inr (Nat.le_trans hhi h)
  · rcases h6 k hk with h | h
    · exact .inl ⟨hge k hk, h⟩
    · exact .inr h
theorem RowAt.chg {α : Type} {k : Nat} {enc : α → List Value} {S : Nat → Prop} {w w' : World} {v : Value} {l : List α} (h : RowAt k enc w v l) (hc : Chg S w w') (hS : 0 < l.length → ∀ b off n c, v = .slice (some ⟨b, off, none⟩) n c → ¬ S b) : RowAt k enc w' v l := by
  obtain ⟨ao, cap, hv, h1, h2, h3⟩ := h
  refine ⟨ao, cap, hv, h1, h2, fun hn => ?_⟩
  obtain ⟨b, off, ha, hlt, hx⟩ := h3 hn
  refine ⟨b, off, ha, Nat.lt_of_lt_of_le hlt hc.size, fun i hi j u hu => ?_⟩
  rw [World.cell?_of_block (w := w) (hc.block b hlt (hS hn b off _ _ (by rw [hv, ha])))]
  exact hx i hi j u hu
/-- The ids that must be kept. -/
noncomputable def rootIds (m : Mks) (n : Int) : List ByteArray := m.refs.map (·.id) ++ (liveL m n).map (·.id)
set_option maxRecDepth 100000 in
set_option maxHeartbeats 8000000 in
theorem roots_any (m : MkR) (n : Int) (w : World) (h : m.Reads w) (hs : m.Small) (hrt : m.refs.length + m.toks.length ≤ 900000) : Calls Tryz.prog 24 #[aMk m, .int .i64 n] w fun e w' => ∃ v l, e = .returned v ∧ SlIs w' (w.heap.size + 1) 9 1 v l.length (scells l) ∧ IsOf (rootIds m.mk_ n) l ∧ Below w.heap.size w w' := by
  have HM := Lib.hid (And.intro h hs)
  obtain ⟨L, hL⟩ : ∃ L, L = liveL m.mk_ n := ⟨_, rfl⟩
  have hLl : L.length ≤ m.toks.length := by rw [hL]; exact List.length_filter_le _ _
  have HL := Lib.hid hL
  obtain ⟨M, hM⟩ : ∃ M, M = m := ⟨_, rfl⟩
  rw [← hM] at HM HL
  have HRI := Lib.hid (show rootIds m.mk_ n = M.refs.map (·.id) ++ L.map (·.id) by rw [hM, hL]; rfl)
  have HMM := Lib.hid hM
  obtain ⟨refs, toks, zs, rv, kv, bv⟩ := m
  obtain ⟨h1, h2, h3, h4⟩ := h
  dsimp only at h1 h2 h3 h4 hrt hLl
  obtain ⟨R, hR⟩ : ∃ R, R = rootIds (MkR.mk_ ⟨refs, toks, zs, rv, kv, bv⟩) n := ⟨_, rfl⟩
  rw [← hR] at HRI ⊢
  show Calls Tryz.prog 24 #[.agg #[rv, kv, bv], .int .i64 n] w fun e w' => ∃ v l, e = .returned v ∧ SlIs w' (w.heap.size + 1) 9 1 v l.length (scells l) ∧ IsOf R l ∧ Below w.heap.size w w'
  obtain ⟨o1, f1, hr1, -, -⟩ := h1.form
  obtain ⟨o2, f2, hr2, -, -⟩ := h2.form
  obtain ⟨o3, f3, hr3, -, -⟩ := h3.form
  obtain ⟨n1, hn1⟩ : ∃ k, k = refs.length := ⟨_, rfl⟩
  obtain ⟨n2, hn2⟩ : ∃ k, k = toks.length := ⟨_, rfl⟩
  obtain ⟨n3, hn3⟩ : ∃ k, k = zs.length := ⟨_, rfl⟩
  rw [← hn1] at hr1 hrt
  rw [← hn2] at hr2 hrt hLl
  rw [← hn3] at hr3
  subst hr1 hr2 hr3
  have HME := Lib.hid (show aMk M = .agg #[.slice o1 n1 f1, .slice o2 n2 f2, .slice o3 n3 f3] ∧ M.refs = refs by rw [HMM.out]; exact ⟨rfl, rfl⟩)
  obtain ⟨W1, hW1⟩ : ∃ W1, W1 = w.alloc (.cells #[.slice o1 n1 f1, .slice o2 n2 f2, .slice o3 n3 f3] 26) := ⟨_, rfl⟩
  have hsz : W1.heap.size = w.heap.size + 1 := by rw [hW1]; simp
  have hb1 : Below w.heap.size w W1 := by rw [hW1]; exact (Below.refl _ _).alloc (Nat.le_refl _) _
  have k0 : BlkIs W1 w.heap.size 26 #[.slice o1 n1 f1, .slice o2 n2 f2, .slice o3 n3 f3] := by rw [hW1]; exact BlkIs.new _ _ _
  have OF := Lib.hid (of_string (.slice none 0 0) [] W1 ⟨none, 0, rfl, Nat.zero_le _, by decide, fun hh => absurd hh (Nat.lt_irrefl _)⟩ (by decide))
  have H := Lib.hid h1
  have HN := Lib.hid hn1
  have HK := Lib.hid (And.intro hsz (And.intro hb1 k0))
  have HW := Lib.hid hW1
  clear h1 h2 h3 h4 hn1 hn2 hn3 hW1 hs hL hM hR hsz hb1 k0
  go_enter Tryz.func24, Tryz.ntmps24
  go_wp2_with fail
  rw [← HW.out]
  refine OF.out.mono ?_
  rintro e w2 ⟨g, kv, vv, l, rfl, hio, hst, hb2⟩
  have hS : RtSt w g #[.slice o1 n1 f1, .slice o2 n2 f2, .slice o3 n3 f3] w2.heap.size w2.heap.size [] w2 := by
    obtain ⟨hsz, hb1, k0⟩ := HK.out
    rw [hsz] at hst
    have hl0 : l = [] := by
      cases l with
      | nil => rfl
      | cons x l => exact absurd ((hio.2 x).1 (by simp)) (by simp)
    refine ⟨kv, vv, l, hst, hio, by rw [hl0]; exact Nat.le_refl _, hb1.trans (hb2.mono (by omega)), BlkIs.below k0 hb2 k0.lt, fun k hk => .inl (hst.own hk).2⟩
  have d1 : w2.cell? ⟨w.heap.size, 0, none⟩ = some (.slice o1 n1 f1) := by
    obtain ⟨kv, vv, l, q1, q2, q3, q4, q5, q6⟩ := hS
    exact q5.cell 0
  have HS := Lib.hid hS
  have hlo : w.heap.size + 1 ≤ w2.heap.size := by
    obtain ⟨kv, vv, l, q1, q2, q3, q4, q5, q6⟩ := hS
    exact q5.lt
  have HLO := Lib.hid hlo
  clear OF HW HK hio hst hb2 hS hlo
  go_wp2_with fail
  clear d1
  obtain ⟨B, hB⟩ : ∃ B, B = w2.heap.size := ⟨_, rfl⟩
  rw [← hB] at HLO
  have HS' := HS.out
  rw [← hB] at HS'
  have HS := Lib.hid (And.intro HS' (show B ≤ w2.heap.size from Nat.le_of_eq hB))
  clear HS' hB
  go_loopw [14] (fun s wr => ∃ k : Nat, s = .int .i64 (k : Int) ∧ k ≤ n1 ∧ Hid (RtSt w g #[.slice o1 n1 f1, .slice o2 n2 f2, .slice o3 n3 f3] B B ((refs.take k).map (·.id)) wr ∧ B ≤ wr.heap.size)) (fun i _ => n1 - (intOf i).toNat)
  case atStart => exact ⟨0, rfl, Nat.zero_le _, HS⟩
  case round =>
    clear HS
    obtain ⟨k, rfl, hkn, HR⟩ := hrel
    rcases Nat.lt_or_ge k n1 with hlt | hge
    · have ki : (k : Int) < n1 := by omega
      have kw : IntKind.i64.wrap ((k : Int) + 1) = ((k + 1 : Nat) : Int) := IntWalk.i64_in _ (by omega)
      have hkl : k < refs.length := by have := HN.out; omega
      have hbw : Below w.heap.size w wr := by obtain ⟨kv, vv, l, q1, q2, q3, q4, q5, q6⟩ := HR.out.1; exact q4
      obtain ⟨b, off, ha, hblt, hc⟩ := (H.out.later hbw).at_ (by omega)
      obtain ⟨x, hx⟩ : ∃ x, x = refs[k] := ⟨_, rfl⟩
      have e0 := hc k hkl 0 _ (by rw [← hx]; rfl)
      have e1 := hc k hkl 1 _ (by rw [← hx]; rfl)
      have e2 := hc k hkl 2 _ (by rw [← hx]; rfl)
      have HX := Lib.hid (show refs[k]? = some x by rw [List.getElem?_eq_getElem hkl, ← hx])
      obtain ⟨a0, a1, a2⟩ := x
      dsimp only at e0 e1 e2
      rw [show off + k * 3 + 0 = off + k * 3 from rfl] at e0
      subst ha
      have hRA := HR.out.1.later ((Below.refl wr.heap.size wr).alloc (Nat.le_refl _) (.cells #[.string a0, .string a1, .int .i64 a2] 47))
      have AD := Lib.hid (RtSt.add hRA a1 (by rw [List.length_map, List.length_take]; omega) (by have := HR.out.2; simp; omega) HLO.out)
      have hst : ((refs.take (k + 1)).map (·.id)) = (refs.take k).map (·.id) ++ [a1] := by
        rw [List.take_add_one, HX.out, List.map_append]
        rfl
      have HSt := Lib.hid hst
      clear hst hblt hc hx hkl hbw hRA
      go_wp2_with fail
      refine AD.out.mono ?_
      rintro e w5 ⟨rb, rfl, hr5, hc5⟩
      rw [← HSt.out] at hr5
      have H5 := Lib.hid (And.intro hr5 (show B ≤ w5.heap.size from Nat.le_trans HR.out.2 (Nat.le_trans (by simp) hc5.size)))
      clear AD hr5 hc5
      go_wp2_with fail
      exact ⟨⟨k + 1, by simp, by omega, H5⟩, by simp [intOf]; omega⟩
    · have ki : decide (k < n1) = false := decide_eq_false (by omega)
      obtain rfl : n1 = k := by omega
      have hRT := HR.out.1
      rw [List.take_of_length_le (by rw [HN.out]; exact Nat.le_refl _)] at hRT
      obtain ⟨kv, vv, l, q1, q2, q3, q4, q5, -⟩ := hRT
      have d0 : wr.cell? ⟨w.heap.size, 0, none⟩ = some (.slice o1 n1 f1) := q5.cell 0
      have d1 : wr.cell? ⟨w.heap.size, 1, none⟩ = some (.slice o2 n2 f2) := q5.cell 1
      have d2 : wr.cell? ⟨w.heap.size, 2, none⟩ = some (.slice o3 n3 f3) := q5.cell 2
      have LV := live_any M n wr (HM.out.1.later q4) HM.out.2
      rw [HME.out.1, ← HL.out] at LV
      have LV := Lib.hid LV
      have HQ := Lib.hid (show ∃ kv vv l, StrSet wr (w.heap.size + 1) g kv vv l ∧ IsOf (refs.map (·.id)) l ∧ l.length ≤ (refs.map (·.id)).length ∧ Below w.heap.size w wr ∧ BlkIs wr w.heap.size 26 #[.slice o1 n1 f1, .slice o2 n2 f2, .slice o3 n3 f3] from ⟨kv, vv, l, q1, q2, q3, q4, q5⟩)
      have HLW := Lib.hid (show w.heap.size + 1 ≤ wr.heap.size from q5.lt)
      clear q1 q2 q3 q4 q5
      go_wp2_with fail
      refine LV.out.mono ?_
      rintro e w5 ⟨v5, rfl, hr5, hb5, hge5⟩
      clear LV d0 d1 d2
      obtain ⟨o5, c5, hv5, -, -⟩ := hr5.form
      obtain ⟨n5, hn5⟩ : ∃ q, q = L.length := ⟨_, rfl⟩
      rw [← hn5] at hv5 hLl
      subst hv5
      obtain ⟨lo, hlo⟩ : ∃ q, q = wr.heap.size := ⟨_, rfl⟩
      obtain ⟨hi, hhi⟩ : ∃ q, q = w5.heap.size := ⟨_, rfl⟩
      have HQ5 := Lib.hid (show RtSt w g #[.slice o1 n1 f1, .slice o2 n2 f2, .slice o3 n3 f3] lo hi (refs.map (·.id) ++ (L.take 0).map (·.id)) w5 ∧ RowAt 3 vTok w5 (.slice o5 n5 c5) L ∧ hi ≤ w5.heap.size from by
        refine ⟨?_, hr5, Nat.le_of_eq hhi⟩
        obtain ⟨kv, vv, l, q1, q2, q3, q4, q5⟩ := HQ.out
        rw [List.take_zero, List.map_nil, List.append_nil]
        exact ⟨kv, vv, l, q1.later hb5, q2, q3, q4.trans (hb5.mono q4.size), BlkIs.below q5 hb5 q5.lt, fun k hk => .inl (by have := (q1.own hk).2; omega)⟩)
      have HGE := Lib.hid (show (0 < L.length → ∀ b off n c, (Value.slice o5 n5 c5) = .slice (some ⟨b, off, none⟩) n c → lo ≤ b ∧ b < hi) from fun hn b off n' c hv => by
        refine ⟨by rw [hlo]; exact hge5 hn b off n' c hv, ?_⟩
        obtain ⟨b', off', ha, hlt, -⟩ := hr5.at_ (by rw [hn5]; exact hn)
        injection hv with i1 i2 i3
        rw [ha] at i1
        injection i1 with i1
        injection i1 with i1 i4
        subst i1
        rw [hhi]
        exact hlt)
      have HLO2 := Lib.hid (show w.heap.size + 1 ≤ lo by have := HLW.out; omega)
      have HN5 := Lib.hid hn5
      clear hr5 hb5 hge5 hn5 hlo hhi HQ HLW HR
      go_wp2_with fail
      go_loopw [27] (fun s wr => ∃ k : Nat, s = .int .i64 (k : Int) ∧ k ≤ n5 ∧ Hid (RtSt w g #[.slice o1 n1 f1, .slice o2 n2 f2, .slice o3 n3 f3] lo hi (refs.map (·.id) ++ (L.take k).map (·.id)) wr ∧ RowAt 3 vTok wr (.slice o5 n5 c5) L ∧ hi ≤ wr.heap.size)) (fun i _ => n5 - (intOf i).toNat)
      case atStart => exact ⟨0, rfl, Nat.zero_le _, HQ5⟩
      case round =>
        clear HQ5
        obtain ⟨k, rfl, hkn5, HR5⟩ := hrel
        rcases Nat.lt_or_ge k n5 with hlt | hge
        · have ki5 : (k : Int) < n5 := by omega
          have kw5 : IntKind.i64.wrap ((k : Int) + 1) = ((k + 1 : Nat) : Int) := IntWalk.i64_in _ (by omega)
          have hkl : k < L.length := by have := HN5.out; omega
          obtain ⟨b, off, ha, hblt, hc⟩ := HR5.out.2.1.at_ (by omega)
          obtain ⟨x, hx⟩ : ∃ x, x = L[k] := ⟨_, rfl⟩
          have e0 := hc k hkl 0 _ (by rw [← hx]; rfl)
          have e1 := hc k hkl 1 _ (by rw [← hx]; rfl)
          have e2 := hc k hkl 2 _ (by rw [← hx]; rfl)
          have HX := Lib.hid (show L[k]? = some x by rw [List.getElem?_eq_getElem hkl, ← hx])
          obtain ⟨a0, a1, a2⟩ := x
          dsimp only at e0 e1 e2
          rw [show off + k * 3 + 0 = off + k * 3 from rfl] at e0
          subst ha
          have hba : Below wr.heap.size wr (wr.alloc (.cells #[.int .i64 a0, .int .i64 a1, .string a2] 43)) := (Below.refl wr.heap.size wr).alloc (Nat.le_refl _) _
          have hRA := HR5.out.1.later hba
          have hRW := HR5.out.2.1.later hba
          have AD := Lib.hid (RtSt.add hRA a2 (by simp only [List.length_append, List.length_map, List.length_take]; have := HN.out; omega) (Nat.le_trans HR5.out.2.2 (by simp)) HLO2.out)
          have hst : (refs.map (·.id) ++ (L.take (k + 1)).map (·.id)) = (refs.map (·.id) ++ (L.take k).map (·.id)) ++ [a2] := by
            rw [List.take_add_one, HX.out, List.map_append, List.append_assoc]
            rfl
          have HSt := Lib.hid hst
          have HRW := Lib.hid hRW
          clear hst hblt hc hx hkl hRA hRW hba
          go_wp2_with fail
          refine AD.out.mono ?_
          rintro e w6 ⟨rb, rfl, hr6, hc6⟩
          rw [← HSt.out] at hr6
          have hrow6 := RowAt.chg HRW.out hc6 (fun hn b' off' n' c' hv hS => by
            have := HGE.out hn b' off' n' c' hv
            rcases hS with ⟨_, h2⟩ | h2 <;> omega)
          have H6 := Lib.hid (And.intro hr6 (And.intro hrow6 (show hi ≤ w6.heap.size from Nat.le_trans HR5.out.2.2 (Nat.le_trans (by simp) hc6.size))))
          clear AD hr6 hc6 hrow6
          go_wp2_with fail
          exact ⟨⟨k + 1, by simp, by omega, H6⟩, by simp [intOf]; omega⟩
        · have ki5 : decide (k < n5) = false := decide_eq_false (by omega)
          obtain rfl : n5 = k := by omega
          obtain ⟨kv, vv, l, q1, q2, q3, q4, q5, q6⟩ := HR5.out.1
          rw [List.take_of_length_le (by rw [HN5.out]; exact Nat.le_refl _)] at q2 q3
          have LS := Lib.hid (list_string _ g kv vv l wr q1 (by simp only [List.length_append, List.length_map] at q3; have := HN.out; have := HN5.out; omega))
          have hR2 := HRI.out
          rw [HME.out.2] at hR2
          rw [← hR2] at q2
          have HIO := Lib.hid q2
          have HB4 := Lib.hid (And.intro q4 q5.lt)
          clear q1 q2 q3 q4 q5 q6 hR2
          go_wp2_with fail
          refine LS.out.mono ?_
          rintro e w7 ⟨v7, rfl, hs7, hb7⟩
          have H7 := Lib.hid (And.intro (hs7.mono (base' := w.heap.size + 1) HB4.out.2) (HB4.out.1.trans (hb7.mono HB4.out.1.size)))
          clear LS hs7 hb7
          go_wp2_with fail
          go_ret
          exact ⟨_, l, rfl, H7.out.1, HIO.out, H7.out.2⟩
end Go.Proofs.YtngflbakmlddeaaGreat.Mk
