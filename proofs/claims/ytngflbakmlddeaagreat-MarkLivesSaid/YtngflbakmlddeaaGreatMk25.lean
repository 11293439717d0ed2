/- mark.Next, walked. (Layer 12.) -/
import Derived.Test.YtngflbakmlddeaaGreatMk16
import Derived.Test.YtngflbakmlddeaaGreatMk11
import Derived.Test.YtngflbakmlddeaaGreatShelf
import Derived.Lib.SliceRun
namespace Go.Proofs.YtngflbakmlddeaaGreat.Mk
set_option linter.unusedVariables false
open Go.RowKit Go.Lib
/-- The numbers of what a node has laid down. -/
def usedT (l : List Tok) (node : Int) : List Int := (l.filter fun x => decide (x.node = node)).map (·.n)
def usedB (l : List Tb) (node : Int) : List Int := (l.filter fun x => decide (x.node = node)).map (·.n)
def usedM (m : Mks) (node : Int) : List Int := usedT m.toks node ++ usedB m.tombs node
def nextL (m : Mks) (node : Int) : Int := if usedM m node = [] then 1 else wrap64 (Lib.maxOf (usedM m node) + 1)
theorem usedT_snoc (l : List Tok) (x : Tok) (node : Int) : usedT (l ++ [x]) node = usedT l node ++ if x.node = node then [x.n] else [] := by
  unfold usedT
  rw [List.filter_append, List.map_append]
  by_cases h : x.node = node <;> simp [h]
theorem usedB_snoc (l : List Tb) (x : Tb) (node : Int) : usedB (l ++ [x]) node = usedB l node ++ if x.node = node then [x.n] else [] := by
  unfold usedB
  rw [List.filter_append, List.map_append]
  by_cases h : x.node = node <;> simp [h]
theorem usedT_len (l : List Tok) (node : Int) : (usedT l node).length ≤ l.length := by unfold usedT; rw [List.length_map]; exact List.length_filter_le _ _
theorem usedB_len (l : List Tb) (node : Int) : (usedB l node).length ≤ l.length := by unfold usedB; rw [List.length_map]; exact List.length_filter_le _ _
/-- Where Next stands: the numbers gathered. -/
def NxSt (w : World) (cs : Array Value) (ao : Option Addr) (n c : Nat) (l : List Int) (wr : World) : Prop :=
  n = l.length ∧ SlIs wr w.heap.size 3 1 (.slice ao n c) n (rowCells vInt l) ∧ (l = [] → ao = none) ∧ Below w.heap.size w wr ∧ BlkIs wr w.heap.size 26 cs
theorem NxSt.later {w : World} {cs : Array Value} {ao : Option Addr} {n c : Nat} {l : List Int} {wr w' : World} (h : NxSt w cs ao n c l wr) (hb : Below wr.heap.size wr w') : NxSt w cs ao n c l w' :=
  ⟨h.1, h.2.1.later hb, h.2.2.1, h.2.2.2.1.trans (hb.mono h.2.2.2.1.size), BlkIs.below h.2.2.2.2 hb h.2.2.2.2.lt⟩
theorem NxSt.app {w : World} {cs : Array Value} {ao ao' : Option Addr} {n c c' : Nat} {l : List Int} {x : Int} {wr w' : World} (h : NxSt w cs ao n c l wr) (hs : SlIs w' w.heap.size 3 1 (.slice ao' (n + 1) c') (n + 1) (rowCells vInt l ++ [.int .i64 x])) (hg : wr.grownBy w' (Value.slice ao n c).ownBlock) : NxSt w cs ao' (n + 1) c' (l ++ [x]) w' := by
  have hne : (Value.slice ao n c).ownBlock ≠ some w.heap.size := h.2.1.ne_blk h.2.2.2.2 (by decide)
  have ho : ∀ k, (Value.slice ao n c).ownBlock = some k → w.heap.size ≤ k := fun k hk => (h.2.1.lt k hk).1
  refine ⟨by simp [h.1], ?_, fun e => by simp at e, h.2.2.2.1.grown hg h.2.2.2.1.size ho, BlkIs.grown h.2.2.2.2 hg (fun e => hne e.symm)⟩
  rw [rowCells_app, rowCells_one]
  exact hs
set_option maxRecDepth 100000 in
set_option maxHeartbeats 8000000 in
theorem next_any (m : MkR) (node : Int) (w : World) (h : m.Reads w) (hs : m.Small) : Calls Tryz.prog 26 #[aMk m, .int .i64 node] w fun e w' => e = .returned (.int .i64 (nextL m.mk_ node)) ∧ Below w.heap.size w w' := by
  obtain ⟨refs, toks, zs, rv, kv, bv⟩ := m
  obtain ⟨h1, h2, h3, h4⟩ := h
  obtain ⟨s1, s2, s3, s4⟩ := hs
  dsimp only at h1 h2 h3 h4 s1 s2 s3 s4
  obtain ⟨R, hR⟩ : ∃ R, R = nextL (MkR.mk_ ⟨refs, toks, zs, rv, kv, bv⟩) node := ⟨_, rfl⟩
  have HR := Lib.hid (show R = if usedT toks node ++ usedB (zs.map (·.t)) node = [] then 1 else wrap64 (Lib.maxOf (usedT toks node ++ usedB (zs.map (·.t)) node) + 1) from hR)
  rw [← hR]
  show Calls Tryz.prog 26 #[.agg #[rv, kv, bv], .int .i64 node] w fun e w' => e = .returned (.int .i64 R) ∧ Below w.heap.size w w'
  obtain ⟨o1, f1, hr1, -, -⟩ := h1.form
  obtain ⟨o2, f2, hr2, -, -⟩ := h2.form
  obtain ⟨o3, f3, hr3, -, -⟩ := h3.form
  obtain ⟨n1, hn1⟩ : ∃ k, k = refs.length := ⟨_, rfl⟩
  obtain ⟨n2, hn2⟩ : ∃ k, k = toks.length := ⟨_, rfl⟩
  obtain ⟨n3, hn3⟩ : ∃ k, k = zs.length := ⟨_, rfl⟩
  rw [← hn1] at hr1
  rw [← hn2] at hr2 s2
  rw [← hn3] at hr3 s3
  subst hr1 hr2 hr3
  obtain ⟨W1, hW1⟩ : ∃ W1, W1 = w.alloc (.cells #[.slice o1 n1 f1, .slice o2 n2 f2, .slice o3 n3 f3] 26) := ⟨_, rfl⟩
  have HST := Lib.hid (show NxSt w #[.slice o1 n1 f1, .slice o2 n2 f2, .slice o3 n3 f3] none 0 0 [] W1 from by
    refine ⟨rfl, SlIs.nil_ _ _ _ _, fun _ => rfl, ?_, ?_⟩
    · rw [hW1]; exact (Below.refl _ _).alloc (Nat.le_refl _) _
    · rw [hW1]; exact BlkIs.new _ _ _)
  have H := Lib.hid (And.intro h2 h3)
  have HN := Lib.hid (And.intro hn2 hn3)
  have H4 := Lib.hid h4
  have HW := Lib.hid hW1
  have d1 : W1.cell? ⟨w.heap.size, 1, none⟩ = some (.slice o2 n2 f2) := HST.out.2.2.2.2.cell 1
  clear h1 h2 h3 h4 hn1 hn2 hn3 hW1 s4 hR s1
  go_enter Tryz.func26, Tryz.ntmps26
  go_wp2_with fail
  rw [← HW.out]
  clear HW d1
  go_loopw [5, 13] (fun o s wr => ∃ (k n c : Nat) (ao : Option Addr), o = .slice ao n c ∧ s = .int .i64 (k : Int) ∧ k ≤ n2 ∧ n ≤ k ∧ Hid (NxSt w #[.slice o1 n1 f1, .slice o2 n2 f2, .slice o3 n3 f3] ao n c (usedT (toks.take k) node) wr)) (fun _ i _ => n2 - (intOf i).toNat)
  case atStart => exact ⟨0, 0, 0, none, rfl, rfl, Nat.zero_le _, Nat.zero_le _, HST⟩
  case round =>
    obtain ⟨k, n, c, ao, rfl, rfl, hkn, hnk, HL⟩ := hrel
    rcases Nat.lt_or_ge k n2 with hlt | hge
    · have ki : (k : Int) < n2 := by omega
      have kw : IntKind.i64.wrap ((k : Int) + 1) = ((k + 1 : Nat) : Int) := IntWalk.i64_in _ (by omega)
      have hkl : k < toks.length := by have := HN.out.1; omega
      obtain ⟨b, off, ha, hblt, hc⟩ := (H.out.1.later HL.out.2.2.2.1).at_ (by omega)
      obtain ⟨x, hx⟩ : ∃ x, x = toks[k] := ⟨_, rfl⟩
      have e0 := hc k hkl 0 _ (by rw [← hx]; rfl)
      have e1 := hc k hkl 1 _ (by rw [← hx]; rfl)
      have e2 := hc k hkl 2 _ (by rw [← hx]; rfl)
      have HX := Lib.hid (show toks[k]? = some x by rw [List.getElem?_eq_getElem hkl, ← hx])
      obtain ⟨a0, a1, a2⟩ := x
      dsimp only at e0 e1 e2 HX
      rw [show off + k * 3 + 0 = off + k * 3 from rfl] at e0
      subst ha
      clear hblt hc hx hkl
      have hlw : w.heap.size < wr.heap.size := HL.out.2.2.2.2.lt
      have HLA := Lib.hid (show NxSt w #[.slice o1 n1 f1, .slice (some ⟨b, off, none⟩) n2 f2, .slice o3 n3 f3] ao n c (usedT (toks.take k) node) (wr.alloc (.cells #[.int .i64 a0, .int .i64 a1, .string a2] 43)) from HL.out.later ((Below.refl _ _).alloc (Nat.le_refl _) _))
      have hst : usedT (toks.take (k + 1)) node = usedT (toks.take k) node ++ if a0 = node then [a1] else [] := by
        rw [List.take_add_one, HX.out]
        exact usedT_snoc _ _ _
      have HSt := Lib.hid hst
      clear hst
      by_cases hq : a0 = node
      · subst hq
        have q0 : (a0 == a0) = true := by simp
        have hnl := HLA.out.1
        have hsl := HLA.out.2.1
        have Hsl := Lib.hid hsl
        clear hsl hnl
        have hn1 : n ≤ 2000000 := by omega
        go_wp2_with (refine wpList_append_sl rfl _ _ _ 38 (by rfl) el_int (base := w.heap.size) (.slice ao n c) n (rowCells vInt (usedT (toks.take k) a0)) (by rfl) (Hsl.out.alloc _) _ 1 [Value.int .i64 a1] (by rfl) (SrcIs.own Tryz.underlying38 (SlIs.made (base := 0) (BlkIs.new2 _ _ _ _) (Nat.zero_le _) rfl (by decide))) (by intro u hu; simp at hu; rw [hu]; rfl) (by unfold maxLen; omega) (by omega) (by have := HLA.out.2.2.2.1.size; simp at this ⊢; omega) ?_)
        intro v5 w5 hs5 hg5 hat5
        obtain ⟨ao5, c5, rfl, -, -, -⟩ := hs5.form
        have hap := NxSt.app (HLA.out.later ((Below.refl _ _).alloc (Nat.le_refl _) (.cells #[.int .i64 a1] 3))) hs5 hg5
        rw [show usedT (toks.take k) a0 ++ [a1] = usedT (toks.take (k + 1)) a0 by rw [HSt.out]; simp] at hap
        have HAP := Lib.hid hap
        clear hs5 hg5 hat5 hap
        go_wp2_with fail
        exact ⟨⟨k + 1, n + 1, c5, ao5, rfl, by simp, by omega, by omega, HAP⟩, by simp [intOf]; omega⟩
      · have q0 : (a0 == node) = false := by simpa using hq
        have HAP := HLA.out
        rw [show usedT (toks.take k) node = usedT (toks.take (k + 1)) node by rw [HSt.out, if_neg hq, List.append_nil]] at HAP
        have HAP := Lib.hid HAP
        clear hq
        go_wp2_with fail
        exact ⟨⟨k + 1, n, c, ao, rfl, by simp, by omega, by omega, HAP⟩, by simp [intOf]; omega⟩
    · have ki : decide (k < n2) = false := decide_eq_false (by omega)
      obtain rfl : n2 = k := by omega
      have hT : usedT (toks.take n2) node = usedT toks node := by rw [List.take_of_length_le (by rw [HN.out.1]; exact Nat.le_refl _)]
      have hL := HL.out
      rw [hT] at hL
      have d2 : wr.cell? ⟨w.heap.size, 2, none⟩ = some (.slice o3 n3 f3) := hL.2.2.2.2.cell 2
      have HL2 := Lib.hid (show NxSt w #[.slice o1 n1 f1, .slice o2 n2 f2, .slice o3 n3 f3] ao n c (usedT toks node ++ usedB ((zs.map (·.t)).take 0) node) wr from by
        rw [List.take_zero, show usedB [] node = [] from rfl, List.append_nil]; exact hL)
      clear hL hT HL
      go_wp2_with fail
      clear d2
      go_loopw [5, 30] (fun o s wr => ∃ (k n c : Nat) (ao : Option Addr), o = .slice ao n c ∧ s = .int .i64 (k : Int) ∧ k ≤ n3 ∧ n ≤ n2 + k ∧ Hid (NxSt w #[.slice o1 n1 f1, .slice o2 n2 f2, .slice o3 n3 f3] ao n c (usedT toks node ++ usedB ((zs.map (·.t)).take k) node) wr)) (fun _ i _ => n3 - (intOf i).toNat)
      case atStart => exact ⟨0, n, c, ao, rfl, rfl, Nat.zero_le _, by omega, HL2⟩
      case round =>
        obtain ⟨k, n, c, ao, rfl, rfl, hkn, hnk, HL⟩ := hrel
        rcases Nat.lt_or_ge k n3 with hlt | hge
        · have ki : (k : Int) < n3 := by omega
          have kw : IntKind.i64.wrap ((k : Int) + 1) = ((k + 1 : Nat) : Int) := IntWalk.i64_in _ (by omega)
          have hkl : k < zs.length := by have := HN.out.2; omega
          obtain ⟨b, off, ha, hblt, hc⟩ := (H.out.2.later HL.out.2.2.2.1).at_ (by omega)
          obtain ⟨x, hx⟩ : ∃ x, x = zs[k] := ⟨_, rfl⟩
          have e0 := hc k hkl 0 _ (by rw [← hx]; rfl)
          have e1 := hc k hkl 1 _ (by rw [← hx]; rfl)
          have e2 := hc k hkl 2 _ (by rw [← hx]; rfl)
          have e3 := hc k hkl 3 _ (by rw [← hx]; rfl)
          have e4 := hc k hkl 4 _ (by rw [← hx]; rfl)
          have HX := Lib.hid (show (zs.map (·.t))[k]? = some x.t by rw [List.getElem?_map, List.getElem?_eq_getElem hkl, ← hx]; rfl)
          have hz4 := H4.out x (by rw [hx]; exact List.getElem_mem hkl)
          obtain ⟨⟨a0, a1, a2, lc, la⟩, a3, a4⟩ := x
          obtain ⟨oc, fc, hcv, -, -⟩ := hz4.1.form
          obtain ⟨oa, fa, hav, -, -⟩ := hz4.2.form
          dsimp only at hcv hav
          obtain ⟨nc, hnc⟩ : ∃ q, q = lc.length := ⟨_, rfl⟩
          obtain ⟨na, hna⟩ : ∃ q, q = la.length := ⟨_, rfl⟩
          rw [← hnc] at hcv
          rw [← hna] at hav
          subst hcv hav
          clear hz4 hnc hna
          dsimp only at e0 e1 e2 e3 e4 HX
          rw [show off + k * 5 + 0 = off + k * 5 from rfl] at e0
          subst ha
          clear hblt hc hx hkl
          have hlw : w.heap.size < wr.heap.size := HL.out.2.2.2.2.lt
          have HLA := Lib.hid (show NxSt w #[.slice o1 n1 f1, .slice o2 n2 f2, .slice (some ⟨b, off, none⟩) n3 f3] ao n c (usedT toks node ++ usedB ((zs.map (·.t)).take k) node) (wr.alloc (.cells #[.int .i64 a0, .int .i64 a1, .string a2, .slice oc nc fc, .slice oa na fa] 40)) from HL.out.later ((Below.refl _ _).alloc (Nat.le_refl _) _))
          have hst : usedB ((zs.map (·.t)).take (k + 1)) node = usedB ((zs.map (·.t)).take k) node ++ if a0 = node then [a1] else [] := by
            rw [List.take_add_one, HX.out]
            exact usedB_snoc _ _ _
          have HSt := Lib.hid hst
          clear hst
          by_cases hq : a0 = node
          · subst hq
            have q0 : (a0 == a0) = true := by simp
            have hnl := HLA.out.1
            have hsl := HLA.out.2.1
            have Hsl := Lib.hid hsl
            clear hsl hnl
            have hn1 : n ≤ 2000000 := by omega
            go_wp2_with (refine wpList_append_sl rfl _ _ _ 38 (by rfl) el_int (base := w.heap.size) (.slice ao n c) n (rowCells vInt (usedT toks a0 ++ usedB ((zs.map (·.t)).take k) a0)) (by rfl) (Hsl.out.alloc _) _ 1 [Value.int .i64 a1] (by rfl) (SrcIs.own Tryz.underlying38 (SlIs.made (base := 0) (BlkIs.new2 _ _ _ _) (Nat.zero_le _) rfl (by decide))) (by intro u hu; simp at hu; rw [hu]; rfl) (by unfold maxLen; omega) (by omega) (by have := HLA.out.2.2.2.1.size; simp at this ⊢; omega) ?_)
            intro v5 w5 hs5 hg5 hat5
            obtain ⟨ao5, c5, rfl, -, -, -⟩ := hs5.form
            have hap := NxSt.app (HLA.out.later ((Below.refl _ _).alloc (Nat.le_refl _) (.cells #[.int .i64 a1] 3))) hs5 hg5
            rw [List.append_assoc, show usedB ((zs.map (·.t)).take k) a0 ++ [a1] = usedB ((zs.map (·.t)).take (k + 1)) a0 by rw [HSt.out]; simp] at hap
            have HAP := Lib.hid hap
            clear hs5 hg5 hat5 hap
            go_wp2_with fail
            exact ⟨⟨k + 1, n + 1, c5, ao5, rfl, by simp, by omega, by omega, HAP⟩, by simp [intOf]; omega⟩
          · have q0 : (a0 == node) = false := by simpa using hq
            have HAP := HLA.out
            rw [show usedB ((zs.map (·.t)).take k) node = usedB ((zs.map (·.t)).take (k + 1)) node by rw [HSt.out, if_neg hq, List.append_nil]] at HAP
            have HAP := Lib.hid HAP
            clear hq
            go_wp2_with fail
            exact ⟨⟨k + 1, n, c, ao, rfl, by simp, by omega, by omega, HAP⟩, by simp [intOf]; omega⟩
        · have ki : decide (k < n3) = false := decide_eq_false (by omega)
          obtain rfl : n3 = k := by omega
          have hT : usedB ((zs.map (·.t)).take n3) node = usedB (zs.map (·.t)) node := by rw [List.take_of_length_le (by rw [List.length_map, HN.out.2]; exact Nat.le_refl _)]
          have hL := HL.out
          rw [hT] at hL
          obtain ⟨U, hU⟩ : ∃ U, U = usedT toks node ++ usedB (zs.map (·.t)) node := ⟨_, rfl⟩
          have hr := HR.out
          rw [← hU] at hL hr
          have hq := run_eql_slice_nil (P := Tryz.prog) wr 38 3 ao n c 0 0 Tryz.underlying38
          have HBw := Lib.hid hL.2.2.2.1
          by_cases he : U = []
          · have hao := hL.2.2.1 he
            subst hao
            rw [if_pos he] at hr
            change (binOp .eql 38 (.slice none n c) (.slice none 0 0)).run Tryz.prog wr = .ok (.bool true) wr at hq
            clear hT hL hU he HL
            go_wp2_with fail
            go_ret
            exact ⟨by rw [hr]; rfl, HBw.out⟩
          · have h0 : 0 < U.length := List.length_pos_iff.2 he
            rw [if_neg he] at hr
            obtain ⟨g, off, cap, hv, hg, hlt, hcc, hcm, hcell, -⟩ := hL.2.1.at_ (by rw [hL.1]; exact h0)
            injection hv with e1 e2 e3
            subst e1
            change (binOp .eql 38 (.slice (some ⟨g, off, none⟩) n c) (.slice none 0 0)).run Tryz.prog wr = .ok (.bool false) wr at hq
            have hUl : (rowCells vInt U).length = U.length := by rw [rowCells_len (enc := vInt) (k := 1) (fun _ => rfl)]; omega
            have MX := Tryz.slices_Max_int g off n c U wr (by rw [hL.1]; exact h0) (by rw [hL.1]; exact Nat.le_refl _) (by omega) (fun j hj => by
              rw [hcell j (by rw [hUl]; exact hj)]
              have := rowCells_get (k := 1) (enc := vInt) (fun _ => rfl) U j hj 0 (by decide)
              rw [Nat.mul_one, Nat.add_zero] at this
              rw [this, List.getD_eq_getElem?_getD, List.getElem?_eq_getElem hj]
              rfl)
            rw [show U.take n = U by rw [hL.1, List.take_length]] at MX
            obtain ⟨mx, hmx⟩ : ∃ mx, mx = Lib.maxOf U := ⟨_, rfl⟩
            rw [← hmx] at MX hr
            have MX := Lib.hid MX
            have HRr := Lib.hid hr
            clear hT hL hU he HL h0 hcell hUl hmx e2 e3 hr
            go_wp2_with fail
            refine MX.out.mono ?_
            rintro e w7 ⟨rfl, rfl⟩
            clear MX
            go_wp2_with fail
            go_ret
            exact ⟨by rw [HRr.out]; rfl, HBw.out⟩
end Go.Proofs.YtngflbakmlddeaaGreat.Mk
