/- Several texts in one. (Layer 19.) -/
import Derived.Test.YtljenganlknhbaaGreatProg
import Derived.Test.YtljenganlknhbaaGreatPkA
import Derived.Test.YtljenganlknhbaaGreatIMap
import Derived.Test.YtljenganlknhbaaGreatPkL
import Derived.Test.YtljenganlknhbaaGreatPkF
/- frame's small functions, walked: within. (Layer 19.) -/
namespace Go.Proofs.YtljenganlknhbaaGreat.Fr
set_option linter.unusedVariables false
set_option linter.unusedSimpArgs false
open Go.RowKit Go.Lib
/-- Whether a number is from low to high. -/
def inR (n lo hi : Int) : Bool := decide (lo ≤ n ∧ n ≤ hi)
theorem within_any (n lo hi : Int) (w : World) : Calls Tryz.prog 24 #[.int .i64 n, .int .i64 lo, .int .i64 hi] w fun e w' => e = .returned (.bool (inR n lo hi)) ∧ w = w' := by
  by_cases h1 : lo ≤ n
  · have k1 : decide (lo ≤ n) = true := decide_eq_true h1
    have e : inR n lo hi = decide (n ≤ hi) := by
      unfold inR
      by_cases h2 : n ≤ hi
      · rw [decide_eq_true h2, decide_eq_true ⟨h1, h2⟩]
      · rw [decide_eq_false h2, decide_eq_false fun h => h2 h.2]
    rw [e]
    clear e
    by_cases h2 : n ≤ hi
    · have k2 : decide (n ≤ hi) = true := decide_eq_true h2
      rw [k2]
      go_enter Tryz.func24, Tryz.ntmps24
      go_wp2_with fail
      go_ret
      exact ⟨rfl, rfl⟩
    · have k2 : decide (n ≤ hi) = false := decide_eq_false h2
      rw [k2]
      go_enter Tryz.func24, Tryz.ntmps24
      go_wp2_with fail
      go_ret
      exact ⟨rfl, rfl⟩
  · have k1 : decide (lo ≤ n) = false := decide_eq_false h1
    have e : inR n lo hi = false := by
      unfold inR
      exact decide_eq_false fun h => h1 h.1
    rw [e]
    clear e
    go_enter Tryz.func24, Tryz.ntmps24
    go_wp2_with fail
    go_ret
    exact ⟨rfl, rfl⟩
open IMap
/-- No list is great. -/
def MsgR.Small (m : MsgR) : Prop := (m.pre.length ≤ 1000000 ∧ m.cel.length ≤ 1000000 ∧ m.ids.length ≤ 1000000 ∧ m.obj.length ≤ 1000000) ∧ m.mar.Small ∧ (∀ x ∈ m.pre, x.size ≤ 140737488355328) ∧
  ∀ c ∈ m.cel, c.c.pre.size ≤ 140737488355328 ∧ c.c.ids.length ≤ 1000000 ∧ c.c.kids.length ≤ 1000000
def five (n1 n2 n3 n4 n6 : Nat) : List (Int × Int) := [(1, n1), (2, n2), (3, n3), (4, n4), (6, n6)]
/-- What alone answers, by the numbers of things. -/
def aloneN (k : Int) (n1 n2 n3 n4 n6 : Nat) : Bool :=
  decide (∀ p ∈ five n1 n2 n3 n4 n6, ¬ (p.1 ≠ k ∧ 0 < p.2)) && (if k = 1 then inR n1 1 64 else if k = 2 then inR n2 1 64 else if k = 3 then inR n3 1 1024 else if k = 4 then decide ((n4 : Int) ≤ 16) else decide (k = 5 ∨ k = 6))
theorem aloneN_is (m : MsgR) : aloneN m.kind m.pre.length m.cel.length m.ids.length m.obj.length (m.mar.refs.length + m.mar.toks.length + m.mar.tombs.length) = aloneB m.msg := by
  unfold aloneB
  obtain ⟨k, src, dst, ses, step, pre, cel, ids, obj, mar, pv, cv, iv, ov⟩ := m
  simp only [aloneN, five, inR]
  have e : mkN mar.mk_ = mar.refs.length + mar.toks.length + mar.tombs.length := by simp [mkN, Mk.MkR.mk_]
  rw [Bool.eq_iff_iff]
  simp only [Bool.and_eq_true, decide_eq_true_eq, Alone, MsgR.msg, e, List.mem_cons, List.mem_nil_iff, forall_eq_or_imp, List.length_map]
  obtain ⟨a, ha⟩ : ∃ a, a = pre.length := ⟨_, rfl⟩
  obtain ⟨b, hb⟩ : ∃ a, a = cel.length := ⟨_, rfl⟩
  obtain ⟨c, hc⟩ : ∃ a, a = ids.length := ⟨_, rfl⟩
  obtain ⟨d, hd⟩ : ∃ a, a = obj.length := ⟨_, rfl⟩
  obtain ⟨f, hf⟩ : ∃ a, a = mar.refs.length + mar.toks.length + mar.tombs.length := ⟨_, rfl⟩
  rw [← ha, ← hb, ← hc, ← hd, ← hf]
  clear ha hb hc hd hf e
  by_cases k1 : k = 1
  · subst k1; simp; omega
  by_cases k2 : k = 2
  · subst k2; simp; omega
  by_cases k3 : k = 3
  · subst k3; simp; omega
  by_cases k4 : k = 4
  · subst k4; simp; omega
  by_cases k6 : k = 6
  · subst k6; simp
  by_cases k5 : k = 5
  · subst k5; simp
  · simp [k1, k2, k3, k4, k5, k6]
theorem aloneN_is1 {k : Int} (n1 n2 n3 n4 n6 : Nat) (h : ∀ p ∈ five n1 n2 n3 n4 n6, ¬ (p.1 ≠ k ∧ 0 < p.2)) (hk : k = 1) : aloneN k n1 n2 n3 n4 n6 = inR n1 1 64 := by
  unfold aloneN; rw [decide_eq_true h, Bool.true_and, if_pos hk]
theorem aloneN_is2 {k : Int} (n1 n2 n3 n4 n6 : Nat) (h : ∀ p ∈ five n1 n2 n3 n4 n6, ¬ (p.1 ≠ k ∧ 0 < p.2)) (hk : k = 2) : aloneN k n1 n2 n3 n4 n6 = inR n2 1 64 := by
  unfold aloneN; rw [decide_eq_true h, Bool.true_and, if_neg (by omega), if_pos hk]
theorem aloneN_is3 {k : Int} (n1 n2 n3 n4 n6 : Nat) (h : ∀ p ∈ five n1 n2 n3 n4 n6, ¬ (p.1 ≠ k ∧ 0 < p.2)) (hk : k = 3) : aloneN k n1 n2 n3 n4 n6 = inR n3 1 1024 := by
  unfold aloneN; rw [decide_eq_true h, Bool.true_and, if_neg (by omega), if_neg (by omega), if_pos hk]
theorem aloneN_is4 {k : Int} (n1 n2 n3 n4 n6 : Nat) (h : ∀ p ∈ five n1 n2 n3 n4 n6, ¬ (p.1 ≠ k ∧ 0 < p.2)) (hk : k = 4) : aloneN k n1 n2 n3 n4 n6 = decide ((n4 : Int) ≤ 16) := by
  unfold aloneN; rw [decide_eq_true h, Bool.true_and, if_neg (by omega), if_neg (by omega), if_neg (by omega), if_pos hk]
theorem aloneN_is5 {k : Int} (n1 n2 n3 n4 n6 : Nat) (h : ∀ p ∈ five n1 n2 n3 n4 n6, ¬ (p.1 ≠ k ∧ 0 < p.2)) (hk : k = 5 ∨ k = 6) : aloneN k n1 n2 n3 n4 n6 = true := by
  unfold aloneN; rw [decide_eq_true h, Bool.true_and, if_neg (by omega), if_neg (by omega), if_neg (by omega), if_neg (by omega)]; exact decide_eq_true hk
theorem aloneN_isno {k : Int} (n1 n2 n3 n4 n6 : Nat) (k1 : ¬ k = 1) (k2 : ¬ k = 2) (k3 : ¬ k = 3) (k4 : ¬ k = 4) (k5 : ¬ k = 5) (k6 : ¬ k = 6) : aloneN k n1 n2 n3 n4 n6 = false := by
  unfold aloneN; rw [if_neg k1, if_neg k2, if_neg k3, if_neg k4, decide_eq_false (by omega : ¬ (k = 5 ∨ k = 6)), Bool.and_false]
theorem aloneN_bad {k pk pv : Int} (n1 n2 n3 n4 n6 : Nat) (hp : (pk, pv) ∈ five n1 n2 n3 n4 n6) (h1 : ¬ pk = k) (h2 : 0 < pv) : aloneN k n1 n2 n3 n4 n6 = false := by
  unfold aloneN; rw [decide_eq_false (fun h => h _ hp ⟨h1, h2⟩), Bool.false_and]
/-- Where alone stands: its map. -/
def AlSt (w : World) (cs : Array Value) (g : Nat) (m : List (Int × Int)) (W : World) : Prop := Below w.heap.size w W ∧ BlkIs W w.heap.size 30 cs ∧ IMap W g m ∧ g = w.heap.size + 1
theorem AlSt.put {w : World} {cs : Array Value} {g : Nat} {m m' : List (Int × Int)} {W W' : World} (h : AlSt w cs g m W) (hg : W.grownBy W' (some g)) (hi : IMap W' g m') : AlSt w cs g m' W' :=
  ⟨h.1.grown hg h.1.size (fun j hj => by cases hj; have := h.2.2.2; omega), h.2.1.grown hg (by rw [h.2.2.2]; simp), hi, h.2.2.2⟩
theorem within_1 (n : Nat) (lo hi : Int) (w : World) : Calls Tryz.prog 24 #[.int .i64 (n : Int), .int .i64 lo, .int .i64 hi] w fun e w' => e = .returned (.bool (inR n lo hi)) ∧ w = w' := within_any _ _ _ w
def AlOut (w : World) (b : Bool) (e : Ending) (W : World) : Prop := e = .returned (.bool b) ∧ Below w.heap.size w W
set_option maxRecDepth 100000 in
set_option maxHeartbeats 4000000 in
theorem alone_core (k s d u v : Int) (o1 o2 o3 o4 o5 o6 o7 : Option Addr) (n1 n2 n3 n4 n5 n6 n7 f1 f2 f3 f4 f5 f6 f7 : Nat) (w : World) (hb : n5 ≤ 1000000 ∧ n6 ≤ 1000000 ∧ n7 ≤ 1000000) :
    Calls Tryz.prog 25 #[.agg #[.int .i64 k, .int .i64 s, .int .i64 d, .int .i64 u, .int .i64 v, .slice o1 n1 f1, .slice o2 n2 f2, .slice o3 n3 f3, .slice o4 n4 f4, .slice o5 n5 f5, .slice o6 n6 f6, .slice o7 n7 f7]] w fun e w' => AlOut w (aloneN k n1 n2 n3 n4 (n5 + n6 + n7)) e w' := by
  obtain ⟨hb5, hb6, hb7⟩ := hb
  have hmm := @run_makeMap Tryz.prog
  have hz : ∀ w, (zeroValue 3).run Tryz.prog w = .ok (.int .i64 0) w := fun w => by kernel_rfl
  have U := Tryz.underlying93
  have hk := Tryz.underlying3
  obtain ⟨cs, hcs⟩ : ∃ cs : Array Value, cs = #[.int .i64 k, .int .i64 s, .int .i64 d, .int .i64 u, .int .i64 v, .slice o1 n1 f1, .slice o2 n2 f2, .slice o3 n3 f3, .slice o4 n4 f4, .slice o5 n5 f5, .slice o6 n6 f6, .slice o7 n7 f7] := ⟨_, rfl⟩
  have HS : Hid (AlSt w cs (w.heap.size + 1) [] ((w.alloc (.cells #[.int .i64 k, .int .i64 s, .int .i64 d, .int .i64 u, .int .i64 v, .slice o1 n1 f1, .slice o2 n2 f2, .slice o3 n3 f3, .slice o4 n4 f4, .slice o5 n5 f5, .slice o6 n6 f6, .slice o7 n7 f7] 30)).alloc (.map #[] 0))) := by
    refine Lib.hid ⟨((Below.refl _ _).alloc (Nat.le_refl _) _).alloc (by simp) _, ?_, ?_, rfl⟩
    · rw [hcs]
      exact (BlkIs.new _ _ _).below ((Below.refl _ _).alloc (Nat.le_refl _) _) (by simp)
    · have := IMap.new (w.alloc (.cells #[.int .i64 k, .int .i64 s, .int .i64 d, .int .i64 u, .int .i64 v, .slice o1 n1 f1, .slice o2 n2 f2, .slice o3 n3 f3, .slice o4 n4 f4, .slice o5 n5 f5, .slice o6 n6 f6, .slice o7 n7 f7] 30))
      simpa using this
  have HC := Lib.hid hcs
  clear hcs
  go_enter Tryz.func25, Tryz.ntmps25
  go_upto_region 3 with (refine wpList_insert_imap rfl _ _ _ rfl U hk rfl HS.out.2.2.1 _ rfl _ rfl rfl ?_; intro W1 hi hg; replace HS := Lib.hid (HS.out.put hg hi); clear hi hg; have c6 := HS.out.2.1.cell 6; have c7 := HS.out.2.1.cell 7; have c8 := HS.out.2.1.cell 8; rw [HC.out] at c6 c7 c8; simp only [List.getElem?_toArray, List.getElem?_cons_zero, List.getElem?_cons_succ] at c6 c7 c8)
  obtain ⟨M, hM⟩ : ∃ M, M = five n1 n2 n3 n4 (n5 + n6 + n7) := ⟨_, rfl⟩
  have hM2 : ([] ++ [((1 : Int), (n1 : Int))] ++ [(2, (n2 : Int))] ++ [(3, (n3 : Int))] ++ [(4, (n4 : Int))] ++ [(6, (n5 : Int) + n6 + n7)]) = M := by rw [hM]; simp [five]
  rw [hM2] at HS
  have g1 : getI M 1 = n1 := by rw [hM]; rfl
  have g2 : getI M 2 = n2 := by rw [hM]; rfl
  have g3 : getI M 3 = n3 := by rw [hM]; rfl
  have g4 : getI M 4 = n4 := by rw [hM]; rfl
  have HG := Lib.hid (And.intro g1 (And.intro g2 (And.intro g3 g4)))
  have HM := Lib.hid hM
  have hrg := run_range (P := Tryz.prog) U HS.out.2.2.1
  obtain ⟨R, hR⟩ : ∃ R, R = W1.heap.size := ⟨_, rfl⟩
  have HI := Lib.hid (It.start HS.out.2.2.1)
  have HX := Lib.hid (show Below w.heap.size w (W1.alloc (.mapIter (some (w.heap.size + 1)) M.length #[] M.length)) ∧ BlkIs (W1.alloc (.mapIter (some (w.heap.size + 1)) M.length #[] M.length)) w.heap.size 30 cs from ⟨HS.out.1.alloc HS.out.1.size _, HS.out.2.1.below ((Below.refl _ _).alloc (Nat.le_refl _) _) HS.out.2.1.lt⟩)
  rw [← hR] at HI hrg
  have HRL := Lib.hid (show w.heap.size < R by rw [hR]; exact HS.out.2.1.lt)
  have HR := Lib.hid hR
  clear hM hM2 g1 g2 g3 g4 hR HS hmm hb5 hb6 hb7 c6 c7 c8
  go_wp2_with fail
  go_loopw [] (fun wr => ∃ seen, Hid (It wr R (w.heap.size + 1) M seen) ∧ Hid (Below w.heap.size w wr ∧ BlkIs wr w.heap.size 30 cs) ∧ Hid (DoneI M seen (fun p => ¬ (p.1 ≠ k ∧ 0 < p.2)))) (fun wr => (leftOf (entries M 0).toArray (wr.iterSeen R)).size)
  case atStart => exact ⟨#[], HI, HX, Lib.hid (DoneI.start M _)⟩
  case round =>
    clear HI HX hrg
    obtain ⟨seen, HI, HX, HD⟩ := hrel
    have kc : wr.cell? ⟨w.heap.size, 0, none⟩ = some (.int .i64 k) := by
      have := HX.out.2.cell 0
      rw [HC.out] at this
      exact this
    rcases HI.out.next (P := Tryz.prog) with ⟨h0, hnx⟩ | ⟨p, hp, seen', w', hI', hgr, hnx, hen, hlt, hdn⟩
    · have HQ := Lib.hid (HD.out.all h0)
      have HE := Lib.hid (show (∀ q ∈ five n1 n2 n3 n4 (n5 + n6 + n7), ¬ (q.1 ≠ k ∧ 0 < q.2)) from HM.out ▸ HQ.out)
      clear h0
      by_cases k1 : k = 1
      · have HV := Lib.hid (show getI M k = (n1 : Int) by rw [k1]; exact HG.out.1)
        have q1 : (k == 1) = true := by rw [k1]; rfl
        have HF := Lib.hid (aloneN_is1 n1 n2 n3 n4 (n5 + n6 + n7) HE.out k1)
        clear k1
        go_wp2_with (at_lookup; refine wpList_lookup_imap rfl _ _ rfl U hk (hz _) rfl HI.out.2 _ rfl HV.out ?_)
        refine (within_1 n1 1 64 _).mono ?_
        rintro e _ ⟨rfl, rfl⟩
        go_wp2_with fail
        go_ret
        exact ⟨by rw [HF.out]; rfl, HX.out.1⟩
      have q1 : (k == 1) = false := by simpa using k1
      by_cases k2 : k = 2
      · have HV := Lib.hid (show getI M k = (n2 : Int) by rw [k2]; exact HG.out.2.1)
        have q2 : (k == 2) = true := by rw [k2]; rfl
        have HF := Lib.hid (aloneN_is2 n1 n2 n3 n4 (n5 + n6 + n7) HE.out k2)
        clear k1 k2
        go_wp2_with (at_lookup; refine wpList_lookup_imap rfl _ _ rfl U hk (hz _) rfl HI.out.2 _ rfl HV.out ?_)
        refine (within_1 n2 1 64 _).mono ?_
        rintro e _ ⟨rfl, rfl⟩
        go_wp2_with fail
        go_ret
        exact ⟨by rw [HF.out]; rfl, HX.out.1⟩
      have q2 : (k == 2) = false := by simpa using k2
      by_cases k3 : k = 3
      · have HV := Lib.hid (show getI M k = (n3 : Int) by rw [k3]; exact HG.out.2.2.1)
        have q3 : (k == 3) = true := by rw [k3]; rfl
        have HF := Lib.hid (aloneN_is3 n1 n2 n3 n4 (n5 + n6 + n7) HE.out k3)
        clear k1 k2 k3
        go_wp2_with (at_lookup; refine wpList_lookup_imap rfl _ _ rfl U hk (hz _) rfl HI.out.2 _ rfl HV.out ?_)
        refine (within_1 n3 1 1024 _).mono ?_
        rintro e _ ⟨rfl, rfl⟩
        go_wp2_with fail
        go_ret
        exact ⟨by rw [HF.out]; rfl, HX.out.1⟩
      have q3 : (k == 3) = false := by simpa using k3
      by_cases k4 : k = 4
      · have HV := Lib.hid (show getI M k = (n4 : Int) by rw [k4]; exact HG.out.2.2.2)
        have q4 : (k == 4) = true := by rw [k4]; rfl
        have HF := Lib.hid (aloneN_is4 n1 n2 n3 n4 (n5 + n6 + n7) HE.out k4)
        clear k1 k2 k3 k4
        by_cases h16 : n4 ≤ 16
        · have h17 : (n4 : Int) ≤ 16 := by omega
          rw [decide_eq_true h17] at HF
          go_wp2_with (at_lookup; refine wpList_lookup_imap rfl _ _ rfl U hk (hz _) rfl HI.out.2 _ rfl HV.out ?_)
          go_ret
          exact ⟨by rw [HF.out]; rfl, HX.out.1⟩
        · have h17 : ¬ (n4 : Int) ≤ 16 := by omega
          rw [decide_eq_false h17] at HF
          have h18 : decide (n4 ≤ 16) = false := decide_eq_false h16
          have h19 : decide ((n4 : Int) ≤ 16) = false := decide_eq_false h17
          clear h16 h17
          go_wp2_with (at_lookup; refine wpList_lookup_imap rfl _ _ rfl U hk (hz _) rfl HI.out.2 _ rfl HV.out ?_)
          go_ret
          exact ⟨by rw [HF.out]; rfl, HX.out.1⟩
      have q4 : (k == 4) = false := by simpa using k4
      obtain ⟨gv, hgv⟩ : ∃ x, x = getI M k := ⟨_, rfl⟩
      have HV := Lib.hid hgv.symm
      clear hgv
      by_cases k5 : k = 5
      · have q5 : (k == 5) = true := by rw [k5]; rfl
        have HF := Lib.hid (aloneN_is5 n1 n2 n3 n4 (n5 + n6 + n7) HE.out (.inl k5))
        clear k1 k2 k3 k4 k5
        go_wp2_with (at_lookup; refine wpList_lookup_imap rfl _ _ rfl U hk (hz _) rfl HI.out.2 _ rfl HV.out ?_)
        go_ret
        exact ⟨by rw [HF.out]; rfl, HX.out.1⟩
      have q5 : (k == 5) = false := by simpa using k5
      by_cases k6 : k = 6
      · have q6 : (k == 6) = true := by rw [k6]; rfl
        have HF := Lib.hid (aloneN_is5 n1 n2 n3 n4 (n5 + n6 + n7) HE.out (.inr k6))
        clear k1 k2 k3 k4 k5 k6
        go_wp2_with (at_lookup; refine wpList_lookup_imap rfl _ _ rfl U hk (hz _) rfl HI.out.2 _ rfl HV.out ?_)
        go_ret
        exact ⟨by rw [HF.out]; rfl, HX.out.1⟩
      have q6 : (k == 6) = false := by simpa using k6
      have HF := Lib.hid (aloneN_isno n1 n2 n3 n4 (n5 + n6 + n7) k1 k2 k3 k4 k5 k6)
      clear k1 k2 k3 k4 k5 k6
      go_wp2_with (at_lookup; refine wpList_lookup_imap rfl _ _ rfl U hk (hz _) rfl HI.out.2 _ rfl HV.out ?_)
      go_ret
      exact ⟨by rw [HF.out]; rfl, HX.out.1⟩
    · obtain ⟨pk, pv⟩ := p
      have HX' := Lib.hid (show Below w.heap.size w w' ∧ BlkIs w' w.heap.size 30 cs from ⟨HX.out.1.grown hgr HX.out.1.size (fun j hj => by cases hj; exact Nat.le_of_lt HRL.out), HX.out.2.grown hgr (by have := HRL.out; simp; omega)⟩)
      have kc' : w'.cell? ⟨w.heap.size, 0, none⟩ = some (.int .i64 k) := by
        have := HX'.out.2.cell 0
        rw [HC.out] at this
        exact this
      have HI' := Lib.hid hI'
      have HN := Lib.hid (And.intro hlt (And.intro hdn hp))
      clear hI' hgr hlt hdn hp
      by_cases hk1 : pk = k
      · have q1 : (pk == k) = true := by simpa using hk1
        have HK := Lib.hid hk1
        clear hk1
        go_wp2_with fail
        refine ⟨⟨seen', HI', HX', Lib.hid (HN.out.2.1 _ (fun h => h.1 HK.out) HD.out)⟩, ?_⟩
        rw [HI'.out.seen_, HI.out.seen_]
        exact HN.out.1
      · have q1 : (pk == k) = false := by simpa using hk1
        by_cases hv1 : 0 < pv
        · have HF := Lib.hid (aloneN_bad n1 n2 n3 n4 (n5 + n6 + n7) (HM.out ▸ HN.out.2.2) hk1 hv1)
          go_wp2_with fail
          go_ret
          exact ⟨by rw [HF.out]; rfl, HX'.out.1⟩
        · have HK := Lib.hid hv1
          have q2 : decide (0 < pv) = false := decide_eq_false hv1
          clear hv1
          go_wp2_with fail
          refine ⟨⟨seen', HI', HX', Lib.hid (HN.out.2.1 _ (fun h => HK.out h.2) HD.out)⟩, ?_⟩
          rw [HI'.out.seen_, HI.out.seen_]
          exact HN.out.1
theorem alone_any (m : MsgR) (w : World) (h : m.Reads w) (hs : m.Small) : Calls Tryz.prog 25 #[aMsg m] w fun e w' => e = .returned (.bool (aloneB m.msg)) ∧ Below w.heap.size w w' := by
  obtain ⟨o1, f1, o2, f2, o3, f3, o4, f4, o5, f5, o6, f6, o7, f7, e1, e2, e3, e4, e5, e6, e7⟩ := MsgR.form h
  rw [← aloneN_is]
  unfold aMsg
  rw [e1, e2, e3, e4, e5, e6, e7]
  exact alone_core _ _ _ _ _ _ _ _ _ _ _ _ _ _ _ _ _ _ _ _ _ _ _ _ _ _ w ⟨hs.2.1.1, hs.2.1.2.1, hs.2.1.2.2.1⟩
end Go.Proofs.YtljenganlknhbaaGreat.Fr

/- frame.Good, walked, with its closures. (Layer 19.) -/
namespace Go.Proofs.YtljenganlknhbaaGreat.Fr
set_option linter.unusedVariables false
set_option linter.unusedSimpArgs false
open Go.RowKit Go.Lib
open Set (StrAt scells)
open Tr (Cp chk pfxB IsSet holds find_nil look_any check_any lookE lookC aggC)
open Mk (Tells MkR aMk goodB)
theorem later_next {w0 : World} (x : LaterOf w0) {w' : World} (hb : Below x.w.heap.size x.w w') : ∃ y : LaterOf w0, w' = y.w := ⟨⟨w', x.h.trans (hb.mono x.h.size)⟩, rfl⟩
theorem later_at (w0 : World) : ∃ x : LaterOf w0, w0 = x.w := ⟨⟨w0, Below.refl _ _⟩, rfl⟩
theorem isPrefix_any (p : ByteArray) (hp : (p.size : Int) ≤ 9223372036854775807) (w : World) : Calls Tryz.prog 27 #[.string p] w fun e w' => e = .returned (.bool (pfxB p)) ∧ Below w.heap.size w w' := by
  have F := Lib.hid (find_nil p hp w)
  cases hq : pfxB p with
  | false =>
    rw [hq] at F
    clear hp hq
    go_enter Tryz.func27, Tryz.ntmps27
    go_wp2_with fail
    refine F.out.mono ?_
    rintro e w1 ⟨rfl, hb⟩
    have HB := Lib.hid hb
    clear F hb
    go_wp2_with fail
    go_ret
    exact ⟨rfl, HB.out⟩
  | true =>
    rw [hq] at F
    clear hp hq
    go_enter Tryz.func27, Tryz.ntmps27
    go_wp2_with fail
    refine F.out.mono ?_
    rintro e w1 ⟨rfl, hb⟩
    have HB := Lib.hid hb
    clear F hb
    go_wp2_with fail
    go_ret
    exact ⟨rfl, HB.out⟩
theorem look_nil (l : List ByteArray) : lookE l ⟨#[]⟩ = if holds (IsSet l) then 0 else 1 := by
  have h0 : pfxB (⟨#[]⟩ : ByteArray) = true := by decide
  unfold lookE
  rw [h0]
  rfl
theorem isSet_any (v : Value) (l : List ByteArray) (w : World) (h : StrAt w v l) (hn : l.length ≤ 1000000) : Calls Tryz.prog 33 #[v] w fun e w' => e = .returned (.bool (holds (IsSet l))) ∧ Below w.heap.size w w' := by
  have L := look_any v l ⟨#[]⟩ w h hn (by decide)
  unfold Tr.LookOut at L
  rw [look_nil] at L
  obtain ⟨b, hb⟩ : ∃ b, b = holds (IsSet l) := ⟨_, rfl⟩
  rw [← hb] at L ⊢
  have L := Lib.hid L
  obtain ⟨o1, f1, rfl⟩ := StrAt.form h
  obtain ⟨n, hln⟩ : ∃ n, n = l.length := ⟨_, rfl⟩
  rw [← hln] at L ⊢
  clear hb hn h hln
  cases b
  · go_enter Tryz.func33, Tryz.ntmps33
    go_wp2_with fail
    refine L.out.mono ?_
    rintro e w1 ⟨v, rfl, ⟨vi, vk, rfl, hi, hk⟩, hb⟩
    have HB := Lib.hid hb
    obtain ⟨o2, f2, rfl⟩ := StrAt.form hi
    obtain ⟨o3, f3, rfl⟩ := StrAt.form hk
    generalize lookC l ⟨#[]⟩ = c
    obtain ⟨pre, cnt, sum, ids, kids⟩ := c
    unfold aggC
    dsimp only
    generalize ids.length = n2
    generalize kids.length = n3
    clear L hb hi hk
    go_wp2_with fail
    go_ret
    exact ⟨rfl, HB.out.alloc HB.out.size _⟩
  · go_enter Tryz.func33, Tryz.ntmps33
    go_wp2_with fail
    refine L.out.mono ?_
    rintro e w1 ⟨v, rfl, ⟨vi, vk, rfl, hi, hk⟩, hb⟩
    have HB := Lib.hid hb
    obtain ⟨o2, f2, rfl⟩ := StrAt.form hi
    obtain ⟨o3, f3, rfl⟩ := StrAt.form hk
    generalize lookC l ⟨#[]⟩ = c
    obtain ⟨pre, cnt, sum, ids, kids⟩ := c
    unfold aggC
    dsimp only
    generalize ids.length = n2
    generalize kids.length = n3
    clear L hb hi hk
    go_wp2_with fail
    go_ret
    exact ⟨rfl, HB.out.alloc HB.out.size _⟩
theorem odd_any (s : ByteArray) (hs : s.size ≤ 140737488355328) (w : World) : Calls Tryz.prog 26 #[.string s] w fun e w' => e = .returned (.bool (!pfxB s)) ∧ Below w.heap.size w w' := by
  have F := Lib.hid (isPrefix_any s (by omega) w)
  obtain ⟨b, hb⟩ : ∃ b, b = pfxB s := ⟨_, rfl⟩
  rw [← hb] at F ⊢
  clear hb hs
  go_enter Tryz.func26, Tryz.ntmps26
  go_wp2_with fail
  refine F.out.mono ?_
  rintro e w1 ⟨rfl, hb⟩
  have HB := Lib.hid hb
  clear F hb
  go_wp2_with fail
  go_ret
  exact ⟨rfl, HB.out⟩
theorem long_any (s : ByteArray) (w : World) : Calls Tryz.prog 30 #[.string s] w fun e w' => e = .returned (.bool (!shortB s)) ∧ Below w.heap.size w w' := by
  unfold shortB
  by_cases h : s.size ≤ 131072
  · have k : decide (131072 < (s.size : Int)) = false := decide_eq_false (by omega)
    rw [decide_eq_true h]
    clear h
    go_enter Tryz.func30, Tryz.ntmps30
    go_wp2_with fail
    go_ret
    exact ⟨rfl, Below.refl _ _⟩
  · have k : decide (131072 < (s.size : Int)) = true := decide_eq_true (by omega)
    rw [decide_eq_false h]
    clear h
    go_enter Tryz.func30, Tryz.ntmps30
    go_wp2_with fail
    go_ret
    exact ⟨rfl, Below.refl _ _⟩
theorem wrong_any (x : CpR) (w : World) (h : x.Reads w) (hs : x.c.pre.size ≤ 140737488355328 ∧ x.c.ids.length ≤ 1000000 ∧ x.c.kids.length ≤ 1000000) :
    Calls Tryz.prog 28 #[aCp x] w fun e w' => e = .returned (.bool (!goodCell x.c)) ∧ Below w.heap.size w w' := by
  obtain ⟨⟨pre, cnt, sum, ids, kids⟩, iv, kv⟩ := x
  obtain ⟨h1, h2⟩ := h
  dsimp only at h1 h2 hs
  obtain ⟨n, hn⟩ : ∃ n, n = chk ⟨pre, cnt, sum, ids, kids⟩ := ⟨_, rfl⟩
  have hg : (!goodCell ⟨pre, cnt, sum, ids, kids⟩) = !(n == 0) := by
    unfold goodCell
    rw [← hn]
    by_cases hz : n = 0
    · rw [decide_eq_true hz, hz]; rfl
    · rw [decide_eq_false hz]
      have : (n == 0) = false := by simpa using hz
      rw [this]
  have hb0 : Below w.heap.size w (w.alloc (.cells #[.string pre, .int .i64 cnt, .string sum, iv, kv] 49)) := (Below.refl _ _).alloc (Nat.le_refl _) _
  have C := Lib.hid (check_any ⟨pre, cnt, sum, ids, kids⟩ iv kv _ (h1.later hb0) (h2.later hb0) hs.2.1 hs.2.2 (by have := hs.1; simp only; omega))
  rw [← hn] at C
  obtain ⟨o1, f1, e1⟩ := StrAt.form h1
  obtain ⟨o2, f2, e2⟩ := StrAt.form h2
  obtain ⟨n1, hn1⟩ : ∃ k, k = ids.length := ⟨_, rfl⟩
  obtain ⟨n2, hn2⟩ : ∃ k, k = kids.length := ⟨_, rfl⟩
  rw [← hn1] at e1
  rw [← hn2] at e2
  subst e1 e2
  have HG := Lib.hid hg
  have HB := Lib.hid hb0
  show Calls _ _ #[.agg #[.string pre, .int .i64 cnt, .string sum, .slice o1 n1 f1, .slice o2 n2 f2]] w _
  clear h1 h2 hs hn hg hb0 hn1 hn2
  go_enter Tryz.func28, Tryz.ntmps28
  go_wp2_with fail
  refine C.out.mono ?_
  rintro e w1 ⟨rfl, hb⟩
  have H := Lib.hid (HB.out.trans (hb.mono HB.out.size))
  clear C hb
  go_wp2_with fail
  go_ret
  exact ⟨by rw [HG.out]; rfl, H.out⟩
theorem odd_tells (l : List ByteArray) (w : World) (hs : ∀ x ∈ l, x.size ≤ 140737488355328) : Tells 26 #[] aStr (fun x => !pfxB x) l w :=
  ⟨enters_of Tryz.func26 (by kernel_rfl) rfl, fun x hx W _ => odd_any x (hs x hx) W⟩
theorem long_tells (l : List ByteArray) (w : World) : Tells 30 #[] aStr (fun x => !shortB x) l w :=
  ⟨enters_of Tryz.func30 (by kernel_rfl) rfl, fun x hx W _ => long_any x W⟩
theorem wrong_tells (l : List CpR) (w : World) (h : ∀ z ∈ l, z.Reads w) (hs : ∀ c ∈ l, c.c.pre.size ≤ 140737488355328 ∧ c.c.ids.length ≤ 1000000 ∧ c.c.kids.length ≤ 1000000) : Tells 28 #[] aCp (fun x => !goodCell x.c) l w :=
  ⟨enters_of Tryz.func28 (by kernel_rfl) rfl, fun x hx W hW => wrong_any x W ((h x hx).later hW) (hs x hx)⟩
theorem cf_pre (v : Value) (l : List ByteArray) (w : World) (h : StrAt w v l) (hn : l.length ≤ 1000000) (hs : ∀ x ∈ l, x.size ≤ 140737488355328) :
    Calls Tryz.prog 31 #[v, .func (.func 26) #[] #[]] w fun e w' => e = .returned (.bool (!l.all pfxB)) ∧ Below w.heap.size w w' := by
  have := cf_str v l _ #[] _ w h (odd_tells l w hs) hn
  rwa [show l.any (fun x => !pfxB x) = !l.all pfxB by rw [← Mk.any_not_all, Bool.not_not]] at this
theorem cf_obj (v : Value) (l : List ByteArray) (w : World) (h : StrAt w v l) (hn : l.length ≤ 1000000) :
    Calls Tryz.prog 31 #[v, .func (.func 30) #[] #[]] w fun e w' => e = .returned (.bool (!l.all shortB)) ∧ Below w.heap.size w w' := by
  have := cf_str v l _ #[] _ w h (long_tells l w) hn
  rwa [show l.any (fun x => !shortB x) = !l.all shortB by rw [← Mk.any_not_all, Bool.not_not]] at this
theorem cf_cel (v : Value) (l : List CpR) (w : World) (h : CellsAt w v l) (hn : l.length ≤ 1000000) (hs : ∀ c ∈ l, c.c.pre.size ≤ 140737488355328 ∧ c.c.ids.length ≤ 1000000 ∧ c.c.kids.length ≤ 1000000) :
    Calls Tryz.prog 32 #[v, .func (.func 28) #[] #[]] w fun e w' => e = .returned (.bool (!(l.map (·.c)).all goodCell)) ∧ Below w.heap.size w w' := by
  have := cf_cp v l _ #[] _ w h.1 (wrong_tells l w h.2 hs) hn
  rwa [show l.any (fun x => !goodCell x.c) = !(l.map (·.c)).all goodCell by rw [List.all_map, ← Mk.any_not_all, Bool.not_not]; rfl] at this
theorem goodM_chain (m : MsgR) : goodM m.msg = (((((((((((inR m.src 1 7 && inR m.dst 1 7) && !(m.src == m.dst)) && inR m.ses 0 1073741824) && inR m.step 0 1073741824) && aloneB m.msg) && m.pre.all pfxB) && (m.cel.map (·.c)).all goodCell) && m.obj.all shortB) && holds (IsSet m.ids)) && goodB m.mar.mk_)) := by
  unfold goodM
  have e1 : nodesB m.msg = ((inR m.src 1 7 && inR m.dst 1 7) && !(m.src == m.dst)) := by
    rw [Bool.eq_iff_iff]
    simp only [nodesB, inR, Bool.and_eq_true, decide_eq_true_eq, Bool.not_eq_true', beq_eq_false_iff_ne, MsgR.msg, ne_eq, and_assoc]
  have e2 : numsB m.msg = (inR m.ses 0 1073741824 && inR m.step 0 1073741824) := by
    rw [Bool.eq_iff_iff]
    simp only [numsB, inR, Bool.and_eq_true, decide_eq_true_eq, MsgR.msg, and_assoc]
  rw [e1, e2]
  simp only [MsgR.msg, Bool.and_assoc]
set_option maxRecDepth 100000 in
set_option maxHeartbeats 8000000 in
theorem good_any (m : MsgR) (w : World) (h : m.Reads w) (hs : m.Small) : Calls Tryz.prog 12 #[aMsg m] w fun e w' => e = .returned (.bool (goodM m.msg)) ∧ Below w.heap.size w w' := by
  obtain ⟨W1, hW1⟩ : ∃ W1, W1 = w.alloc (.cells #[.int .i64 m.kind, .int .i64 m.src, .int .i64 m.dst, .int .i64 m.ses, .int .i64 m.step, m.pv, m.cv, m.iv, m.ov, m.mar.rv, m.mar.kv, m.mar.bv] 30) := ⟨_, rfl⟩
  have hb1 : Below w.heap.size w W1 := by rw [hW1]; exact (Below.refl _ _).alloc (Nat.le_refl _) _
  have hr := h.later hb1
  obtain ⟨o1, f1, o2, f2, o3, f3, o4, f4, o5, f5, o6, f6, o7, f7, e1, e2, e3, e4, e5, e6, e7⟩ := MsgR.form h
  have k1 : BlkIs W1 w.heap.size 30 #[.int .i64 m.kind, .int .i64 m.src, .int .i64 m.dst, .int .i64 m.ses, .int .i64 m.step, m.pv, m.cv, m.iv, m.ov, m.mar.rv, m.mar.kv, m.mar.bv] := by rw [hW1]; exact BlkIs.new _ _ _
  have A1 := fun X : LaterOf W1 => alone_any m X.w (hr.later X.h) hs
  have P1 := fun X : LaterOf W1 => cf_pre m.pv m.pre X.w (hr.later X.h).1 hs.1.1 hs.2.2.1
  have C1 := fun X : LaterOf W1 => cf_cel m.cv m.cel X.w (hr.later X.h).2.1 hs.1.2.1 hs.2.2.2
  have O1 := fun X : LaterOf W1 => cf_obj m.ov m.obj X.w (hr.later X.h).2.2.2.1 hs.1.2.2.2
  have S1 := fun X : LaterOf W1 => isSet_any m.iv m.ids X.w (hr.later X.h).2.2.1 hs.1.2.2.1
  have M1 := fun X : LaterOf W1 => Mk.good_any m.mar X.w (hr.later X.h).2.2.2.2 hs.2.1.2.2.2
  have W1a := fun W => within_any m.src 1 7 W
  have W1b := fun W => within_any m.dst 1 7 W
  have W1c := fun W => within_any m.ses 0 1073741824 W
  have W1d := fun W => within_any m.step 0 1073741824 W
  rw [goodM_chain]
  obtain ⟨b1, hb1'⟩ : ∃ b, b = inR m.src 1 7 := ⟨_, rfl⟩
  obtain ⟨b2, hb2'⟩ : ∃ b, b = inR m.dst 1 7 := ⟨_, rfl⟩
  obtain ⟨b4, hb4'⟩ : ∃ b, b = inR m.ses 0 1073741824 := ⟨_, rfl⟩
  obtain ⟨b5, hb5'⟩ : ∃ b, b = inR m.step 0 1073741824 := ⟨_, rfl⟩
  obtain ⟨b6, hb6'⟩ : ∃ b, b = aloneB m.msg := ⟨_, rfl⟩
  obtain ⟨b7, hb7'⟩ : ∃ b, b = m.pre.all pfxB := ⟨_, rfl⟩
  obtain ⟨b8, hb8'⟩ : ∃ b, b = (m.cel.map (·.c)).all goodCell := ⟨_, rfl⟩
  obtain ⟨b9, hb9'⟩ : ∃ b, b = m.obj.all shortB := ⟨_, rfl⟩
  obtain ⟨b10, hb10'⟩ : ∃ b, b = holds (IsSet m.ids) := ⟨_, rfl⟩
  obtain ⟨b11, hb11'⟩ : ∃ b, b = goodB m.mar.mk_ := ⟨_, rfl⟩
  rw [← hb1', ← hb2', ← hb4', ← hb5', ← hb6', ← hb7', ← hb8', ← hb9', ← hb10', ← hb11']
  rw [← hb6'] at A1
  rw [← hb7'] at P1
  rw [← hb8'] at C1
  rw [← hb9'] at O1
  rw [← hb10'] at S1
  rw [← hb11'] at M1
  rw [← hb1'] at W1a
  rw [← hb2'] at W1b
  rw [← hb4'] at W1c
  rw [← hb5'] at W1d
  clear hb1' hb2' hb4' hb5' hb6' hb7' hb8' hb9' hb10' hb11'
  unfold aMsg at A1 ⊢
  unfold aMk at M1
  rw [e1, e2, e3, e4, e5, e6, e7] at A1 k1 hW1 ⊢
  rw [e1] at P1
  rw [e2] at C1
  rw [e4] at O1
  rw [e3] at S1
  rw [e5, e6, e7] at M1
  obtain ⟨n1, hn1⟩ : ∃ n, n = m.pre.length := ⟨_, rfl⟩
  obtain ⟨n2, hn2⟩ : ∃ n, n = m.cel.length := ⟨_, rfl⟩
  obtain ⟨n3, hn3⟩ : ∃ n, n = m.ids.length := ⟨_, rfl⟩
  obtain ⟨n4, hn4⟩ : ∃ n, n = m.obj.length := ⟨_, rfl⟩
  obtain ⟨n5, hn5⟩ : ∃ n, n = m.mar.refs.length := ⟨_, rfl⟩
  obtain ⟨n6, hn6⟩ : ∃ n, n = m.mar.toks.length := ⟨_, rfl⟩
  obtain ⟨n7, hn7⟩ : ∃ n, n = m.mar.tombs.length := ⟨_, rfl⟩
  rw [← hn1, ← hn2, ← hn3, ← hn4, ← hn5, ← hn6, ← hn7] at A1 k1 hW1 ⊢
  rw [← hn1] at P1
  rw [← hn2] at C1
  rw [← hn4] at O1
  rw [← hn3] at S1
  rw [← hn5, ← hn6, ← hn7] at M1
  clear hn1 hn2 hn3 hn4 hn5 hn6 hn7 e1 e2 e3 e4 e5 e6 e7 h hs hr
  obtain ⟨kind, src, dst, ses, step, pre, cel, ids, obj, mar, pv, cv, iv, ov⟩ := m
  dsimp only at *
  have u0 : ∀ X : LaterOf W1, X.w.cell? ⟨w.heap.size, 0, none⟩ = some (.int .i64 kind) := fun X => (X.blk k1).cell 0
  have u1 : ∀ X : LaterOf W1, X.w.cell? ⟨w.heap.size, 1, none⟩ = some (.int .i64 src) := fun X => (X.blk k1).cell 1
  have u2 : ∀ X : LaterOf W1, X.w.cell? ⟨w.heap.size, 2, none⟩ = some (.int .i64 dst) := fun X => (X.blk k1).cell 2
  have u3 : ∀ X : LaterOf W1, X.w.cell? ⟨w.heap.size, 3, none⟩ = some (.int .i64 ses) := fun X => (X.blk k1).cell 3
  have u4 : ∀ X : LaterOf W1, X.w.cell? ⟨w.heap.size, 4, none⟩ = some (.int .i64 step) := fun X => (X.blk k1).cell 4
  have u5 : ∀ X : LaterOf W1, X.w.cell? ⟨w.heap.size, 5, none⟩ = some (.slice o1 n1 f1) := fun X => (X.blk k1).cell 5
  have u6 : ∀ X : LaterOf W1, X.w.cell? ⟨w.heap.size, 6, none⟩ = some (.slice o2 n2 f2) := fun X => (X.blk k1).cell 6
  have u7 : ∀ X : LaterOf W1, X.w.cell? ⟨w.heap.size, 7, none⟩ = some (.slice o3 n3 f3) := fun X => (X.blk k1).cell 7
  have u8 : ∀ X : LaterOf W1, X.w.cell? ⟨w.heap.size, 8, none⟩ = some (.slice o4 n4 f4) := fun X => (X.blk k1).cell 8
  have u9 : ∀ X : LaterOf W1, X.w.cell? ⟨w.heap.size, 9, none⟩ = some (.slice o5 n5 f5) := fun X => (X.blk k1).cell 9
  have u10 : ∀ X : LaterOf W1, X.w.cell? ⟨w.heap.size, 10, none⟩ = some (.slice o6 n6 f6) := fun X => (X.blk k1).cell 10
  have u11 : ∀ X : LaterOf W1, X.w.cell? ⟨w.heap.size, 11, none⟩ = some (.slice o7 n7 f7) := fun X => (X.blk k1).cell 11
  have HB := Lib.hid (fun X : LaterOf W1 => hb1.trans (X.h.mono hb1.size))
  have HW := Lib.hid hW1
  have A1 := Lib.hid A1
  have P1 := Lib.hid P1
  have C1 := Lib.hid C1
  have O1 := Lib.hid O1
  have S1 := Lib.hid S1
  have M1 := Lib.hid M1
  have W1a := Lib.hid W1a
  have W1b := Lib.hid W1b
  have W1c := Lib.hid W1c
  have W1d := Lib.hid W1d
  clear hb1 hW1 k1
  go_enter Tryz.func12, Tryz.ntmps12
  go_upto_region 1 with (fail)
  rw [← HW.out]
  clear HW
  obtain ⟨X, hX⟩ := later_at W1
  rw [hX]
  clear hX
  go_wp2_with fail
  refine (W1a.out _).mono ?_
  rintro e _ ⟨rfl, rfl⟩
  cases b1
  · go_wp2_with fail
    go_ret
    exact ⟨rfl, HB.out X⟩
  go_wp2_with fail
  refine (W1b.out _).mono ?_
  rintro e _ ⟨rfl, rfl⟩
  cases b2
  · go_wp2_with fail
    go_ret
    exact ⟨rfl, HB.out X⟩
  by_cases hsd : src = dst
  · have q : (src == dst) = true := by simpa using hsd
    have q2 : (src != dst) = false := by simpa using hsd
    go_wp2_with fail
    go_ret
    exact ⟨by rw [q]; rfl, HB.out X⟩
  have q : (src == dst) = false := by simpa using hsd
  have HD := Lib.hid q
  have q2 : (src != dst) = true := by simpa using hsd
  go_wp2_with fail
  refine (W1c.out _).mono ?_
  rintro e _ ⟨rfl, rfl⟩
  cases b4
  · go_wp2_with fail
    go_ret
    exact ⟨by rw [HD.out]; rfl, HB.out X⟩
  go_wp2_with fail
  refine (W1d.out _).mono ?_
  rintro e _ ⟨rfl, rfl⟩
  cases b5
  · go_wp2_with fail
    go_ret
    exact ⟨by rw [HD.out]; rfl, HB.out X⟩
  go_wp2_with fail
  refine (LaterOf.call X (A1.out X)).mono ?_
  rintro e _ ⟨rfl, X, rfl⟩
  cases b6
  · go_wp2_with fail
    go_ret
    exact ⟨by rw [HD.out]; rfl, HB.out X⟩
  go_wp2_with fail
  refine (LaterOf.call X (P1.out X)).mono ?_
  rintro e _ ⟨rfl, X, rfl⟩
  cases b7
  · go_wp2_with fail
    go_ret
    exact ⟨by rw [HD.out]; rfl, HB.out X⟩
  go_wp2_with fail
  refine (LaterOf.call X (C1.out X)).mono ?_
  rintro e _ ⟨rfl, X, rfl⟩
  cases b8
  · go_wp2_with fail
    go_ret
    exact ⟨by rw [HD.out]; rfl, HB.out X⟩
  go_wp2_with fail
  refine (LaterOf.call X (O1.out X)).mono ?_
  rintro e _ ⟨rfl, X, rfl⟩
  cases b9
  · go_wp2_with fail
    go_ret
    exact ⟨by rw [HD.out]; rfl, HB.out X⟩
  go_wp2_with fail
  refine (LaterOf.call X (S1.out X)).mono ?_
  rintro e _ ⟨rfl, X, rfl⟩
  cases b10
  · go_wp2_with fail
    go_ret
    exact ⟨by rw [HD.out]; rfl, HB.out X⟩
  go_wp2_with fail
  refine (LaterOf.call X (M1.out X)).mono ?_
  rintro e _ ⟨rfl, X, rfl⟩
  go_wp2_with fail
  go_ret
  exact ⟨by rw [HD.out]; rfl, HB.out X⟩
end Go.Proofs.YtljenganlknhbaaGreat.Fr

