/- The reference's put, Roots, Texts, walked: the same ids as the program's own. (Layer 12.) -/
import Derived.Test.YtngflbakmlddeaaGreatMk26
import Derived.Test.YtngflbakmlddeaaGreatMk33
namespace Go.Proofs.YtngflbakmlddeaaGreat.Set
set_option linter.unusedVariables false
open Go.RowKit Go.Sort Go.Lib Go.Shelf
section
variable {α : Type} [El α]
theorem app_high {m : List α} {x y : α} (h : Rise (m ++ [y])) (hx : ∃ z ∈ m, El.lt x z) : ins x m ++ [y] = ins x (m ++ [y]) := by
  have hp := List.pairwise_append.1 h
  obtain ⟨z, hz, hxz⟩ := hx
  have hzy : El.lt z y := hp.2.2 z hz y (by simp)
  refine rise_ext (List.pairwise_append.2 ⟨ins_rise hp.1, by simp, fun a ha b hb => ?_⟩) (ins_rise h) fun u => by simp [mem_ins, or_assoc]
  rw [List.mem_singleton] at hb
  subst hb
  rcases mem_ins.1 ha with rfl | ha
  · exact El.tr hxz hzy
  · exact hp.2.2 a ha b (by simp)
theorem app_new {m : List α} {x y : α} (h : Rise (m ++ [y])) (hx : El.lt x y) (hl : ∀ z ∈ m, El.lt z x) : m ++ [x] ++ [y] = ins x (m ++ [y]) := by
  have hp := List.pairwise_append.1 h
  refine rise_ext (List.pairwise_append.2 ⟨List.pairwise_append.2 ⟨hp.1, by simp, fun a ha b hb => ?_⟩, by simp, fun a ha b hb => ?_⟩) (ins_rise h) fun u => ?_
  · rw [List.mem_singleton] at hb
    exact hb ▸ hl a ha
  · rw [List.mem_singleton] at hb
    subst hb
    rcases List.mem_append.1 ha with ha | ha
    · exact hp.2.2 a ha b (by simp)
    · rw [List.mem_singleton] at ha
      exact ha ▸ hx
  · simp only [mem_ins, List.mem_append, List.mem_singleton]
    constructor
    · rintro ((h | h) | h)
      · exact Or.inr (Or.inl h)
      · exact Or.inl h
      · exact Or.inr (Or.inr h)
    · rintro (h | h | h)
      · exact Or.inl (Or.inr h)
      · exact Or.inl (Or.inl h)
      · exact Or.inr h
theorem app_end {m : List α} {x : α} (h : Rise m) (hl : ∀ z ∈ m, El.lt z x) : m ++ [x] = ins x m := by
  refine rise_ext (List.pairwise_append.2 ⟨h, by simp, fun a ha b hb => ?_⟩) (ins_rise h) fun u => ?_
  · rw [List.mem_singleton] at hb
    exact hb ▸ hl a ha
  · simp only [mem_ins, List.mem_append, List.mem_singleton]
    exact ⟨fun h => h.symm, fun h => h.symm⟩
theorem ins_le (x : α) (l : List α) : (ins x l).length ≤ l.length + 1 := by
  by_cases h : x ∈ l
  · rw [ins_of h]; omega
  · rw [ins_length h]; omega
/-- Where Put stands behind k of l. -/
structure PutSt (l : List α) (x : α) (k : Nat) (b : Bool) (m : List α) : Prop where
  is : m = if b then ins x (l.take k) else l.take k
  no : ¬ x ∈ l.take k
  low : b = false → ∀ y ∈ l.take k, El.lt y x
  high : b = true → ∃ y ∈ l.take k, El.lt x y
theorem PutSt.start (l : List α) (x : α) : PutSt l x 0 false [] := ⟨by simp, by simp, by simp, by simp⟩
theorem PutSt.len {l : List α} {x : α} {k : Nat} {b : Bool} {m : List α} (h : PutSt l x k b m) : m.length ≤ k + 1 := by
  rw [h.is]
  split
  · have := ins_le x (l.take k)
    rw [List.length_take] at this
    omega
  · rw [List.length_take]; omega
omit [El α] in
theorem take_snoc {l : List α} {k : Nat} (hk : k < l.length) : l.take (k + 1) = l.take k ++ [l[k]] := List.take_succ_eq_append_getElem hk
theorem PutSt.new {l : List α} {x : α} {k : Nat} {m : List α} (h : PutSt l x k false m) (hr : Rise l) (hk : k < l.length) (hx : El.lt x l[k]) : PutSt l x (k + 1) true (m ++ [x] ++ [l[k]]) := by
  have hr' : Rise (l.take k ++ [l[k]]) := by rw [← take_snoc hk]; exact hr.sublist (List.take_sublist _ _)
  refine ⟨?_, ?_, by simp, fun _ => ⟨l[k], by rw [take_snoc hk]; exact List.mem_append_right _ (List.mem_singleton.2 rfl), hx⟩⟩
  · rw [h.is, if_pos rfl, take_snoc hk]
    exact app_new hr' hx (h.low rfl)
  · rw [take_snoc hk, List.mem_append, List.mem_singleton]
    rintro (h1 | h1)
    · exact h.no h1
    · exact El.irr x (by rw [← h1] at hx; exact hx)
theorem PutSt.low_ {l : List α} {x : α} {k : Nat} {m : List α} (h : PutSt l x k false m) (hk : k < l.length) (hne : l[k] ≠ x) (hx : ¬ El.lt x l[k]) : PutSt l x (k + 1) false (m ++ [l[k]]) := by
  refine ⟨?_, ?_, fun _ y hy => ?_, by simp⟩
  · rw [h.is, take_snoc hk]; rfl
  · rw [take_snoc hk, List.mem_append, List.mem_singleton]
    rintro (h1 | h1)
    · exact h.no h1
    · exact hne h1.symm
  · rw [take_snoc hk, List.mem_append, List.mem_singleton] at hy
    rcases hy with hy | rfl
    · exact h.low rfl y hy
    · rcases El.tri l[k] x with h1 | h1 | h1
      · exact h1
      · exact (hne h1).elim
      · exact (hx h1).elim
theorem PutSt.on {l : List α} {x : α} {k : Nat} {m : List α} (h : PutSt l x k true m) (hr : Rise l) (hk : k < l.length) (hne : l[k] ≠ x) : PutSt l x (k + 1) true (m ++ [l[k]]) := by
  have hr' : Rise (l.take k ++ [l[k]]) := by rw [← take_snoc hk]; exact hr.sublist (List.take_sublist _ _)
  refine ⟨?_, ?_, by simp, fun _ => ?_⟩
  · rw [h.is, if_pos rfl, if_pos rfl, take_snoc hk]
    exact app_high hr' (h.high rfl)
  · rw [take_snoc hk, List.mem_append, List.mem_singleton]
    rintro (h1 | h1)
    · exact h.no h1
    · exact hne h1.symm
  · obtain ⟨y, hy, hxy⟩ := h.high rfl
    exact ⟨y, by rw [take_snoc hk]; exact List.mem_append_left _ hy, hxy⟩
theorem PutSt.done {l : List α} {x : α} {m : List α} (h : PutSt l x l.length true m) : m = ins x l := by
  rw [h.is, if_pos rfl, List.take_length]
theorem PutSt.last {l : List α} {x : α} {m : List α} (h : PutSt l x l.length false m) (hr : Rise l) : m ++ [x] = ins x l := by
  have h1 := h.is
  have h2 := h.low rfl
  rw [List.take_length] at h1 h2
  rw [h1]
  exact app_end hr h2
theorem isOf_snoc {pre m : List α} {x : α} (h : IsOf pre m) : IsOf (pre ++ [x]) (ins x m) := by
  refine ⟨ins_rise h.1, fun y => ?_⟩
  rw [mem_ins, h.2 y, List.mem_append, List.mem_singleton]
  exact ⟨fun h => h.symm, fun h => h.symm⟩
noncomputable def ofL : List α → List α
  | [] => []
  | x :: xs => ins x (ofL xs)
theorem ofL_is : ∀ l : List α, IsOf l (ofL l)
  | [] => ⟨by simp [Rise, ofL], by simp [ofL]⟩
  | x :: xs => ⟨ins_rise (ofL_is xs).1, fun y => by rw [ofL, mem_ins, (ofL_is xs).2 y, List.mem_cons]⟩
theorem ofL_len : ∀ l : List α, (ofL l).length ≤ l.length
  | [] => by simp [ofL]
  | x :: xs => by
    have h1 := ofL_len xs
    have h2 := ins_le x (ofL xs)
    rw [ofL, List.length_cons]
    omega
theorem isOf_len {pre m : List α} (h : IsOf pre m) : m.length ≤ pre.length := by
  rw [isOf_unique h (ofL_is pre)]
  exact ofL_len pre
theorem ofL_nodup : ∀ {l : List α}, l.Nodup → (ofL l).length = l.length
  | [], _ => rfl
  | x :: xs, h => by
    have hp := List.nodup_cons.1 h
    rw [ofL, ins_length (fun hx => hp.1 (((ofL_is xs).2 x).1 hx)), ofL_nodup hp.2, List.length_cons]
theorem isOf_nodup {pre m : List α} (h : IsOf pre m) (hd : pre.Nodup) : m.length = pre.length := by
  rw [isOf_unique h (ofL_is pre)]
  exact ofL_nodup hd
theorem rise_nodup {l : List α} (h : Rise l) : l.Nodup := List.Pairwise.imp (S := fun a b => a ≠ b) (fun {a b} hab e => El.irr b (by rw [e] at hab; exact hab)) h
end
theorem scells_app (l m : List ByteArray) : scells (l ++ m) = scells l ++ scells m := by simp [scells]
theorem lt_of {x y : ByteArray} (h : Op.bytesLess x.toList y.toList = true) : El.lt x y := by
  rw [Mk.less_name] at h
  exact of_decide_eq_true h
theorem not_lt_of {x y : ByteArray} (h : Op.bytesLess x.toList y.toList = false) : ¬ El.lt x y := by
  rw [Mk.less_name] at h
  exact of_decide_eq_false h
theorem scell_one_ (x : ByteArray) : ∀ u ∈ [Value.string x], u.oneCell' = true := by intro u hu; rcases List.mem_singleton.1 hu with rfl; rfl
set_option maxRecDepth 100000 in
set_option maxHeartbeats 4000000 in
theorem rput_any (v : Value) (l : List ByteArray) (x : ByteArray) (w : World) (h : StrAt w v l) (hr : Rise l) (hn : l.length ≤ 1000000) :
    Calls Tryz.prog 84 #[v, .string x] w fun e w' => ∃ v', e = .returned v' ∧ StrAt w' v' (ins x l) ∧ Below w.heap.size w w' := by
  have HA := Lib.hid (And.intro h hr)
  obtain ⟨ao, cap, rfl, hlc, hcm, hcell⟩ := h
  have HC := Lib.hid hcell
  clear hcell hr
  go_enter Tryz.func84, Tryz.ntmps84
  go_wp2_with fail
  have hz0 : SlIs (w.alloc (.cells #[] 9)) w.heap.size 9 1 (.slice (some ⟨w.heap.size, 0, none⟩) 0 0) 0 (scells []) := SlIs.made (BlkIs.new _ _ _) (Nat.le_refl _) rfl (by decide)
  have H0 := Lib.hid (And.intro hz0 ((Below.refl w.heap.size w).alloc (Nat.le_refl _) (.cells #[] 9)))
  clear hz0
  go_loopw [5, 6, 7] (fun p q i wr => ∃ (k n c1 : Nat) (b : Bool) (ao1 : Option Addr), p = .slice ao1 n c1 ∧ q = .bool b ∧ i = .int .i64 (k : Int) ∧ k ≤ l.length ∧ n ≤ 1000001 ∧
      Hid (∃ m, m.length = n ∧ PutSt l x k b m ∧ SlIs wr w.heap.size 9 1 (.slice ao1 n c1) n (scells m)) ∧ Hid (Below w.heap.size w wr)) (fun _ _ i _ => l.length - (intOf i).toNat)
  case atStart => exact ⟨0, 0, 0, false, _, rfl, rfl, rfl, Nat.zero_le _, by omega, Lib.hid ⟨[], rfl, PutSt.start l x, H0.out.1⟩, Lib.hid H0.out.2⟩
  case round =>
    obtain ⟨k, n, c1, b, ao1, rfl, rfl, rfl, hkl, hnl, HM, HB⟩ := hrel
    clear H0
    rcases Nat.lt_or_ge k l.length with hlt | hge
    · have ki : (k : Int) < l.length := by omega
      obtain ⟨bb, off, rfl, hblt, hcell⟩ := HC.out (by omega)
      have c0 := hcell k hlt
      rw [← HB.out.cell hblt] at c0
      obtain ⟨y, hy⟩ : ∃ y, y = l[k] := ⟨_, rfl⟩
      rw [← hy] at c0
      have HY := Lib.hid hy
      clear hcell hy
      cases hxy : (y.toList == x.toList)
      · obtain ⟨m, hmn, hst, hs⟩ := HM.out
        have hne : l[k] ≠ x := by rw [← HY.out]; exact fun e => by rw [e] at hxy; simp at hxy
        have HN := Lib.hid (And.intro hne (And.intro hst hmn))
        have HS := Lib.hid hs
        have hbw := HB.out
        have hzz := hbw.size
        cases b
        · cases d2 : Op.bytesLess x.toList y.toList
          · have hx : ¬ El.lt x l[k] := by rw [← HY.out]; exact not_lt_of d2
            have hst2 := hst.low_ hlt hne hx
            rw [← HY.out] at hst2
            have hl2 := hst2.len
            rw [List.length_append, hmn] at hl2
            have HP := Lib.hid hst2
            clear hne hst hs hx hst2 HM hmn
            go_wp2_with (at_builtin; refine wpList_append_sl rfl _ _ _ 49 (by rfl) el_string (base := w.heap.size) (.slice ao1 n c1) n (scells m) (by rfl) (HS.out.alloc _) _ 1 [Value.string y] (by rfl) (SrcIs.own Tryz.underlying49 (SlIs.made (base := 0) (BlkIs.new _ _ _) (Nat.zero_le _) rfl (by decide))) (scell_one_ y) (by unfold maxLen; omega) (by omega) (by have := hbw.size; simp; omega) ?_)
            intro v3 w3 hs3 hg3 hat3
            obtain ⟨ao2, c2, rfl, -, -, -⟩ := hs3.form
            have hb3 := ((HB.out.alloc hzz _).grown hg3 (by simp; omega) fun j hj => ((HS.out.alloc (.cells #[.string y] 9)).lt j hj).1)
            have H3 := Lib.hid (And.intro hs3 hb3)
            clear hs3 hg3 hat3 hb3 hbw hzz
            go_wp2_with fail
            have hs3 := H3.out.1
            rw [show [Value.string y] = scells [y] from rfl, ← scells_app] at hs3
            simp only [List.length_singleton] at hl2
            exact ⟨⟨k + 1, n + 1, c2, false, ao2, rfl, rfl, by simp, by omega, by omega, Lib.hid ⟨_, by simp [HN.out.2.2], HP.out, hs3⟩, Lib.hid H3.out.2⟩, by simp [intOf]; omega⟩
          · have hx : El.lt x l[k] := by rw [← HY.out]; exact lt_of d2
            have hst2 := hst.new HA.out.2 hlt hx
            rw [← HY.out] at hst2
            have hl2 := hst2.len
            rw [List.length_append, List.length_append, hmn] at hl2
            have HP := Lib.hid hst2
            clear hne hst hs hx hst2 HM hmn
            go_wp2_with (at_builtin; refine wpList_append_sl rfl _ _ _ 49 (by rfl) el_string (base := w.heap.size) (.slice ao1 n c1) n (scells m) (by rfl) (HS.out.alloc _) _ 1 [Value.string x] (by rfl) (SrcIs.own Tryz.underlying49 (SlIs.made (base := 0) (BlkIs.new _ _ _) (Nat.zero_le _) rfl (by decide))) (scell_one_ x) (by unfold maxLen; omega) (by omega) (by have := hbw.size; simp; omega) ?_)
            intro v4 w4 hs4 hg4 hat4
            obtain ⟨ao4, c4, rfl, -, -, -⟩ := hs4.form
            have hb4 := ((HB.out.alloc hzz (.cells #[.string x] 9)).grown hg4 (by simp; omega) fun j hj => ((HS.out.alloc (.cells #[.string x] 9)).lt j hj).1)
            rw [show [Value.string x] = scells [x] from rfl, ← scells_app] at hs4
            have HS4 := Lib.hid hs4
            have HB4 := Lib.hid hb4
            have c0 : w4.cell? ⟨bb, off + k, none⟩ = some (.string y) := by rw [hb4.cell hblt, ← HB.out.cell hblt]; exact c0
            have hzz4 := hb4.size
            clear hs4 hg4 hat4 hb4 hbw hzz
            go_wp2_with (at_builtin; refine wpList_append_sl rfl _ _ _ 49 (by rfl) el_string (base := w.heap.size) (.slice ao4 (n + 1) c4) (n + 1) (scells (m ++ [x])) (by rfl) (HS4.out.alloc _) _ 1 [Value.string y] (by rfl) (SrcIs.own Tryz.underlying49 (SlIs.made (base := 0) (BlkIs.new _ _ _) (Nat.zero_le _) rfl (by decide))) (scell_one_ y) (by unfold maxLen; omega) (by omega) (by have := HB4.out.size; simp; omega) ?_)
            intro v3 w3 hs3 hg3 hat3
            obtain ⟨ao2, c2, rfl, -, -, -⟩ := hs3.form
            have hb3 := ((HB4.out.alloc hzz4 (.cells #[.string y] 9)).grown hg3 (by simp; omega) fun j hj => ((HS4.out.alloc (.cells #[.string y] 9)).lt j hj).1)
            have H3 := Lib.hid (And.intro hs3 hb3)
            clear hs3 hg3 hat3 hb3 hzz4
            go_wp2_with fail
            have hs3 := H3.out.1
            rw [show [Value.string y] = scells [y] from rfl, ← scells_app] at hs3
            simp only [List.length_singleton] at hl2
            exact ⟨⟨k + 1, n + 1 + 1, c2, true, ao2, rfl, rfl, by simp, by omega, by omega, Lib.hid ⟨_, by simp [HN.out.2.2], HP.out, hs3⟩, Lib.hid H3.out.2⟩, by simp [intOf]; omega⟩
        · have hst2 := hst.on HA.out.2 hlt hne
          rw [← HY.out] at hst2
          have hl2 := hst2.len
          rw [List.length_append, hmn] at hl2
          have HP := Lib.hid hst2
          clear hne hst hs hst2 HM hmn
          go_wp2_with (at_builtin; refine wpList_append_sl rfl _ _ _ 49 (by rfl) el_string (base := w.heap.size) (.slice ao1 n c1) n (scells m) (by rfl) (HS.out.alloc _) _ 1 [Value.string y] (by rfl) (SrcIs.own Tryz.underlying49 (SlIs.made (base := 0) (BlkIs.new _ _ _) (Nat.zero_le _) rfl (by decide))) (scell_one_ y) (by unfold maxLen; omega) (by omega) (by have := hbw.size; simp; omega) ?_)
          intro v3 w3 hs3 hg3 hat3
          obtain ⟨ao2, c2, rfl, -, -, -⟩ := hs3.form
          have hb3 := ((HB.out.alloc hzz (.cells #[.string y] 9)).grown hg3 (by simp; omega) fun j hj => ((HS.out.alloc (.cells #[.string y] 9)).lt j hj).1)
          have H3 := Lib.hid (And.intro hs3 hb3)
          clear hs3 hg3 hat3 hb3 hbw hzz
          go_wp2_with fail
          have hs3 := H3.out.1
          rw [show [Value.string y] = scells [y] from rfl, ← scells_app] at hs3
          simp only [List.length_singleton] at hl2
          exact ⟨⟨k + 1, n + 1, c2, true, ao2, rfl, rfl, by simp, by omega, by omega, Lib.hid ⟨_, by simp [HN.out.2.2], HP.out, hs3⟩, Lib.hid H3.out.2⟩, by simp [intOf]; omega⟩
      · clear HM
        go_wp2_with fail
        go_ret
        have hx : x ∈ l := by
          have h1 : y = x := Mk.bytes_eq.1 hxy
          rw [← h1, HY.out]
          exact List.getElem_mem hlt
        exact ⟨_, rfl, by rw [ins_of hx]; exact HA.out.1.later HB.out, HB.out⟩
    · have ki : decide ((k : Int) < l.length) = false := decide_eq_false (by omega)
      obtain rfl : k = l.length := by omega
      obtain ⟨m, hmn, hst, hs⟩ := HM.out
      have HS := Lib.hid hs
      have HT := Lib.hid (And.intro hst hmn)
      have hl2 := hst.len
      rw [hmn] at hl2
      have hbw := HB.out
      have hzz := hbw.size
      clear hs hst HM hmn
      cases b
      · go_wp2_with (at_builtin; refine wpList_append_sl rfl _ _ _ 49 (by rfl) el_string (base := w.heap.size) (.slice ao1 n c1) n (scells m) (by rfl) (HS.out.alloc _) _ 1 [Value.string x] (by rfl) (SrcIs.own Tryz.underlying49 (SlIs.made (base := 0) (BlkIs.new _ _ _) (Nat.zero_le _) rfl (by decide))) (scell_one_ x) (by unfold maxLen; omega) (by omega) (by have := hbw.size; simp; omega) ?_)
        intro v3 w3 hs3 hg3 hat3
        obtain ⟨ao2, c2, rfl, -, -, -⟩ := hs3.form
        have hb3 := ((HB.out.alloc hzz (.cells #[.string x] 9)).grown hg3 (by simp; omega) fun j hj => ((HS.out.alloc (.cells #[.string x] 9)).lt j hj).1)
        have H3 := Lib.hid (And.intro hs3 hb3)
        clear hs3 hg3 hat3 hb3 hbw hzz
        go_wp2_with fail
        go_ret
        have hs3 := H3.out.1
        rw [show [Value.string x] = scells [x] from rfl, ← scells_app, HT.out.1.last HA.out.2] at hs3
        have e : n + 1 = (ins x l).length := by rw [← HT.out.1.last HA.out.2, List.length_append, HT.out.2]; rfl
        rw [e] at hs3 ⊢
        exact ⟨_, rfl, StrAt.of_sl hs3, H3.out.2⟩
      · clear hbw
        go_wp2_with fail
        go_ret
        have hs3 := HS.out
        rw [HT.out.1.done] at hs3
        have e : n = (ins x l).length := by rw [← HT.out.1.done, HT.out.2]
        rw [e] at hs3 ⊢
        exact ⟨_, rfl, StrAt.of_sl hs3, HB.out⟩

end Go.Proofs.YtngflbakmlddeaaGreat.Set
namespace Go.Proofs.YtngflbakmlddeaaGreat.Mk
set_option linter.unusedVariables false
open Go.RowKit Set
/-- Where Roots stands: the ids gathered. -/
def RrSt (w : World) (cs : Array Value) (ids : List ByteArray) (v : Value) (wr : World) : Prop := (∃ l, StrAt wr v l ∧ IsOf ids l ∧ l.length ≤ ids.length) ∧ Below w.heap.size w wr ∧ BlkIs wr w.heap.size 26 cs
theorem RrSt.later {w : World} {cs : Array Value} {ids : List ByteArray} {v : Value} {wr w' : World} (h : RrSt w cs ids v wr) (hb : Below wr.heap.size wr w') : RrSt w cs ids v w' := by
  obtain ⟨⟨l, h1, h2, h3⟩, h4, h5⟩ := h
  exact ⟨⟨l, h1.later hb, h2, h3⟩, h4.trans (hb.mono h4.size), BlkIs.below h5 hb h5.lt⟩
theorem RrSt.put {w : World} {cs : Array Value} {ids : List ByteArray} {v : Value} {wr : World} (h : RrSt w cs ids v wr) (x : ByteArray) (hn : ids.length ≤ 900000) :
    Calls Tryz.prog 84 #[v, .string x] wr fun e w' => ∃ ao q c, e = .returned (.slice ao q c) ∧ RrSt w cs (ids ++ [x]) (.slice ao q c) w' ∧ Below wr.heap.size wr w' := by
  obtain ⟨⟨l, h1, h2, h3⟩, h4, h5⟩ := h
  refine (rput_any v l x wr h1 h2.1 (by omega)).mono ?_
  rintro e w' ⟨v', rfl, h6, hb⟩
  obtain ⟨ao, c, rfl, r⟩ := h6
  have h7 := Set.ins_le x l
  exact ⟨ao, _, c, rfl, ⟨⟨_, ⟨ao, c, rfl, r⟩, isOf_ins x h2, by rw [List.length_append, List.length_singleton]; omega⟩, h4.trans (hb.mono h4.size), BlkIs.below h5 hb h5.lt⟩, hb⟩
set_option maxRecDepth 100000 in
set_option maxHeartbeats 4000000 in
theorem rroots_any (m : MkR) (n : Int) (w : World) (h : m.Reads w) (hs : m.Small) (hrt : m.refs.length + m.toks.length ≤ 900000) : Calls Tryz.prog 33 #[aMk m, .int .i64 n] w fun e w' => ∃ v l, e = .returned v ∧ StrAt w' v l ∧ IsOf (rootIds m.mk_ n) l ∧ l.length ≤ (rootIds m.mk_ n).length ∧ Below w.heap.size w w' := by
  have LVm := fun (X : World) (hX : m.Reads X) => rlive_any m n X hX hs
  obtain ⟨L, hL⟩ : ∃ L, L = liveL m.mk_ n := ⟨_, rfl⟩
  have hLl : L.length ≤ m.toks.length := by rw [hL]; exact List.length_filter_le _ _
  have hRI : rootIds m.mk_ n = m.refs.map (·.id) ++ L.map (·.id) := by rw [hL]; rfl
  rw [hRI]
  rw [← hL] at LVm
  have hR := h
  obtain ⟨refs, toks, zs, rv, kv, bv⟩ := m
  obtain ⟨h1, h2, h3, h4⟩ := h
  dsimp only at h1 h2 h3 h4 hrt hLl hRI ⊢
  obtain ⟨R, hRR⟩ : ∃ R, R = refs.map (·.id) ++ L.map (·.id) := ⟨_, rfl⟩
  rw [← hRR]
  obtain ⟨o1, f1, hr1, -, -⟩ := h1.form
  obtain ⟨o2, f2, hr2, -, -⟩ := h2.form
  obtain ⟨o3, f3, hr3, -, -⟩ := h3.form
  obtain ⟨n1, hn1⟩ : ∃ k, k = refs.length := ⟨_, rfl⟩
  obtain ⟨n2, hn2⟩ : ∃ k, k = toks.length := ⟨_, rfl⟩
  obtain ⟨n3, hn3⟩ : ∃ k, k = zs.length := ⟨_, rfl⟩
  rw [← hn1] at hr1 hrt
  rw [← hn2] at hr2 hrt hLl
  rw [← hn3] at hr3
  subst hr1 hr2 hr3
  dsimp only [aMk] at LVm ⊢
  obtain ⟨W1, hW1⟩ : ∃ W1, W1 = (w.alloc (.cells #[.slice o1 n1 f1, .slice o2 n2 f2, .slice o3 n3 f3] 26)).alloc (.cells #[] 9) := ⟨_, rfl⟩
  have HS := Lib.hid (show RrSt w #[.slice o1 n1 f1, .slice o2 n2 f2, .slice o3 n3 f3] [] (.slice (some ⟨w.heap.size + 1, 0, none⟩) 0 0) W1 from by
    rw [hW1]
    refine ⟨⟨[], StrAt.of_sl (base := w.heap.size + 1) (e := 9) (SlIs.made (cs := #[]) (BlkIs.new2 _ _ _ _) (Nat.le_refl _) rfl (by decide)), ⟨List.Pairwise.nil, fun x => by simp⟩, Nat.le_refl _⟩, ((Below.refl _ _).alloc (Nat.le_refl _) _).alloc (by simp) _, (BlkIs.new _ _ _).alloc _⟩)
  have H := Lib.hid h1
  have HN := Lib.hid hn1
  have HRR := Lib.hid hRR
  have LV := Lib.hid (fun (W : World) (hW : Below w.heap.size w W) => LVm W (hR.later hW))
  have HLl := Lib.hid hLl
  have HW := Lib.hid hW1
  have HRT := Lib.hid hrt
  clear h1 h2 h3 h4 hn1 hn2 hn3 hW1 hR hRR LVm hL hRI hLl hs hrt
  go_enter Tryz.func33, Tryz.ntmps33
  go_wp2_with fail
  rw [← HW.out]
  clear HW
  have hnm : n1 ≤ 900000 := by have := HRT.out; omega
  go_loopw [5, 6] (fun o i wr => ∃ (k q c : Nat) (ao : Option Addr), o = .slice ao q c ∧ i = .int .i64 (k : Int) ∧ k ≤ n1 ∧ Hid (RrSt w #[.slice o1 n1 f1, .slice o2 n2 f2, .slice o3 n3 f3] ((refs.take k).map (·.id)) (.slice ao q c) wr)) (fun _ i _ => n1 - (intOf i).toNat)
  case atStart => exact ⟨0, 0, 0, _, rfl, rfl, Nat.zero_le _, HS⟩
  case round =>
    obtain ⟨k, q, c, ao, rfl, rfl, hkn, HL⟩ := hrel
    clear HS
    have kw : IntKind.i64.wrap ((k : Int) + 1) = ((k + 1 : Nat) : Int) := IntWalk.i64_in _ (by omega)
    have d1 : wr.cell? ⟨w.heap.size, 0, none⟩ = some (.slice o1 n1 f1) := HL.out.2.2.cell 0
    rcases Nat.lt_or_ge k n1 with hlt | hge
    · have ki : (k : Int) < n1 := by omega
      have hkl : k < refs.length := by have := HN.out; omega
      obtain ⟨b, off, ha, hblt, hc⟩ := (H.out.later HL.out.2.1).at_ (by omega)
      obtain ⟨y, hy⟩ : ∃ y, y = refs[k] := ⟨_, rfl⟩
      have y1 := hc k hkl 1 _ (by rw [← hy]; rfl)
      have hst : (refs.take (k + 1)).map (·.id) = (refs.take k).map (·.id) ++ [y.id] := by rw [take_snoc' hkl, ← hy, List.map_append]; rfl
      have PT := Lib.hid (HL.out.put y.id (by rw [List.length_map, List.length_take]; omega))
      rw [← hst] at PT
      obtain ⟨a0, a1, a2⟩ := y
      dsimp only at y1 PT
      subst ha
      clear hc hy hst hblt hkl
      go_wp2_with fail
      refine PT.out.mono ?_
      rintro e w5 ⟨ao5, q5, c5, rfl, h5, -⟩
      have H5 := Lib.hid h5
      clear h5 d1 y1 PT
      go_wp2_with fail
      exact ⟨⟨k + 1, q5, c5, ao5, rfl, by simp, by omega, H5⟩, by simp [intOf]; omega⟩
    · have ki : decide (k < n1) = false := decide_eq_false (by omega)
      obtain rfl : n1 = k := by omega
      have hp := HL.out
      rw [show refs.take n1 = refs by rw [HN.out, List.take_length]] at hp
      have HP := Lib.hid hp
      have d0 : wr.cell? ⟨w.heap.size, 0, none⟩ = some (.slice o1 n1 f1) := HL.out.2.2.cell 0
      have d2 : wr.cell? ⟨w.heap.size, 1, none⟩ = some (.slice o2 n2 f2) := HL.out.2.2.cell 1
      have d3 : wr.cell? ⟨w.heap.size, 2, none⟩ = some (.slice o3 n3 f3) := HL.out.2.2.cell 2
      clear hge hp HL
      go_wp2_with fail
      refine (LV.out wr HP.out.2.1).mono ?_
      rintro e w5 ⟨v5, rfl, hv5, hb5⟩
      have H5 := Lib.hid (HP.out.later hb5)
      have hv6 := hv5
      obtain ⟨o5, f5, rfl, -, -⟩ := hv6.form
      obtain ⟨n5, hn5⟩ : ∃ n5, n5 = L.length := ⟨_, rfl⟩
      rw [← hn5] at hv5 ⊢
      have HV := Lib.hid hv5
      have HN5 := Lib.hid hn5
      have hn5m : n5 ≤ 900000 := by have := HLl.out; have := HRT.out; omega
      clear hv5 hb5 hv6 hn5 d0 d1 d2 d3 HP LV
      have HS5 := Lib.hid (show RrSt w #[.slice o1 n1 f1, .slice o2 n2 f2, .slice o3 n3 f3] (refs.map (·.id) ++ (L.take 0).map (·.id)) (.slice ao q c) w5 from by rw [List.take_zero, List.map_nil, List.append_nil]; exact H5.out)
      have hHV := Lib.hid (show Below w.heap.size w w5 from H5.out.2.1)
      clear H5
      go_wp2_with fail
      go_loopw [5, 8] (fun o i wr => ∃ (k q c : Nat) (ao : Option Addr), o = .slice ao q c ∧ i = .int .i64 (k : Int) ∧ k ≤ n5 ∧ Hid (RrSt w #[.slice o1 n1 f1, .slice o2 n2 f2, .slice o3 n3 f3] (refs.map (·.id) ++ (L.take k).map (·.id)) (.slice ao q c) wr ∧ Below w5.heap.size w5 wr)) (fun _ i _ => n5 - (intOf i).toNat)
      case atStart => exact ⟨0, q, c, ao, rfl, rfl, Nat.zero_le _, Lib.hid ⟨HS5.out, Below.refl _ _⟩⟩
      case round =>
        obtain ⟨k, q, c, ao, rfl, rfl, hkn, HL⟩ := hrel
        clear HS5
        have kw : IntKind.i64.wrap ((k : Int) + 1) = ((k + 1 : Nat) : Int) := IntWalk.i64_in _ (by omega)
        rcases Nat.lt_or_ge k n5 with hlt | hge
        · have ki : (k : Int) < n5 := by omega
          have hkl : k < L.length := by have := HN5.out; omega
          obtain ⟨b, off, ha, hblt, hc⟩ := (HV.out.later HL.out.2).at_ (by omega)
          obtain ⟨y, hy⟩ : ∃ y, y = L[k] := ⟨_, rfl⟩
          have y1 := hc k hkl 2 _ (by rw [← hy]; rfl)
          have hst : refs.map (·.id) ++ (L.take (k + 1)).map (·.id) = refs.map (·.id) ++ (L.take k).map (·.id) ++ [y.id] := by rw [take_snoc' hkl, ← hy, List.map_append, List.append_assoc]; rfl
          have PT := HL.out.1.put y.id (by rw [List.length_append, List.length_map, List.length_map, List.length_take]; have := HRT.out; have := HLl.out; have := HN5.out; have := HN.out; omega)
          rw [← hst] at PT
          have PTb := Lib.hid (HL.out.2)
          have PT := Lib.hid PT
          obtain ⟨a0, a1, a2⟩ := y
          dsimp only at y1 PT
          subst ha
          clear hc hy hst hblt hkl
          go_wp2_with fail
          refine PT.out.mono ?_
          rintro e w6 ⟨ao6, q6, c6, rfl, h6, hb6⟩
          have H6 := Lib.hid (And.intro h6 (PTb.out.trans (hb6.mono PTb.out.size)))
          clear h6 hb6 y1 PT PTb
          go_wp2_with fail
          exact ⟨⟨k + 1, q6, c6, ao6, rfl, by simp, by omega, H6⟩, by simp [intOf]; omega⟩
        · have ki : decide (k < n5) = false := decide_eq_false (by omega)
          obtain rfl : n5 = k := by omega
          have hp := HL.out.1
          rw [show L.take n5 = L by rw [HN5.out, List.take_length], ← HRR.out] at hp
          have HP := Lib.hid hp
          clear hge hp
          go_wp2_with fail
          go_ret
          obtain ⟨⟨l, g1, g2, g3⟩, g4, g5⟩ := HP.out
          exact ⟨_, l, rfl, g1, g2, g3, g4⟩
end Go.Proofs.YtngflbakmlddeaaGreat.Mk
