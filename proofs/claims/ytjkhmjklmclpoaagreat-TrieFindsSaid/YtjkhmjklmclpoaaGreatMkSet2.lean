/- shelf.Set[string]: Has, Len, All, part, Meet, Minus, Within, Union. Printed by mk_set2.py from the texts of layer 08. -/
import Derived.Test.YtjkhmjklmclpoaaGreatMkSet
import Derived.Test.YtjkhmjklmclpoaaGreatIter
import Derived.Shelf.Abstract
import Derived.Shelf.RegionOpen
import Derived.WalkKit
import Derived.OwnWalkIn
import Derived.TacticsInMore
import Derived.LoopNIn
import Derived.LoopIn
namespace Go.Proofs.YtjkhmjklmclpoaaGreat.Set
set_option linter.unusedVariables false
open Go.RowKit Go.Sort Go.Lib
set_option maxRecDepth 100000 in
theorem clone_unit (base n : Nat) (v : Value) (w : World) (h : SlIs w base 86 0 v n []) :
    Calls Tryz.prog 134 #[v] w fun e w' => ∃ v', e = .returned v' ∧ SlIs w' w.heap.size 86 0 v' n [] ∧ Below w.heap.size w w' := by
  have q : ∀ (w : World) (a : Option Addr) (n c n' c' : Nat), (binOp .eql 78 (.slice a n c) (.slice none n' c')).run Tryz.prog w = .ok (.bool a.isNone) w := fun w a n c n' c' => Lib.run_eql_slice_nil w _ _ a n c n' c' Tryz.underlying78
  have H := Lib.hid h
  rcases unit_at h with ⟨rfl, rfl⟩ | ⟨g, off, cap, rfl, hg, hlt, hc, hm⟩
  · clear h
    go_enter Tryz.func134, Tryz.ntmps134
    go_wp2_with fail
    go_ret
    exact ⟨_, rfl, SlIs.nil_ _ _ _ _, Below.refl _ _⟩
  · clear h
    have HM := Lib.hid hm
    have hc2 : n ≤ maxLen := Nat.le_trans hc hm
    have HC := Lib.hid hc2
    clear hc hm hg hlt hc2
    go_enter Tryz.func134, Tryz.ntmps134
    go_wp2_with (at_builtin
                 refine wpList_append_sl (base := w.heap.size) rfl _ _ _ 78 rfl el_unit (.slice (some ⟨w.heap.size, 0, none⟩) 0 0) 0 [] rfl (SlIs.made (n := 0) (size := 0) (BlkIs.new _ _ _) (Nat.le_refl _) rfl (by decide)) _ n [] rfl (SrcIs.own Tryz.underlying78 (H.out.alloc _)) (fun u hu => by cases hu) (by rw [Nat.zero_add]; exact HC.out) (by simp) (by simp) ?_
                 intro v' w' hs1 hg1 hat1
                 have hb := ((Below.refl w.heap.size w).alloc (Nat.le_refl _) (.cells #[] 86)).grown hg1 (by simp) fun j hj => by simp [Value.ownBlock] at hj; omega
                 rw [Nat.zero_add] at hs1
                 have H1 := Lib.hid (And.intro hs1 hb)
                 clear hs1 hb hg1 hat1)
    go_ret
    exact ⟨_, rfl, H1.out.1, H1.out.2⟩
theorem has_string (base g : Nat) (kv vv : Value) (l : List ByteArray) (x : ByteArray) (w : World) (h : StrSet w base g kv vv l) (hn : l.length ≤ 1000000) :
    Calls Tryz.prog 88 #[.pointer (some ⟨g, 0, none⟩), Value.string x] w fun e w' => e = .returned (.bool (has l x)) ∧ DrawsOf w w' := by
  have A := Lib.hid (all_string g w h.blk.lt kv vv h.blk)
  have S := Lib.hid (find_string base g kv vv l x w h hn)
  obtain ⟨b, hb⟩ : ∃ b, b = has l x := ⟨_, rfl⟩
  rw [← hb] at S ⊢
  clear h hn hb
  go_enter Tryz.func88, Tryz.ntmps88
  go_wp2_with fail
  refine A.out.mono ?_
  rintro e w1 ⟨rfl, rfl⟩
  clear A
  go_wp2_with fail
  refine S.out.mono ?_
  rintro e w1 ⟨rfl, hd⟩
  have HD := Lib.hid hd
  clear S hd
  go_wp2_with fail
  go_ret
  exact ⟨rfl, HD.out⟩
theorem mlen_string (base g : Nat) (kv vv : Value) (l : List ByteArray) (w : World) (h : StrSet w base g kv vv l) :
    Calls Tryz.prog 62 #[.pointer (some ⟨g, 0, none⟩)] w fun e w' => e = .returned (.int .i64 (l.length : Int)) ∧ w = w' := by
  have c0 : w.cell? ⟨g, 0, none⟩ = some kv := h.blk.cell 0
  obtain ⟨ao, cap, rfl, -, -, -⟩ := h.keys.form
  clear h
  go_enter Tryz.func62, Tryz.ntmps62
  go_wp2_with fail
  go_ret
  exact ⟨rfl, rfl⟩
theorem len_string (base g : Nat) (kv vv : Value) (l : List ByteArray) (w : World) (h : StrSet w base g kv vv l) :
    Calls Tryz.prog 27 #[.pointer (some ⟨g, 0, none⟩)] w fun e w' => e = .returned (.int .i64 (l.length : Int)) ∧ w = w' := by
  have A := Lib.hid (all_string g w h.blk.lt kv vv h.blk)
  have S := Lib.hid (mlen_string base g kv vv l w h)
  clear h
  go_enter Tryz.func27, Tryz.ntmps27
  go_wp2_with fail
  refine A.out.mono ?_
  rintro e w1 ⟨rfl, rfl⟩
  clear A
  go_wp2_with fail
  refine S.out.mono ?_
  rintro e w1 ⟨rfl, rfl⟩
  clear S
  go_wp2_with fail
  go_ret
  exact ⟨rfl, rfl⟩
open Go.Shelf
attribute [local go_sem] Oper.semAt_some
theorem ownFrom_mono {β : Type} {B B' : Nat} {I : β → World → Prop} (h : OwnFrom B I) (hb : B ≤ B') : OwnFrom B' I := fun s W W' row hs hg hr => h s W W' row hs hg fun r e => ⟨Nat.le_trans hb (hr r e).1, (hr r e).2⟩
theorem ownFrom_blk {β : Type} (B g : Nat) (t : TypeId) (cs : Array Value) : OwnFrom B (fun (_ : β) W => BlkIs W g t cs) := fun s W W' row hs hg hr => hs.grown hg fun e => by
  obtain ⟨_, o, ho, hc⟩ := hr g e.symm
  unfold BlkIs at hs
  rw [hs] at ho
  injection ho with ho
  subst ho
  cases hc
theorem ins_last {α : Type} [El α] {l : List α} {x : α} (h : Rise (l ++ [x])) : ins x l = l ++ [x] := by
  have hl : Rise l := (List.pairwise_append.1 h).1
  refine rise_ext (ins_rise hl) h fun y => ?_
  rw [mem_ins, List.mem_append, List.mem_singleton]
  exact ⟨fun h => h.symm, fun h => h.symm⟩
noncomputable def partOf {α : Type} (lb : List α) (inn : Bool) (x : α) : Bool := has lb x == inn
theorem part_step {α : Type} [El α] {la lb pre : List α} {x : α} {inn : Bool} (hr : Rise la) (hp : pre ++ [x] <+: la) :
    (partOf lb inn x = true → ins x (pre.filter (partOf lb inn)) = (pre ++ [x]).filter (partOf lb inn) ∧ ¬ x ∈ pre.filter (partOf lb inn)) ∧ (partOf lb inn x = false → pre.filter (partOf lb inn) = (pre ++ [x]).filter (partOf lb inn)) := by
  have hr' : Rise (pre ++ [x]) := hr.sublist hp.sublist
  refine ⟨fun h => ?_, fun h => ?_⟩
  · have e : (pre ++ [x]).filter (partOf lb inn) = pre.filter (partOf lb inn) ++ [x] := by rw [List.filter_append]; simp [h]
    have h2 := rise_filter hr' (partOf lb inn)
    rw [e] at h2 ⊢
    refine ⟨ins_last h2, fun hx => ?_⟩
    exact El.irr x ((List.pairwise_append.1 h2).2.2 x hx x (by simp))
  · rw [List.filter_append]; simp [h]
set_option maxRecDepth 100000 in
set_option maxHeartbeats 2000000 in
theorem mapAll1_string (base g B : Nat) (kv vv : Value) (l : List ByteArray) (w : World) (h : StrSet w base g kv vv l) (hn : l.length ≤ 1000000) (hB : w.cell? ⟨B, 0, none⟩ = some (.pointer (some ⟨g, 0, none⟩))) (hBl : B < w.heap.size) :
    IterOf Tryz.prog 133 #[.pointer (some ⟨B, 0, none⟩)] (fun x : ByteArray => #[Value.string x, .agg #[]]) l w := by
  intro n lp J Jx W hW hJ hJx h0 hY
  have hS := h.chg (S := fun _ => False) ⟨hW.os, hW.tape, hW.output, hW.size, fun k hk _ => hW.block k hk⟩ (fun _ _ e => e)
  have b0 : W.cell? ⟨B, 0, none⟩ = some (.pointer (some ⟨g, 0, none⟩)) := (hW.cell (p := ⟨B, 0, none⟩) hBl).trans hB
  have c1 : W.cell? ⟨g, 1, none⟩ = some vv := hS.blk.cell 1
  have C := Lib.hid (clone_unit base l.length vv W hS.vals)
  have K := Lib.hid (fun (w1 : World) (hb : Below W.heap.size W w1) => keys_string base g kv vv l w1 (hS.later hb) hn)
  obtain ⟨av, cv, rfl, -, -, -⟩ := hS.vals.form
  have hBW : B < W.heap.size := Nat.lt_of_lt_of_le hBl hW.size
  have HH := Lib.hid (And.intro h0 (And.intro hY (And.intro hJ hJx)))
  clear h0 hY hJ hJx hS h hW hB hBl
  refine callsIn_of_wp Tryz.func133 rfl trivial ?_ rfl
  simp only [Tryz.ntmps133, List.size_toArray, List.length_cons, List.length_nil, Nat.reduceAdd, Nat.reduceSub, Array.replicate_succ, Array.replicate_zero, List.push_toArray, List.append_toArray, List.nil_append, List.cons_append]
  have nod : ∀ m, Fence.wide.depth.isSome = true → 1 ≤ m := fun m h => absurd h (by decide)
  gi_wp2
  refine ⟨trivial, nod _, (callsIn_wide.2 C.out).mono ?_⟩
  rintro e w1 ⟨v1, rfl, hs1, hb1⟩
  have H1 := Lib.hid (And.intro hs1 hb1)
  obtain ⟨a1, c1', rfl, -, hm1, -⟩ := hs1.form
  have b1 : w1.cell? ⟨B, 0, none⟩ = some (.pointer (some ⟨g, 0, none⟩)) := (hb1.cell (p := ⟨B, 0, none⟩) hBW).trans b0
  clear C hs1 hb1 c1
  gi_wp2
  refine ⟨trivial, nod _, (callsIn_wide.2 (K.out w1 H1.out.2)).mono ?_⟩
  rintro e w2 ⟨v2, rfl, hs2, hb2⟩
  have H2 := Lib.hid (show SlIs w2 w1.heap.size 9 1 v2 l.length (scells l) ∧ SlIs w2 W.heap.size 86 0 (.slice a1 l.length c1') l.length [] ∧ Below W.heap.size W w2 from
    ⟨hs2, H1.out.1.later hb2, H1.out.2.trans (hb2.mono H1.out.2.size)⟩)
  have HJ0 := Lib.hid (HH.out.1 w2 (grown_of_below H2.out.2.2))
  have hz1 := H1.out.2.size
  have hz2 := H2.out.2.2.size
  have hk := H2.out.1.parts
  have hu := unit_at H2.out.2.1
  obtain ⟨B1, hB1⟩ : ∃ B1, B1 = w2.heap.size := ⟨_, rfl⟩
  rw [← hB1] at HJ0 hz2
  have HB1 := Lib.hid hB1
  clear K hs2 hb2 b1 hm1
  obtain ⟨a2, c2', rfl, -, -, -⟩ := H2.out.1.form
  gi_wp2
  gi_loopw [16] (fun i wr => ∃ k : Nat, k ≤ l.length ∧ i = .int .i64 (k : Int) ∧ Hid (J B1 (l.take k) wr ∧ KeepsMid W.heap.size B1 w2 wr)) (fun i _ => l.length - (intOf i).toNat)
  case atStart => exact ⟨0, Nat.zero_le _, rfl, Lib.hid ⟨HJ0.out, KeepsMid.refl _ _ _⟩⟩
  case round =>
    obtain ⟨k, hkl, rfl, HR⟩ := hrel
    by_cases hlt : k < l.length
    · have ki : (k : Int) < l.length := by omega
      rcases hk with ⟨_, h0⟩ | ⟨b, off, cap, hv, hbb, hblt, _, _, hx, _⟩
      · exact absurd hlt (by omega)
      injection hv with e1 e2 e3
      subst e1 e3
      rcases hu with ⟨_, h0⟩ | ⟨b3, off3, cap3, hv, hbb3, hblt3, _, _⟩
      · exact absurd hlt (by omega)
      injection hv with e1 e2 e3
      subst e1 e3
      have c2 : wr.cell? ⟨b, off + k, none⟩ = some (Value.string l[k]) := by
        rw [HR.out.2.cell (by omega) (by have := HB1.out; omega), hx k hlt, scells_get l k hlt]
      have hpre : l.take k ++ [l[k]] = l.take (k + 1) := (List.take_succ_eq_append_getElem hlt).symm
      obtain ⟨fn, tmps, assign, body, hy, hR⟩ := HH.out.2.1 B1 (l.take k) l[k] wr hz2 (Nat.le_trans (by rw [HB1.out]; exact Nat.le_refl _) HR.out.2.1) HR.out.1 (by rw [hpre]; exact List.take_prefix _ _)
      rw [hpre] at hR
      obtain ⟨y, hyy⟩ : ∃ y, y = l[k] := ⟨_, rfl⟩
      rw [← hyy] at c2 hy
      try dsimp only at hy
      clear hpre hx hyy
      gi_wp2
      refine ⟨nod _, hR.mono ?_⟩
      rintro e w4 (⟨rfl, hJ4, hk4⟩ | ⟨rfl, hJx4, -⟩)
      · have H4 := Lib.hid (And.intro hJ4 (HR.out.2.trans hk4))
        clear hR hJ4 hk4
        gi_wp2
        refine ⟨⟨k + 1, by omega, rfl, H4⟩, ?_⟩
        simp [intOf]
        omega
      · have H4 := Lib.hid hJx4
        clear hR hJx4
        gi_wp2
        refine bodyPost_ret (results_none rfl _ _ _) rfl ?_
        exact ⟨⟨_, rfl⟩, .inr ⟨_, List.take_prefix _ _, H4.out⟩⟩
    · have ki : decide ((k : Int) < l.length) = false := decide_eq_false (by omega)
      obtain rfl : k = l.length := by omega
      have HR2 := Lib.hid (show J B1 l wr from by have := HR.out.1; rwa [List.take_length] at this)
      gi_wp2
      go_end0
      exact ⟨⟨_, rfl⟩, .inl ⟨B1, hz2, HR2.out⟩⟩
theorem mapAll_string (g : Nat) (w : World) : Calls Tryz.prog 117 #[.pointer (some ⟨g, 0, none⟩)] w fun e w' => e = .returned (.func (.func 133) #[] #[.pointer (some ⟨w.heap.size, 0, none⟩)]) ∧ w'.cell? ⟨w.heap.size, 0, none⟩ = some (.pointer (some ⟨g, 0, none⟩)) ∧ w.heap.size < w'.heap.size ∧ Below w.heap.size w w' := by
  have k := BlkIs.new w 83 #[.pointer (some ⟨g, 0, none⟩)]
  have H := Lib.hid (And.intro (k.cell 0) (And.intro k.lt ((Below.refl w.heap.size w).alloc (Nat.le_refl _) (.cells #[.pointer (some ⟨g, 0, none⟩)] 83))))
  clear k
  go_enter Tryz.func117, Tryz.ntmps117
  go_wp2_with fail
  go_ret
  exact ⟨rfl, H.out⟩
theorem setAll_string (p : Value) (w : World) (hp : ∃ a, p = .pointer a) : Calls Tryz.prog 87 #[p] w fun e w' => e = .returned (.func (.func 116) #[] #[.pointer (some ⟨w.heap.size, 0, none⟩)]) ∧ w'.cell? ⟨w.heap.size, 0, none⟩ = some p ∧ w.heap.size < w'.heap.size ∧ Below w.heap.size w w' := by
  obtain ⟨a, rfl⟩ := hp
  have k := BlkIs.new w 45 #[.pointer a]
  have H := Lib.hid (And.intro (k.cell 0) (And.intro k.lt ((Below.refl w.heap.size w).alloc (Nat.le_refl _) (.cells #[.pointer a] 45))))
  clear k
  go_enter Tryz.func87, Tryz.ntmps87
  go_wp2_with fail
  go_ret
  exact ⟨rfl, H.out⟩
set_option maxRecDepth 100000 in
set_option maxHeartbeats 2000000 in
theorem setAll1_string (base g B : Nat) (kv vv : Value) (l : List ByteArray) (w : World) (h : StrSet w base g kv vv l) (hn : l.length ≤ 1000000) (hB : w.cell? ⟨B, 0, none⟩ = some (.pointer (some ⟨g, 0, none⟩))) (hBl : B < w.heap.size) :
    IterOf Tryz.prog 116 #[.pointer (some ⟨B, 0, none⟩)] (fun x : ByteArray => #[Value.string x]) l w := by
  intro n lp J Jx W hW hJ hJx h0 hY
  have hS := h.chg (S := fun _ => False) ⟨hW.os, hW.tape, hW.output, hW.size, fun k hk _ => hW.block k hk⟩ (fun _ _ e => e)
  have hBW : B < W.heap.size := Nat.lt_of_lt_of_le hBl hW.size
  have b0 : W.cell? ⟨B, 0, none⟩ = some (.pointer (some ⟨g, 0, none⟩)) := (hW.cell (p := ⟨B, 0, none⟩) hBl).trans hB
  have H0 := Lib.hid (show ∃ W1, W1 = W.alloc (.cells #[.func (.yield lp) #[] #[]] 48) ∧ BlkIs W1 W.heap.size 48 #[.func (.yield lp) #[] #[]] ∧ Below W.heap.size W W1 from ⟨_, rfl, BlkIs.new _ _ _, (Below.refl _ _).alloc (Nat.le_refl _) _⟩)
  have HS := Lib.hid hS
  have HH := Lib.hid (And.intro h0 (And.intro hY (And.intro hJ hJx)))
  have nod : ∀ m, Fence.wide.depth.isSome = true → 1 ≤ m := fun m h => absurd h (by decide)
  clear h0 hY hJ hJx hS h hW hB hBl
  refine callsIn_of_wp_marks Tryz.func116 rfl trivial ?_ rfl
  simp only [Tryz.ntmps116, List.size_toArray, List.length_cons, List.length_nil, Nat.reduceAdd, Nat.reduceSub, Array.replicate_succ, Array.replicate_zero, List.push_toArray, List.append_toArray, List.nil_append, List.cons_append]
  gi_wp2
  obtain ⟨W1, hW1, H1⟩ := H0.out
  rw [← hW1]
  have H1 := Lib.hid H1
  clear hW1 H0
  have HS1 := Lib.hid (HS.out.later H1.out.2)
  refine ⟨trivial, nod _, (callsIn_wide.2 (all_string g W1 HS1.out.blk.lt kv vv HS1.out.blk)).mono ?_⟩
  rintro e w2 ⟨rfl, rfl⟩
  gi_wp2
  refine ⟨trivial, nod _, (callsIn_wide.2 (mapAll_string g W1)).mono ?_⟩
  rintro e W2 ⟨rfl, hc2, hl2, hb2⟩
  have H2 := Lib.hid (show BlkIs W2 W.heap.size 48 #[.func (.yield lp) #[] #[]] ∧ Below W.heap.size W W2 from ⟨H1.out.1.below hb2 H1.out.1.lt, H1.out.2.trans (hb2.mono H1.out.2.size)⟩)
  have IT := mapAll1_string base g W1.heap.size kv vv l W2 (HS1.out.later hb2) hn hc2 hl2
  have hz := H2.out.2.size
  gi_wp2
  refine wp_iter rfl (enters_of Tryz.func133 (by kernel_rfl) rfl) IT (Below.refl _ _) (fun _ => rfl)
    (fun B' pre W' => J B' pre W' ∧ BlkIs W' W.heap.size 48 #[.func (.yield lp) #[] #[]])
    (fun c pre W' => c = .ret ∧ Jx pre W')
    (fun B' pre x a' W' => a' = { tmps := #[.func (.yield lp) #[] #[], .pointer (some ⟨B, 0, none⟩), .pointer (some ⟨W.heap.size, 0, none⟩), Value.string x, .pointer (some ⟨g, 0, none⟩), .pointer (some ⟨g, 0, none⟩), .func (.func 133) #[] #[.pointer (some ⟨W1.heap.size, 0, none⟩)], Value.string x, .agg #[], undef, undef, undef, undef], defers := [] } ∧ J B' pre W' ∧ BlkIs W' W.heap.size 48 #[.func (.yield lp) #[] #[]])
    (fun B' => (ownFrom_mono (HH.out.2.2.1 B') hz).and (ownFrom_blk _ _ _ _))
    (fun c s X Y row hs hg hr => ⟨hs.1, (ownFrom_mono HH.out.2.2.2 hz) s X Y row hs.2 hg hr⟩)
    (fun B' pre x a' s X Y row hs hg hr => ⟨hs.1, (ownFrom_mono (HH.out.2.2.1 B') hz) pre X Y row hs.2.1 hg hr, ownFrom_blk (β := Unit) _ _ _ _ () X Y row hs.2.2 hg hr⟩)
    (fun W3 hg3 => ⟨HH.out.1 W3 (grown_trans (grown_of_below H2.out.2) hg3), H2.out.1.grown hg3 (by simp)⟩) ?assign ?body ?done ?stop
  case assign =>
    intro l' B' pre x W' hB1 hB2 hi hpre
    gi_wp2
    exact ⟨KeepsMid.refl _ _ _, trivial, hi⟩
  case body =>
    rintro l' B' pre x a' W' hB1 hB2 ⟨rfl, hj, hbk⟩ hpre
    obtain ⟨fn, tmps, assign, body, hy, hR⟩ := HH.out.2.1 B' pre x W' (Nat.le_trans hz hB1) hB2 hj hpre
    have hc := hbk.cell 0
    simp only [List.getElem?_toArray, List.getElem?_cons_zero] at hc
    try dsimp only at hy
    have HB := Lib.hid (And.intro hbk (And.intro hB1 hB2))
    clear hbk hj
    gi_wp2
    refine ⟨nod _, (roundIn_wide hR).mono ?_⟩
    rintro e w4 (⟨rfl, hJ4, hk4⟩ | ⟨rfl, hJx4, hk4⟩)
    · have hbk4 : BlkIs w4 W.heap.size 48 #[.func (.yield lp) #[] #[]] := (hk4.2 W.heap.size (Nat.le_refl _) (by have := HB.out.1.lt; have := HB.out.2; have := H2.out.1.lt; omega)).trans HB.out.1
      have H4 := Lib.hid (And.intro (hk4.mono hz (Nat.le_refl B')) (And.intro hJ4 hbk4))
      clear hR hJ4 hk4 hbk4
      gi_wp2
      exact H4.out
    · have H4 := Lib.hid (And.intro (hk4.mono hz (Nat.le_refl B')) hJx4)
      clear hR hJx4 hk4
      gi_wp2
      exact ⟨H4.out.1, rfl, H4.out.2⟩
  case done =>
    rintro D B' W' hD hB1 ⟨hj, hbk⟩ hK
    have HJ := Lib.hid ((HH.out.2.2.1 B').putObj (.deferred none) hj (Nat.le_trans hz hD) hK rfl)
    have HB := Lib.hid (Nat.le_trans hz hB1)
    clear hj hbk
    gi_wp2
    refine ⟨by simp, .inl ⟨_, _, rfl, run_takeDeferred hK, ?_⟩⟩
    exact ⟨_, results_none rfl _ _ _, ⟨_, rfl⟩, .inl ⟨B', HB.out, HJ.out⟩⟩
  case stop =>
    rintro D c pre W' hD hpre ⟨rfl, hjx⟩ hK
    have HJ := Lib.hid (HH.out.2.2.2.putObj (.deferred none) hjx (Nat.le_trans hz hD) hK rfl)
    clear hjx
    gi_wp2
    refine ⟨by simp, .inl ⟨_, _, rfl, run_takeDeferred hK, ?_⟩⟩
    exact ⟨_, results_none rfl _ _ _, ⟨_, rfl⟩, .inr ⟨pre, hpre, HJ.out⟩⟩
/-- The set that is being made: its blocks lie below N, or from B on. -/
def StrOut (base g N B : Nat) (l : List ByteArray) (W : World) : Prop := ∃ kv vv, StrSet W base g kv vv l ∧ ∀ k, Own_ g kv vv k → k < N ∨ B ≤ k
theorem StrSet.own_cells {w : World} {base g : Nat} {kv vv : Value} {l : List ByteArray} (h : StrSet w base g kv vv l) {k : Nat} (hk : Own_ g kv vv k) {o : Obj} (ho : w.heap[k]? = some o) : o.isCells = true := by
  have row : ∀ {e : TypeId} {size n : Nat} {v : Value} {xs : List Value}, SlIs w base e size v n xs → v.ownBlock = some k → o.isCells = true := by
    intro e size n v xs hs hv
    rcases hs.2 with ⟨rfl, _⟩ | ⟨g', off, cap, cur, rfl, _, ⟨fr, hh, _⟩, _⟩
    · cases hv
    · have e1 : g' = k := by simpa [Value.ownBlock] using hv
      subst e1
      rw [hh] at ho
      injection ho with ho
      subst ho
      rfl
  rcases hk with rfl | hk | hk
  · have hb := h.blk
    unfold BlkIs at hb
    rw [hb] at ho
    injection ho with ho
    subst ho
    rfl
  · exact row h.keys hk
  · exact row h.vals hk
theorem ownFrom_sOut {β : Type} (base g N B B0 : Nat) (f : β → List ByteArray) : OwnFrom B0 (fun s W => StrOut base g N B (f s) W) := by
  rintro s W W' row ⟨kv, vv, hs, hf⟩ hg hr
  refine ⟨kv, vv, hs.chg (.of_grown (S := fun k => row = some k) hg fun k e => e) (fun k hk e => ?_), hf⟩
  obtain ⟨_, o, ho, hc⟩ := hr k e
  rw [hs.own_cells hk ho] at hc
  cases hc
set_option maxRecDepth 100000 in
set_option maxHeartbeats 4000000 in
theorem part_string (ba ga bb gb : Nat) (kva vva kvb vvb : Value) (la lb : List ByteArray) (inn : Bool) (w : World) (ha : StrSet w ba ga kva vva la) (hb : StrSet w bb gb kvb vvb lb) (hna : la.length < 1000000) (hnb : lb.length ≤ 1000000) :
    Calls Tryz.prog 61 #[.pointer (some ⟨ga, 0, none⟩), .pointer (some ⟨gb, 0, none⟩), .bool inn] w fun e w' => ∃ g kv vv, e = .returned (.pointer (some ⟨g, 0, none⟩)) ∧ StrSet w' w.heap.size g kv vv (la.filter (partOf lb inn)) ∧ Below w.heap.size w w' := by
  have nod : ∀ m, Fence.wide.depth.isSome = true → 1 ≤ m := fun m h => absurd h (by decide)
  have hmx : Tryz.prog.follows .mixedOrders = true := by kernel_rfl
  have H0 := Lib.hid (show ∃ W, W = (w.alloc (.cells #[.pointer (some ⟨gb, 0, none⟩)] 45)).alloc (.cells #[.bool inn] 4) ∧ BlkIs W w.heap.size 45 #[.pointer (some ⟨gb, 0, none⟩)] ∧ BlkIs W (w.heap.size + 1) 4 #[.bool inn] ∧ Below w.heap.size w W from
    ⟨_, rfl, (BlkIs.new _ _ _).alloc _, BlkIs.new2 _ _ _ _, ((Below.refl _ _).alloc (Nat.le_refl _) _).alloc (by simp) _⟩)
  have HA := Lib.hid (And.intro ha hb)
  have HR := Lib.hid ha.rise
  clear ha hb
  refine (callsIn_wide (n := 9)).1 ?_
  refine callsIn_of_wp_marks Tryz.func61 rfl trivial ?_ rfl
  simp only [Tryz.ntmps61, List.size_toArray, List.length_cons, List.length_nil, Nat.reduceAdd, Nat.reduceSub, Array.replicate_succ, Array.replicate_zero, List.push_toArray, List.append_toArray, List.nil_append, List.cons_append]
  gi_wp2
  obtain ⟨W1, hW1, H1⟩ := H0.out
  have hz1 : W1.heap.size = w.heap.size + 2 := by rw [hW1]; simp
  rw [← hW1]
  have H1 := Lib.hid H1
  clear hW1 H0
  refine ⟨trivial, (callsIn_wide.2 (of_string (.slice none 0 0) [] W1 ⟨none, 0, rfl, Nat.le_refl _, by decide, fun h => absurd h (Nat.lt_irrefl _)⟩ (by decide))).mono ?_⟩
  rintro e W2 ⟨go, kvo, vvo, lo, rfl, hlo, hso, hb2⟩
  obtain rfl : lo = [] := List.eq_nil_iff_forall_not_mem.2 fun x hx => by simpa using (hlo.2 x).1 hx
  have hown0 : ∀ k, Own_ go kvo vvo k → k < W2.heap.size := fun k hk => (hso.own hk).2
  rw [hz1] at hso
  have H2 := Lib.hid (show StrSet W2 (w.heap.size + 2) go kvo vvo [] ∧ BlkIs W2 w.heap.size 45 #[.pointer (some ⟨gb, 0, none⟩)] ∧ BlkIs W2 (w.heap.size + 1) 4 #[.bool inn] ∧ Below w.heap.size w W2 from
    ⟨hso, H1.out.1.below hb2 H1.out.1.lt, H1.out.2.1.below hb2 H1.out.2.1.lt, H1.out.2.2.trans (hb2.mono H1.out.2.2.size)⟩)
  have HW := Lib.hid hown0
  clear hso hb2 hlo hown0 hz1
  gi_wp2
  obtain ⟨W3, hW3⟩ : ∃ W3, W3 = W2.alloc (.cells #[.pointer (some ⟨go, 0, none⟩)] 45) := ⟨_, rfl⟩
  have hb3 : Below W2.heap.size W2 W3 := by rw [hW3]; exact (Below.refl _ _).alloc (Nat.le_refl _) _
  have H3 := Lib.hid (show StrSet W3 (w.heap.size + 2) go kvo vvo [] ∧ BlkIs W3 w.heap.size 45 #[.pointer (some ⟨gb, 0, none⟩)] ∧ BlkIs W3 (w.heap.size + 1) 4 #[.bool inn] ∧ BlkIs W3 W2.heap.size 45 #[.pointer (some ⟨go, 0, none⟩)] ∧ Below w.heap.size w W3 from
    ⟨H2.out.1.later hb3, H2.out.2.1.below hb3 H2.out.2.1.lt, H2.out.2.2.1.below hb3 H2.out.2.2.1.lt, by rw [hW3]; exact BlkIs.new _ _ _, H2.out.2.2.2.trans (hb3.mono H2.out.2.2.2.size)⟩)
  rw [← hW3]
  clear hW3 hb3
  refine ⟨trivial, (callsIn_wide.2 (setAll_string (.pointer (some ⟨ga, 0, none⟩)) W3 ⟨_, rfl⟩)).mono ?_⟩
  rintro e W4 ⟨rfl, hc4, hl4, hb4⟩
  have H4 := Lib.hid (show StrSet W4 (w.heap.size + 2) go kvo vvo [] ∧ BlkIs W4 w.heap.size 45 #[.pointer (some ⟨gb, 0, none⟩)] ∧ BlkIs W4 (w.heap.size + 1) 4 #[.bool inn] ∧ BlkIs W4 W2.heap.size 45 #[.pointer (some ⟨go, 0, none⟩)] ∧ Below w.heap.size w W4 from
    ⟨H3.out.1.later hb4, H3.out.2.1.below hb4 H3.out.2.1.lt, H3.out.2.2.1.below hb4 H3.out.2.2.1.lt, H3.out.2.2.2.1.below hb4 H3.out.2.2.2.1.lt, H3.out.2.2.2.2.trans (hb4.mono H3.out.2.2.2.2.size)⟩)
  have hsa : StrSet W4 ba ga kva vva la := HA.out.1.later H4.out.2.2.2.2
  have IT := setAll1_string ba ga W3.heap.size kva vva la W4 hsa (by omega) hc4 hl4
  have hzw := H4.out.2.2.2.2.size
  have hz2 := H4.out.2.2.2.1.lt
  clear hb4 hsa hc4 hl4
  gi_wp2
  -- the loop
  refine wp_iter rfl (enters_of Tryz.func116 (by kernel_rfl) rfl) IT (Below.refl _ _) (fun _ => rfl)
    (fun B' pre W' => (StrOut (w.heap.size + 2) go W2.heap.size B' (pre.filter (partOf lb inn)) W' ∧ BlkIs W' w.heap.size 45 #[.pointer (some ⟨gb, 0, none⟩)]) ∧ (BlkIs W' (w.heap.size + 1) 4 #[.bool inn] ∧ BlkIs W' W2.heap.size 45 #[.pointer (some ⟨go, 0, none⟩)]) ∧ Below w.heap.size w W')
    (fun c pre W' => False)
    (fun B' pre x a' W' => a' = { tmps := #[.pointer (some ⟨ga, 0, none⟩), .pointer (some ⟨gb, 0, none⟩), .bool inn, undef, .pointer (some ⟨w.heap.size, 0, none⟩), .pointer (some ⟨w.heap.size + 1, 0, none⟩), .pointer none, .pointer (some ⟨W2.heap.size, 0, none⟩), Value.string x, .pointer (some ⟨go, 0, none⟩), .pointer (some ⟨ga, 0, none⟩), .func (.func 116) #[] #[.pointer (some ⟨W3.heap.size, 0, none⟩)], Value.string x, undef, undef, undef, undef, undef, undef, undef, undef, undef], defers := [] } ∧
      (StrOut (w.heap.size + 2) go W2.heap.size B' (pre.filter (partOf lb inn)) W' ∧ BlkIs W' w.heap.size 45 #[.pointer (some ⟨gb, 0, none⟩)]) ∧ (BlkIs W' (w.heap.size + 1) 4 #[.bool inn] ∧ BlkIs W' W2.heap.size 45 #[.pointer (some ⟨go, 0, none⟩)]) ∧ Below w.heap.size w W')
    (fun B' => (ownFrom_sOut _ _ _ _ _ _ |>.and (ownFrom_blk _ _ _ _)).and (((ownFrom_blk _ _ _ _).and (ownFrom_blk _ _ _ _)).and (ownFrom_below (Nat.le_refl _) hzw)))
    (fun c s X Y row hs hg hr => hs)
    (fun B' pre x a' s X Y row hs hg hr => ⟨hs.1, ((ownFrom_sOut (β := Unit) _ _ _ _ _ (fun _ => pre.filter (partOf lb inn)) |>.and (ownFrom_blk _ _ _ _)).and (((ownFrom_blk _ _ _ _).and (ownFrom_blk _ _ _ _)).and (ownFrom_below (Nat.le_refl _) hzw))) () X Y row hs.2 hg hr⟩)
    (fun W5 hg5 => ⟨⟨⟨_, _, H4.out.1.later (below_of_grown hg5), fun k hk => Or.inl (HW.out k hk)⟩, H4.out.2.1.grown hg5 (by simp)⟩, ⟨H4.out.2.2.1.grown hg5 (by simp), H4.out.2.2.2.1.grown hg5 (by simp)⟩, H4.out.2.2.2.2.trans ((below_of_grown hg5).mono hzw)⟩) ?assign ?body ?done ?stop
  case assign =>
    intro l' B' pre x W' hB1 hB2 hi hpre
    gi_wp2
    exact ⟨KeepsMid.refl _ _ _, trivial, hi⟩
  case body =>
    rintro l' B' pre x a' W' hB1 hB2 ⟨rfl, ⟨ho, hk0⟩, ⟨hk1, hk2⟩, hbw⟩ hpre
    have hsb : StrSet W' bb gb kvb vvb lb := HA.out.2.later hbw
    have h0 := Lib.hid (And.intro hk0 (And.intro hk1 hk2))
    have HB := Lib.hid (And.intro ho (And.intro hbw hpre))
    have c0 := hk0.cell 0
    have c1 := hk1.cell 0
    have c2 := hk2.cell 0
    clear hk0 hk1 hk2 ho hbw hpre IT
    simp only [List.getElem?_toArray, List.getElem?_cons_zero] at c0 c1 c2
    obtain ⟨bx, hbx⟩ : ∃ bx, bx = has lb x := ⟨_, rfl⟩
    gi_wp2
    gi_region_with_o (refine ⟨trivial, ?_⟩; gi_at_call 88; refine (CallsIn.inRound l' (callsIn_wide.2 (has_string bb gb kvb vvb lb x _ (by first | exact hsb | exact hsb.later (((DrawsOf.refl _).drewN _).below _) | exact hsb.later (((DrawsOf.refl _).drew).below _)) hnb))).mono ?_; rintro e w4 ⟨rfl, q, rfl⟩)
    all_goals (
      have hdr := ((DrawsOf.refl W').drewN (1 + q)).below W'.heap.size
      obtain ⟨WQ, hWQ⟩ : ∃ WQ, WQ = W'.drewN (1 + q) := ⟨_, rfl⟩
      rw [← hWQ] at hdr ⊢
      have hzq : WQ.heap.size = W'.heap.size := by rw [hWQ]; rfl
      have c2q : WQ.cell? ⟨W2.heap.size, 0, none⟩ = some (.pointer (some ⟨go, 0, none⟩)) := by rw [hWQ]; exact c2
      clear hWQ c0 c1 c2 hsb
      have HQ := Lib.hid hdr
      have hp : partOf lb inn x = (bx == inn) := by rw [hbx]; rfl
      clear hdr
      rw [← hbx]
      cases hbi : (bx == inn)
      · gi_wp2
        obtain ⟨kv, vv, hs, hown⟩ := HB.out.1
        have hdr := HQ.out
        have st := (part_step (inn := inn) (lb := lb) HR.out HB.out.2.2).2 (hp.trans hbi)
        refine ⟨KeepsMid.below hdr hB2, ⟨⟨kv, vv, ?_, hown⟩, h0.out.1.below hdr h0.out.1.lt⟩, ⟨h0.out.2.1.below hdr h0.out.2.1.lt, h0.out.2.2.below hdr h0.out.2.2.lt⟩, HB.out.2.1.trans (hdr.mono HB.out.2.1.size)⟩
        rw [← st]
        exact hs.later hdr
      · gi_wp2
        obtain ⟨kv, vv, hs, hown⟩ := HB.out.1
        have hdr := HQ.out
        have st := (part_step (inn := inn) (lb := lb) HR.out HB.out.2.2).1 (hp.trans hbi)
        have hlen : (pre.filter (partOf lb inn)).length < 1000000 := by
          have h1 := List.length_filter_le (partOf lb inn) pre
          have h2 := HB.out.2.2.length_le
          simp at h2
          omega
        refine ⟨trivial, (CallsIn.inRound l' (callsIn_wide.2 (add_string _ go kv vv _ x WQ (hs.later hdr) hlen))).mono ?_⟩
        rintro e w5 ⟨kv', vv', rfl, hs', hch, hown'⟩
        have hC : Chg (Own_ go kv vv) W' w5 := (Chg.of_below hdr).trans (hch.mono fun k _ h => Or.inl h)
        have hzz := HB.out.2.1.size
        have hnb0 : ∀ k, k < w.heap.size + 2 → ¬ Own_ go kv vv k := fun k hk ho => by have := (hs.own ho).1; omega
        have hfin := Lib.hid (show KeepsMid W4.heap.size B' W' w5 ∧ (StrOut (w.heap.size + 2) go W2.heap.size B' ((pre ++ [x]).filter (partOf lb inn)) w5 ∧ BlkIs w5 w.heap.size 45 #[.pointer (some ⟨gb, 0, none⟩)]) ∧ (BlkIs w5 (w.heap.size + 1) 4 #[.bool inn] ∧ BlkIs w5 W2.heap.size 45 #[.pointer (some ⟨go, 0, none⟩)]) ∧ Below w.heap.size w w5 from
          ⟨⟨hC.size, fun k a b => hC.block k (Nat.lt_of_lt_of_le b hB2) (fun ho => by rcases hown k ho with h | h <;> omega)⟩,
           ⟨⟨kv', vv', st.1 ▸ hs', fun k hk => (hown' k hk).elim (hown k) fun h => Or.inr (by omega)⟩, hC.blk h0.out.1 (hnb0 _ (by omega))⟩,
           ⟨hC.blk h0.out.2.1 (hnb0 _ (by omega)), hC.blk h0.out.2.2 (fun ho => by rcases hown _ ho with h | h <;> omega)⟩,
           HB.out.2.1.trans (hC.below hzz fun k ho => by have := (hs.own ho).1; omega)⟩)
        clear hs' hch hown' hC hown hs hnb0
        gi_wp2
        exact hfin.out)
  case done =>
    rintro D B' W' hD hB1 ⟨⟨ho, -⟩, ⟨-, hk2⟩, hbw⟩ hK
    have c2 := hk2.cell 0
    simp only [List.getElem?_toArray, List.getElem?_cons_zero] at c2
    have hj := (ownFrom_sOut (β := Unit) (w.heap.size + 2) go W2.heap.size B' W4.heap.size (fun _ => la.filter (partOf lb inn))).putObj (s := ()) (.deferred none) ho hD hK rfl
    have hb5 := (ownFrom_below (β := Unit) (w₀ := w) (n₀ := w.heap.size) (Nat.le_refl _) hzw).putObj (s := ()) (.deferred none) hbw hD hK rfl
    have HJ := Lib.hid (And.intro hj hb5)
    clear ho hk2 hbw hj hb5
    gi_wp2
    refine ⟨by simp, .inl ⟨_, _, rfl, run_takeDeferred hK, ?_⟩⟩
    obtain ⟨⟨kv, vv, hs, -⟩, hb⟩ := HJ.out
    exact ⟨_, results_tmp rfl _ _ _, go, kv, vv, rfl, hs.mono (Nat.le_add_right _ 2), hb⟩
  case stop => exact fun D c pre W' hD hpre hf hK => hf.elim
theorem scells_app (l m : List ByteArray) : scells (l ++ m) = scells l ++ scells m := by simp [scells]
/-- What part leaves. -/
def StrPart (la lb : List ByteArray) (inn : Bool) (w w' : World) (e : Ending) : Prop := ∃ g kv vv, e = .returned (.pointer (some ⟨g, 0, none⟩)) ∧ StrSet w' w.heap.size g kv vv (la.filter (partOf lb inn)) ∧ Below w.heap.size w w'
theorem minus_string (ba ga bb gb : Nat) (kva vva kvb vvb : Value) (la lb : List ByteArray) (w : World) (ha : StrSet w ba ga kva vva la) (hb : StrSet w bb gb kvb vvb lb) (hna : la.length < 1000000) (hnb : lb.length ≤ 1000000) :
    Calls Tryz.prog 25 #[.pointer (some ⟨ga, 0, none⟩), .pointer (some ⟨gb, 0, none⟩)] w fun e w' => StrPart la lb false w w' e := by
  have C := Lib.hid (part_string ba ga bb gb kva vva kvb vvb la lb false w ha hb hna hnb)
  clear ha hb hna hnb
  go_enter Tryz.func25, Tryz.ntmps25
  go_wp2_with fail
  refine C.out.mono ?_
  rintro e w1 ⟨g, kv, vv, rfl, hs, hbl⟩
  have H := Lib.hid (And.intro hs hbl)
  clear C hs hbl
  go_wp2_with fail
  go_ret
  exact ⟨g, kv, vv, rfl, H.out⟩
theorem within_string (ba ga bb gb : Nat) (kva vva kvb vvb : Value) (la lb : List ByteArray) (w : World) (ha : StrSet w ba ga kva vva la) (hb : StrSet w bb gb kvb vvb lb) (hna : la.length < 1000000) (hnb : lb.length ≤ 1000000) :
    Calls Tryz.prog 26 #[.pointer (some ⟨ga, 0, none⟩), .pointer (some ⟨gb, 0, none⟩)] w fun e w' => e = .returned (.bool (((la.filter (partOf lb false)).length : Int) == 0)) ∧ Below w.heap.size w w' := by
  have C := Lib.hid (minus_string ba ga bb gb kva vva kvb vvb la lb w ha hb hna hnb)
  clear ha hb hna hnb
  obtain ⟨n, hn⟩ : ∃ n, n = (la.filter (partOf lb false)).length := ⟨_, rfl⟩
  rw [← hn]
  have HN := Lib.hid hn
  clear hn
  go_enter Tryz.func26, Tryz.ntmps26
  go_wp2_with fail
  refine C.out.mono ?_
  rintro e w1 ⟨g, kv, vv, rfl, hs, hbl⟩
  have L := Lib.hid (len_string _ g kv vv _ w1 hs)
  rw [← HN.out] at L
  have H := Lib.hid hbl
  clear C hs hbl
  go_wp2_with fail
  refine L.out.mono ?_
  rintro e w2 ⟨rfl, rfl⟩
  clear L
  go_wp2_with fail
  go_ret
  exact ⟨rfl, H.out⟩
end Go.Proofs.YtjkhmjklmclpoaaGreat.Set
