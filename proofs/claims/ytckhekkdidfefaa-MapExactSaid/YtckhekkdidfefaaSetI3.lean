/- shelf.Set[int].Add, walked; Of. Conditions: fewer than 1,000,000 things. (Layer 08.) -/
import Derived.Test.YtckhekkdidfefaaSetI2
import Derived.Deep.CutRange
import Derived.RegionTactic
namespace Go.Proofs.Ytckhekkdidfefaa.Set
set_option linter.unusedVariables false
open Go.RowKit Go.Sort Go.Lib
/-- What Put leaves. -/
def IntPut (base g : Nat) (kv vv : Value) (l : List Int) (x : Int) (w w' : World) (e : Ending) : Prop :=
  ∃ kv' vv', e = .returned (.bool (!has l x)) ∧ IntSet w' base g kv' vv' (ins x l) ∧ Chg (Own_ g kv vv) w w' ∧ ∀ k, Own_ g kv' vv' k → Own_ g kv vv k ∨ w.heap.size ≤ k
set_option maxRecDepth 100000 in
set_option maxHeartbeats 2000000 in
theorem put_int (base g : Nat) (kv vv : Value) (l : List Int) (x : Int) (w : World) (h : IntSet w base g kv vv l) (hn : l.length < 1000000) :
    Calls Try.prog 57 #[.pointer (some ⟨g, 0, none⟩), Value.int .i64 x, .agg #[]] w fun e w' => IntPut base g kv vv l x w w' e := by
  have hB := h.later ((Below.refl w.heap.size w).alloc (Nat.le_refl _) (.cells #[] 72))
  have H0 := Lib.hid (show ∃ W, W = w.alloc (.cells #[] 72) ∧ IntSet W base g kv vv l ∧ BlkIs W w.heap.size 72 #[] ∧ Below w.heap.size w W from ⟨_, rfl, hB, BlkIs.new _ _ _, (Below.refl _ _).alloc (Nat.le_refl _) _⟩)
  have hgl := h.blk.lt
  have hbl : base ≤ w.heap.size := Nat.le_trans h.ge (Nat.le_of_lt hgl)
  have HG := Lib.hid (And.intro hgl hbl)
  have HH := Lib.hid h
  clear hB h hgl hbl
  go_enter Try.func57, Try.ntmps57
  go_wp2_with fail
  obtain ⟨W, hW, H0⟩ := H0.out
  rw [← hW]
  have H0 := Lib.hid H0
  clear hW
  obtain ⟨p, hp⟩ : ∃ p, p = pos l x := ⟨_, rfl⟩
  have F := Lib.hid (find_int base g kv vv l x W H0.out.1 (by omega))
  rw [← hp] at F
  have hpl : p ≤ l.length := by rw [hp]; exact pos_le l x
  have HP := Lib.hid hp
  clear hp
  by_cases hx : x ∈ l
  · rw [has_true hx] at F
    have HX := Lib.hid hx
    obtain ⟨hpl', _⟩ := pos_at HH.out.rise hx
    rw [← HP.out] at hpl'
    clear hx
    refine F.out.mono ?_
    rintro e w1 ⟨rfl, hd⟩
    obtain ⟨q, rfl⟩ := hd
    clear F
    have c1 : W.cell? ⟨g, 1, none⟩ = some vv := H0.out.1.blk.cell 1
    rcases unit_at H0.out.1.vals with ⟨_, h0⟩ | ⟨b, off, cap, rfl, _, hbw, hc, hm⟩
    · exact absurd hpl' (by omega)
    have k0 : (p : Int) < l.length := by omega
    go_wp2_with fail
    go_region
    go_wp2_with fail
    go_ret
    have hdr := ((DrawsOf.refl W).drewN (q + 1)).below W.heap.size
    refine ⟨kv, _, by rw [has_true HX.out]; rfl, by rw [ins_of HX.out]; exact H0.out.1.later hdr, Chg.of_below (H0.out.2.2.trans (hdr.mono H0.out.2.2.size)), fun k hk => Or.inl hk⟩
  · rw [has_false hx] at F
    have HX := Lib.hid hx
    clear hx
    refine F.out.mono ?_
    rintro e w1 ⟨rfl, hd⟩
    obtain ⟨q, rfl⟩ := hd
    clear F
    obtain ⟨ak, ck, rfl, -, -, -⟩ := H0.out.1.keys.form
    obtain ⟨av, cv, rfl, -, -, -⟩ := H0.out.1.vals.form
    obtain ⟨W1, hW1⟩ : ∃ W1, W1 = W.drewN q := ⟨_, rfl⟩
    have hdr := ((DrawsOf.refl W).drewN q).below W.heap.size
    have H1 := Lib.hid (show IntSet W1 base g (.slice ak l.length ck) (.slice av l.length cv) l ∧ BlkIs W1 w.heap.size 72 #[] ∧ Below w.heap.size w W1 from by
      rw [hW1]; exact ⟨H0.out.1.later hdr, H0.out.2.1, H0.out.2.2.trans (hdr.mono H0.out.2.2.size)⟩)
    rw [← hW1]
    clear hW1 hdr
    obtain ⟨W2, hW2⟩ : ∃ W2, W2 = W1.alloc (.cells #[Value.int .i64 x] 3) := ⟨_, rfl⟩
    have hb2 : Below W1.heap.size W1 W2 := by rw [hW2]; exact (Below.refl _ _).alloc (Nat.le_refl _) _
    have hz2 : W2.heap.size = W1.heap.size + 1 := by rw [hW2]; simp
    have H2 := Lib.hid (show IntSet W2 base g (.slice ak l.length ck) (.slice av l.length cv) l ∧ BlkIs W2 w.heap.size 72 #[] ∧ BlkIs W2 W1.heap.size 3 #[Value.int .i64 x] ∧ Below w.heap.size w W2 from by
      refine ⟨H1.out.1.later hb2, H1.out.2.1.below hb2 H1.out.2.1.lt, ?_, H1.out.2.2.trans (hb2.mono H1.out.2.2.size)⟩
      rw [hW2]; exact BlkIs.new _ _ _)
    have I := Lib.hid (insert_int base p (.slice ak l.length ck) l x W1.heap.size W2 H2.out.1.keys hpl (by omega) (Nat.le_trans HG.out.2 H2.out.2.2.2.size) H2.out.2.2.1 (fun e => by have := (H1.out.1.keys.lt _ e).2; omega))
    have HW2 := Lib.hid hW2
    have c0 : W1.cell? ⟨g, 0, none⟩ = some (.slice ak l.length ck) := H1.out.1.blk.cell 0
    have d0 : W2.cell? ⟨g, 0, none⟩ = some (.slice ak l.length ck) := H2.out.1.blk.cell 0
    clear hW2 hb2
    go_wp2_with fail
    rw [← HW2.out]
    refine I.out.mono ?_
    rintro e W3 ⟨v3, rfl, hs3, hg3, ho3⟩
    have hk3 : BlkIs W3 g 69 #[.slice ak l.length ck, .slice av l.length cv] := H2.out.1.blk.grown hg3 (fun e => H2.out.1.keys.ne_blk H2.out.1.blk (by decide) e.symm)
    have hv3 : SlIs W3 base 72 0 (.slice av l.length cv) l.length [] := H2.out.1.vals.kept hg3 (sl_apart H2.out.1.vals H2.out.1.keys (by decide))
    obtain ⟨a3, cap3, rfl, -, -, -⟩ := hs3.form
    have H3 := Lib.hid (And.intro hs3 (And.intro hk3 (And.intro hv3 (And.intro hg3 ho3))))
    have c3 : W3.cell? ⟨g, 0, none⟩ = some (.slice ak l.length ck) := hk3.cell 0
    have f3 := hk3.free 0
    clear I hs3 hk3 hv3 hg3 ho3 c0 d0
    go_wp2_with fail
    obtain ⟨W4, hW4⟩ : ∃ W4, W4 = W3.setCell ⟨g, 0, none⟩ (.slice a3 (l.length + 1) cap3) := ⟨_, rfl⟩
    have H4 := Lib.hid (show BlkIs W4 g 69 #[.slice a3 (l.length + 1) cap3, .slice av l.length cv] ∧ SlIs W4 base 3 1 (.slice a3 (l.length + 1) cap3) (l.length + 1) (icells (l.take p ++ x :: l.drop p)) ∧ SlIs W4 base 72 0 (.slice av l.length cv) l.length [] ∧
        Chg (Own_ g (.slice ak l.length ck) (.slice av l.length cv)) w W4 from by
      rw [hW4]
      refine ⟨?_, H3.out.1.far (H3.out.1.ne_blk H3.out.2.1 (by decide)) _, H3.out.2.2.1.far (H3.out.2.2.1.ne_blk H3.out.2.1 (by decide)) _, ?_⟩
      · have := H3.out.2.1.put 0 (.slice a3 (l.length + 1) cap3)
        simpa using this
      · refine Chg.setCell ?_ (Or.inl (Or.inl rfl)) _
        exact (Chg.of_below H2.out.2.2.2).trans (.of_grown H3.out.2.2.2.1 fun k hk => Or.inl (Or.inr (Or.inl hk))))
    rw [← hW4]
    have c4 : W4.cell? ⟨g, 1, none⟩ = some (.slice av l.length cv) := H4.out.1.cell 1
    clear hW4 c3 f3
    have mixed : Try.prog.follows .mixedOrders = true := by kernel_rfl
    obtain ⟨W5, hW5⟩ : ∃ W5, W5 = (W4.alloc (.cells #[] 72)).drew := ⟨_, rfl⟩
    have hb5 : Below W4.heap.size W4 W5 := by rw [hW5]; exact below_drewN ((Below.refl _ _).alloc (Nat.le_refl _) _) 1
    have IU := Lib.hid (insert_unit base l.length p (.slice av l.length cv) W4.heap.size W5 (H4.out.2.2.1.later hb5) hpl (by unfold maxLen; omega) (Nat.le_trans HG.out.2 (Nat.le_trans H4.out.2.2.2.size hb5.size)) (by rw [hW5]; exact (BlkIs.new W4 72 #[]).drew))
    have H5 := Lib.hid (show BlkIs W5 g 69 #[.slice a3 (l.length + 1) cap3, .slice av l.length cv] ∧ SlIs W5 base 3 1 (.slice a3 (l.length + 1) cap3) (l.length + 1) (icells (l.take p ++ x :: l.drop p)) ∧ SlIs W5 base 72 0 (.slice av l.length cv) l.length [] ∧
        Chg (Own_ g (.slice ak l.length ck) (.slice av l.length cv)) w W5 from
      ⟨H4.out.1.below hb5 H4.out.1.lt, H4.out.2.1.later hb5, H4.out.2.2.1.later hb5, H4.out.2.2.2.trans (Chg.of_below hb5)⟩)
    rw [hW5] at IU
    have HW5 := Lib.hid hW5
    have hg4 : g < W4.heap.size := H4.out.1.lt
    clear hW5 hb5
    go_region_law (first
      | (go_simp; go_at_call 72; refine IU.out.mono ?_
         rintro e W6 ⟨v6, rfl, hs6, hg6, ho6⟩
         rw [← HW5.out] at hg6 ho6
         have hk6 : BlkIs W6 g 69 #[.slice a3 (l.length + 1) cap3, .slice av l.length cv] := H5.out.1.grown hg6 (fun e => H5.out.2.2.1.ne_blk H5.out.1 (by decide) e.symm)
         have hv6 : SlIs W6 base 3 1 (.slice a3 (l.length + 1) cap3) (l.length + 1) (icells (l.take p ++ x :: l.drop p)) := H5.out.2.1.kept hg6 (sl_apart H5.out.2.1 H5.out.2.2.1 (by decide))
         obtain ⟨a6, cap6, rfl, -, -, -⟩ := hs6.form
         have c6 : W6.cell? ⟨g, 1, none⟩ = some (.slice av l.length cv) := hk6.cell 1
         have f6 := hk6.free 1
         have H6 := Lib.hid (And.intro hs6 (And.intro hk6 (And.intro hv6 (And.intro ((H5.out.2.2.2).trans (.of_grown hg6 fun k hk => Or.inl (Or.inr (Or.inr hk)))) ho6))))
         clear hs6 hk6 hv6 hg6 ho6))
    all_goals
      clear c4 c6 f6 IU
      go_wp2_with fail
      go_ret
      have hch : Chg (Own_ g (.slice ak l.length ck) (.slice av l.length cv)) w (W6.setCell ⟨g, 1, none⟩ (.slice a6 (l.length + 1) cap6)) := H6.out.2.2.2.1.setCell (Or.inl (Or.inl rfl)) _
      have hbk : BlkIs (W6.setCell ⟨g, 1, none⟩ (.slice a6 (l.length + 1) cap6)) g 69 #[.slice a3 (l.length + 1) cap3, .slice a6 (l.length + 1) cap6] := by
        have := H6.out.2.1.put 1 (.slice a6 (l.length + 1) cap6)
        simpa using this
      have hins : ins x l = l.take p ++ x :: l.drop p := by rw [ins_new HX.out, HP.out]
      have hil : (ins x l).length = l.length + 1 := ins_length HX.out
      refine ⟨_, _, by rw [has_false HX.out]; rfl, ⟨HH.out.ge, hbk, ?_, ?_, ins_rise HH.out.rise⟩, hch, ?_⟩
      · rw [hil, hins]
        exact H6.out.2.2.1.far (H6.out.2.2.1.ne_blk H6.out.2.1 (by decide)) _
      · rw [hil]
        exact H6.out.1.far (H6.out.1.ne_blk H6.out.2.1 (by decide)) _
      · rintro k (rfl | hk | hk)
        · exact Or.inl (Or.inl rfl)
        · rcases H3.out.2.2.2.2 with e | e
          · exact Or.inl (Or.inr (Or.inl (by rw [← e]; exact hk)))
          · refine Or.inr ?_
            have h1 := H2.out.2.2.2.size
            have e' : some k = some W2.heap.size := hk.symm.trans e
            injection e' with e'
            omega
        · rcases H6.out.2.2.2.2 with e | e
          · exact Or.inl (Or.inr (Or.inr (by rw [← e]; exact hk)))
          · refine Or.inr ?_
            have h1 := H5.out.2.2.2.size
            have e' : some k = some W5.heap.size := hk.symm.trans e
            injection e' with e'
            omega
end Go.Proofs.Ytckhekkdidfefaa.Set
