/- shelf.Map[string, api.Fact]: Put of a new key, walked. Printed by gen_mapput.py. (Layer 11.) -/
import Derived.Test.YthcgdpdijdmelaaGreatMkMapF
namespace Go.Proofs.YthcgdpdijdmelaaGreat.Ord
set_option linter.unusedVariables false
set_option linter.unusedSimpArgs false
open Go.RowKit Go.Sort Go.Lib
open Set (StrAt scells Rise El Own_ pos has ins insert_string ins_new ins_rise ins_length)
theorem fcells_app (l m : List Fv) : fcells (l ++ m) = fcells l ++ fcells m := by simp [fcells]
theorem fcells_split (l : List Fv) (p : Nat) (hp : p ≤ l.length) : (fcells l).take (p * 3) = fcells (l.take p) ∧ (fcells l).drop (p * 3) = fcells (l.drop p) := by
  have h1 : (fcells (l.take p)).length = p * 3 := by rw [fcells_length, List.length_take, Nat.min_eq_left hp]
  have e : fcells l = fcells (l.take p) ++ fcells (l.drop p) := by rw [← fcells_app, List.take_append_drop]
  rw [e]
  exact ⟨List.take_left' h1, List.drop_left' h1⟩
theorem encF_one (x : Fv) : ∀ v ∈ encF x, v.oneCell' = true := fun v hv => by
  simp only [encF, List.mem_cons, List.not_mem_nil, or_false] at hv
  rcases hv with rfl | rfl | rfl <;> rfl
theorem fcells_one (l : List Fv) : ∀ v ∈ fcells l, v.oneCell' = true := fun v hv => by
  unfold fcells at hv
  obtain ⟨x, _, hx⟩ := List.mem_flatMap.1 hv
  exact encF_one x v hx
/-- What Put of a new key leaves. -/
def FPut (base g : Nat) (kv vv : Value) (L : RowF) (x : ByteArray) (y : Fv) (w w' : World) (e : Ending) : Prop :=
  ∃ kv' vv' L', e = .returned (.bool true) ∧ FMap w' base g kv' vv' L' ∧ (∀ z, z ∈ L' ↔ z = (x, y) ∨ z ∈ L) ∧ L'.length = L.length + 1 ∧ Chg (Own_ g kv vv) w w' ∧ ∀ k, Own_ g kv' vv' k → Own_ g kv vv k ∨ w.heap.size ≤ k
theorem fput_end {base g p n : Nat} {ak a3 av a7 : Option Addr} {ck cap3 cv cap7 : Nat} {L : RowF} {x : ByteArray} {y : Fv} {w W7 : World} {e : Ending} (h : FMap w base g (.slice ak n ck) (.slice av n cv) L) (hpl : p ≤ n) (hp : p = pos (kf L) x) (hx : ¬ x ∈ kf L) (hn : n = L.length)
    (hs : SlIs W7 base 28 3 (.slice a7 (n + 1) cap7) (n + 1) ((fcells (vf L)).take (p * 3) ++ (encF y ++ (fcells (vf L)).drop (p * 3)))) (hk : BlkIs W7 g 69 #[.slice a3 (n + 1) cap3, .slice av n cv]) (hv : SlIs W7 base 9 1 (.slice a3 (n + 1) cap3) (n + 1) (scells ((kf L).take p ++ x :: (kf L).drop p)))
    (hc : Chg (Own_ g (.slice ak n ck) (.slice av n cv)) w W7) (he : e = .returned (.bool true) := by rfl) (ho : ∀ k, Own_ g (.slice a3 (n + 1) cap3) (.slice a7 (n + 1) cap7) k → Own_ g (.slice ak n ck) (.slice av n cv) k ∨ w.heap.size ≤ k) :
    FPut base g (.slice ak n ck) (.slice av n cv) L x y w (W7.setCell ⟨g, 1, none⟩ (.slice a7 (n + 1) cap7)) e := by
  have hbk : BlkIs (W7.setCell ⟨g, 1, none⟩ (.slice a7 (n + 1) cap7)) g 69 #[.slice a3 (n + 1) cap3, .slice a7 (n + 1) cap7] := by
    have := hk.put 1 (.slice a7 (n + 1) cap7)
    simpa using this
  have hks : kf (L.take p ++ (x, y) :: L.drop p) = (kf L).take p ++ x :: (kf L).drop p := by simp [kf, List.map_take, List.map_drop]
  have hvs : vf (L.take p ++ (x, y) :: L.drop p) = (vf L).take p ++ y :: (vf L).drop p := by simp [vf, List.map_take, List.map_drop]
  have hml : (L.take p ++ (x, y) :: L.drop p).length = n + 1 := by rw [List.length_append, List.length_cons, List.length_take, List.length_drop]; omega
  have hvl : (vf L).length = n := by simp [hn]
  obtain ⟨f1, f2⟩ := fcells_split (vf L) p (by omega)
  have hfc : fcells (vf (L.take p ++ (x, y) :: L.drop p)) = (fcells (vf L)).take (p * 3) ++ (encF y ++ (fcells (vf L)).drop (p * 3)) := by
    rw [hvs, f1, f2, fcells_app]
    rfl
  have hins : (kf L).take p ++ x :: (kf L).drop p = ins x (kf L) := by rw [ins_new hx, hp]
  refine ⟨_, _, L.take p ++ (x, y) :: L.drop p, he, ⟨h.ge, hbk, ?_, ?_, ?_⟩, fun z => ?_, by rw [hml, hn], hc.setCell (Or.inl (Or.inl rfl)) _, ho⟩
  · rw [hml, hks]
    exact hv.far (hv.ne_blk hk (by decide)) _
  · rw [hml, hfc]
    exact hs.far (hs.ne_blk hk (by decide)) _
  · rw [hks, hins]; exact ins_rise h.rise
  · have e : z ∈ L ↔ z ∈ L.take p ∨ z ∈ L.drop p := by rw [← List.mem_append, List.take_append_drop]
    rw [e, List.mem_append, List.mem_cons]
    constructor
    · rintro (h | h | h)
      · exact Or.inr (Or.inl h)
      · exact Or.inl h
      · exact Or.inr (Or.inr h)
    · rintro (h | h | h)
      · exact Or.inr (Or.inl h)
      · exact Or.inl h
      · exact Or.inr (Or.inr h)
set_option maxRecDepth 100000 in
set_option maxHeartbeats 4000000 in
theorem fmap_put (base g : Nat) (kv vv : Value) (L : RowF) (x : ByteArray) (y : Fv) (w : World) (h : FMap w base g kv vv L) (hn : L.length < 1000000) (hx : ¬ x ∈ kf L) :
    Calls Tryz.prog 10 #[.pointer (some ⟨g, 0, none⟩), .string x, .agg #[.string y.id, .int .i64 y.h, .slice y.pa y.np y.pc]] w fun e w' => FPut base g kv vv L x y w w' e := by
  obtain ⟨W0, hW0⟩ : ∃ W, W = w.alloc (.cells #[.string y.id, .int .i64 y.h, .slice y.pa y.np y.pc] 28) := ⟨_, rfl⟩
  obtain ⟨Vb, hVb⟩ : ∃ V, V = w.heap.size := ⟨_, rfl⟩
  have hb0 : Below w.heap.size w W0 := by rw [hW0]; exact (Below.refl _ _).alloc (Nat.le_refl _) _
  have kv0 : BlkIs W0 Vb 28 #[.string y.id, .int .i64 y.h, .slice y.pa y.np y.pc] := by rw [hW0, hVb]; exact BlkIs.new _ _ _
  have F := Lib.hid (fmap_find base g kv vv L x W0 (h.later hb0) (by omega))
  rw [Set.has_false hx] at F
  have HH := Lib.hid h
  obtain ⟨p, hp⟩ : ∃ p, p = pos (kf L) x := ⟨_, rfl⟩
  have hpl : p ≤ L.length := by rw [hp, ← kf_len L]; exact Set.pos_le _ x
  rw [← hp] at F
  have hkvne : ∀ k, Own_ g kv vv k → k ≠ Vb := fun k hk e => by have := (h.own hk).2; omega
  have HP := Lib.hid (And.intro hp (And.intro hx (And.intro hb0 (And.intro kv0 (And.intro hVb hkvne)))))
  have hgl := h.blk.lt
  have hbl : base ≤ w.heap.size := Nat.le_trans h.ge (Nat.le_of_lt hgl)
  have HG := Lib.hid (And.intro hgl hbl)
  obtain ⟨n, hnn⟩ : ∃ n, n = L.length := ⟨_, rfl⟩
  have HL := Lib.hid hnn
  have hs := And.intro (h.keys.later hb0) (And.intro (h.vals.later hb0) (h.blk.below hb0 h.blk.lt))
  rw [← hnn] at hs hpl hn
  obtain ⟨ak, ck, rfl, -, -, -⟩ := hs.1.form
  obtain ⟨av, cv, rfl, -, -, -⟩ := hs.2.1.form
  have H0 := Lib.hid (And.intro hs (And.intro hW0 (And.intro hpl hn)))
  clear h hp hgl hbl hnn hs hx hb0 kv0 hkvne
  go_enter Tryz.func10, Tryz.ntmps10
  go_upto_region 1 with (fail)
  rw [← H0.out.2.1, ← hVb]
  clear hW0 hVb
  go_wp2_with fail
  refine F.out.mono ?_
  rintro e w1 ⟨rfl, q, rfl⟩
  clear F
  obtain ⟨W1, hW1⟩ : ∃ W1, W1 = W0.drewN q := ⟨_, rfl⟩
  have hdr := ((DrawsOf.refl W0).drewN q).below W0.heap.size
  have H1 := Lib.hid (show BlkIs W1 g 69 #[.slice ak n ck, .slice av n cv] ∧ SlIs W1 base 9 1 (.slice ak n ck) n (scells (kf L)) ∧ SlIs W1 base 28 3 (.slice av n cv) n (fcells (vf L)) ∧ Below w.heap.size w W1 ∧ BlkIs W1 Vb 28 #[.string y.id, .int .i64 y.h, .slice y.pa y.np y.pc] from by
    rw [hW1]; exact ⟨H0.out.1.2.2, H0.out.1.1, H0.out.1.2.1, HP.out.2.2.1.trans (hdr.mono HP.out.2.2.1.size), HP.out.2.2.2.1⟩)
  rw [← hW1]
  clear hW1 hdr
  obtain ⟨W2, hW2⟩ : ∃ W2, W2 = W1.alloc (.cells #[.string x] 9) := ⟨_, rfl⟩
  have hb2 : Below W1.heap.size W1 W2 := by rw [hW2]; exact (Below.refl _ _).alloc (Nat.le_refl _) _
  have H2 := Lib.hid (show BlkIs W2 g 69 #[.slice ak n ck, .slice av n cv] ∧ SlIs W2 base 9 1 (.slice ak n ck) n (scells (kf L)) ∧ SlIs W2 base 28 3 (.slice av n cv) n (fcells (vf L)) ∧ BlkIs W2 W1.heap.size 9 #[.string x] ∧ Below w.heap.size w W2 ∧ BlkIs W2 Vb 28 #[.string y.id, .int .i64 y.h, .slice y.pa y.np y.pc] from by
    refine ⟨H1.out.1.below hb2 H1.out.1.lt, H1.out.2.1.later hb2, H1.out.2.2.1.later hb2, ?_, H1.out.2.2.2.1.trans (hb2.mono H1.out.2.2.2.1.size), H1.out.2.2.2.2.below hb2 H1.out.2.2.2.2.lt⟩
    rw [hW2]; exact BlkIs.new _ _ _)
  have hkl : (kf L).length = n := by rw [kf_len, HL.out]
  have I := insert_string base p (.slice ak n ck) (kf L) x W1.heap.size W2 (by rw [hkl]; exact H2.out.2.1) (by rw [hkl]; exact H0.out.2.2.1) (by rw [hkl]; have := H0.out.2.2.2; omega) (Nat.le_trans HG.out.2 H2.out.2.2.2.2.1.size) H2.out.2.2.2.1 (fun e => by have := (H1.out.2.1.lt _ e).2; omega)
  rw [hkl] at I
  have I := Lib.hid I
  have HW2 := Lib.hid hW2
  have c0 : W1.cell? ⟨g, 0, none⟩ = some (.slice ak n ck) := H1.out.1.cell 0
  have d0 : W2.cell? ⟨g, 0, none⟩ = some (.slice ak n ck) := H2.out.1.cell 0
  clear hW2 hb2 hkl
  go_wp2_with fail
  rw [← HW2.out]
  refine I.out.mono ?_
  rintro e W3 ⟨v3, rfl, hs3, hg3, ho3⟩
  have hk3 : BlkIs W3 g 69 #[.slice ak n ck, .slice av n cv] := H2.out.1.grown hg3 (fun e => H2.out.2.1.ne_blk H2.out.1 (by decide) e.symm)
  have hv3 : SlIs W3 base 28 3 (.slice av n cv) n (fcells (vf L)) := H2.out.2.2.1.kept hg3 (sl_apart H2.out.2.2.1 H2.out.2.1 (by decide))
  have hy3 : BlkIs W3 Vb 28 #[.string y.id, .int .i64 y.h, .slice y.pa y.np y.pc] := H2.out.2.2.2.2.2.grown hg3 (fun e => HP.out.2.2.2.2.2 Vb (Or.inr (Or.inl e.symm)) rfl)
  obtain ⟨a3, cap3, rfl, -, -, -⟩ := hs3.form
  have H3 := Lib.hid (And.intro hs3 (And.intro hk3 (And.intro hv3 (And.intro hg3 (And.intro ho3 hy3)))))
  have c3 : W3.cell? ⟨g, 0, none⟩ = some (.slice ak n ck) := hk3.cell 0
  have c31 : W3.cell? ⟨g, 1, none⟩ = some (.slice av n cv) := hk3.cell 1
  have f3 := hk3.free 0
  clear I hs3 hk3 hv3 hg3 ho3 c0 d0 hy3
  go_upto_region 3 with (fail)
  obtain ⟨W4, hW4⟩ : ∃ W4, W4 = W3.setCell ⟨g, 0, none⟩ (.slice a3 (n + 1) cap3) := ⟨_, rfl⟩
  have H4 := Lib.hid (show BlkIs W4 g 69 #[.slice a3 (n + 1) cap3, .slice av n cv] ∧ SlIs W4 base 9 1 (.slice a3 (n + 1) cap3) (n + 1) (scells ((kf L).take p ++ x :: (kf L).drop p)) ∧ SlIs W4 base 28 3 (.slice av n cv) n (fcells (vf L)) ∧
      Chg (Own_ g (.slice ak n ck) (.slice av n cv)) w W4 ∧ BlkIs W4 Vb 28 #[.string y.id, .int .i64 y.h, .slice y.pa y.np y.pc] from by
    rw [hW4]
    refine ⟨?_, H3.out.1.far (H3.out.1.ne_blk H3.out.2.1 (by decide)) _, H3.out.2.2.1.far (H3.out.2.2.1.ne_blk H3.out.2.1 (by decide)) _, ?_, H3.out.2.2.2.2.2.far (fun e => HP.out.2.2.2.2.2 g (Or.inl rfl) e.symm) _⟩
    · have := H3.out.2.1.put 0 (.slice a3 (n + 1) cap3)
      simpa using this
    · refine Chg.setCell ?_ (Or.inl (Or.inl rfl)) _
      exact (Chg.of_below H2.out.2.2.2.2.1).trans (.of_grown H3.out.2.2.2.1 fun k hk => Or.inl (Or.inr (Or.inl hk))))
  have HW4 := Lib.hid (And.intro hW4 (show W4.heap.size = W3.heap.size by rw [hW4]; simp))
  rw [← hW4]
  clear hW4 c3 c31 f3
  have ho3 := H3.out.2.2.2.2.1
  have hz2 := H2.out.2.2.2.2.1.size
  have HO3 := Lib.hid (And.intro ho3 hz2)
  clear ho3 hz2
  refine wp_region_held_drew (S := fun W => W.cell? ⟨Vb, 0, none⟩ = some (.string y.id) ∧ W.cell? ⟨Vb, 1, none⟩ = some (.int .i64 y.h) ∧ W.cell? ⟨Vb, 2, none⟩ = some (.slice y.pa y.np y.pc)) (by kernel_rfl) ⟨H4.out.2.2.2.2.cell 0, H4.out.2.2.2.2.cell 1, H4.out.2.2.2.2.cell 2⟩ (fun hHeld => ?_)
  obtain ⟨W5, hW5⟩ : ∃ W5, W5 = W4.drew := ⟨_, rfl⟩
  have H5 := Lib.hid (show BlkIs W5 g 69 #[.slice a3 (n + 1) cap3, .slice av n cv] ∧ SlIs W5 base 9 1 (.slice a3 (n + 1) cap3) (n + 1) (scells ((kf L).take p ++ x :: (kf L).drop p)) ∧ SlIs W5 base 28 3 (.slice av n cv) n (fcells (vf L)) ∧
      Chg (Own_ g (.slice ak n ck) (.slice av n cv)) w W5 ∧ BlkIs W5 Vb 28 #[.string y.id, .int .i64 y.h, .slice y.pa y.np y.pc] from by
    rw [hW5]
    exact ⟨H4.out.1, H4.out.2.1.drew, H4.out.2.2.1.drew, H4.out.2.2.2.1.trans (.of_below ⟨rfl, rfl, rfl, Nat.le_refl _, fun _ _ => rfl⟩), H4.out.2.2.2.2⟩)
  have HZ5 := Lib.hid (show W5.heap.size = W3.heap.size from by rw [hW5]; exact HW4.out.2)
  rw [← hW5] at hHeld ⊢
  clear hW5
  obtain ⟨W6, hW6⟩ : ∃ W6, W6 = W5.alloc (.cells #[.string y.id, .int .i64 y.h, .slice y.pa y.np y.pc] 28) := ⟨_, rfl⟩
  have hb6 : Below W5.heap.size W5 W6 := by rw [hW6]; exact (Below.refl _ _).alloc (Nat.le_refl _) _
  have H6 := Lib.hid (show BlkIs W6 g 69 #[.slice a3 (n + 1) cap3, .slice av n cv] ∧ SlIs W6 base 9 1 (.slice a3 (n + 1) cap3) (n + 1) (scells ((kf L).take p ++ x :: (kf L).drop p)) ∧ SlIs W6 base 28 3 (.slice av n cv) n (fcells (vf L)) ∧
      Chg (Own_ g (.slice ak n ck) (.slice av n cv)) w W6 ∧ BlkIs W6 Vb 28 #[.string y.id, .int .i64 y.h, .slice y.pa y.np y.pc] ∧ BlkIs W6 W5.heap.size 28 #[.string y.id, .int .i64 y.h, .slice y.pa y.np y.pc] from
    ⟨H5.out.1.below hb6 H5.out.1.lt, H5.out.2.1.later hb6, H5.out.2.2.1.later hb6, H5.out.2.2.2.1.trans (Chg.of_below hb6), H5.out.2.2.2.2.below hb6 H5.out.2.2.2.2.lt, by rw [hW6]; exact BlkIs.new _ _ _⟩)
  have I := Lib.hid (insert_fact base n p (.slice av n cv) (fcells (vf L)) (encF y) W5.heap.size W6 H6.out.2.2.1 H0.out.2.2.1 (by have := H0.out.2.2.2; omega) (Nat.le_trans HG.out.2 H6.out.2.2.2.1.size) H6.out.2.2.2.2.2 (fun e => by have := (H5.out.2.2.1.lt _ e).2; omega) rfl (fcells_one _) (encF_one y))
  have HW6 := Lib.hid hW6
  clear hW6 hb6
  refine wpAnyH_take (i := 0) (v := .pointer (some ⟨g, 0, none⟩)) rfl (by kernel_rfl) (by kernel_rfl) (by kernel_rfl) (fun _ _ _ h => h) (Or.inl ⟨by kernel_rfl, fun w hSw => ?_⟩) (by assumption) ?_
  · obtain ⟨s1, s2, s3⟩ := hSw
    go_simp
  simp only [Act.put, List.getElem_toArray, List.getElem_cons_zero, List.getElem_cons_succ, List.setIfInBounds_toArray, List.set_cons_zero, List.set_cons_succ]
  refine wpAnyH_take (i := 1) (v := .pointer (some ⟨g, 0, none⟩)) rfl (by kernel_rfl) (by kernel_rfl) (by kernel_rfl) (fun _ _ _ h => h) (Or.inl ⟨by kernel_rfl, fun w hSw => ?_⟩) (by assumption) ?_
  · obtain ⟨s1, s2, s3⟩ := hSw
    go_simp
  simp only [Act.put, List.getElem_toArray, List.getElem_cons_zero, List.getElem_cons_succ, List.setIfInBounds_toArray, List.set_cons_zero, List.set_cons_succ]
  refine wpAnyH_take (i := 2) (v := .pointer (some ⟨g, 0, none⟩)) rfl (by kernel_rfl) (by kernel_rfl) (by kernel_rfl) (fun _ _ _ h => h) (Or.inl ⟨by kernel_rfl, fun w hSw => ?_⟩) (by assumption) ?_
  · obtain ⟨s1, s2, s3⟩ := hSw
    go_simp
  simp only [Act.put, List.getElem_toArray, List.getElem_cons_zero, List.getElem_cons_succ, List.setIfInBounds_toArray, List.set_cons_zero, List.set_cons_succ]
  refine wpAnyH_take (i := 3) (v := .pointer (some ⟨g, 1, none⟩)) rfl (by kernel_rfl) (by kernel_rfl) (by kernel_rfl) (fun _ _ _ h => h) (Or.inl ⟨by kernel_rfl, fun w hSw => ?_⟩) (by assumption) ?_
  · obtain ⟨s1, s2, s3⟩ := hSw
    go_simp
  simp only [Act.put, List.getElem_toArray, List.getElem_cons_zero, List.getElem_cons_succ, List.setIfInBounds_toArray, List.set_cons_zero, List.set_cons_succ]
  refine wpAnyH_take (i := 5) (v := .int .i64 (p : Int)) rfl (by kernel_rfl) (by kernel_rfl) (by kernel_rfl) (fun _ _ _ h => h) (Or.inl ⟨by kernel_rfl, fun w hSw => ?_⟩) (by assumption) ?_
  · obtain ⟨s1, s2, s3⟩ := hSw
    go_simp
  simp only [Act.put, List.getElem_toArray, List.getElem_cons_zero, List.getElem_cons_succ, List.setIfInBounds_toArray, List.set_cons_zero, List.set_cons_succ]
  refine wpAnyH_take (i := 6) (v := .agg #[.string y.id, .int .i64 y.h, .slice y.pa y.np y.pc]) rfl (by kernel_rfl) (by kernel_rfl) (by kernel_rfl) (fun _ _ _ h => h) (Or.inl ⟨by kernel_rfl, fun w hSw => ?_⟩) (by assumption) ?_
  · obtain ⟨s1, s2, s3⟩ := hSw
    go_simp
  simp only [Act.put, List.getElem_toArray, List.getElem_cons_zero, List.getElem_cons_succ, List.setIfInBounds_toArray, List.set_cons_zero, List.set_cons_succ]
  refine wpAnyH_ready (rs := [4, 7]) (by kernel_rfl) (by simp) ?_
  refine AllReadyH.cons rfl (fun K hK => ?_) (AllReadyH.cons rfl (fun K hK => ?_) AllReadyH.nil)
  · skip
    have c1 : W5.cell? ⟨g, 1, none⟩ = some (.slice av n cv) := H5.out.1.cell 1
    go_simp
    refine hK.out _ _ ⟨H5.out.2.2.2.2.cell 0, H5.out.2.2.2.2.cell 1, H5.out.2.2.2.2.cell 2⟩ (fun hHeld => ?_)
    clear hK K c1
    refine wpAnyH_ready (rs := [7]) (by kernel_rfl) (by simp) ?_
    refine AllReadyH.cons rfl (fun K hK => ?_) AllReadyH.nil
    go_simp
    rw [← HW6.out]
    refine hK.out _ _ ⟨H6.out.2.2.2.2.1.cell 0, H6.out.2.2.2.2.1.cell 1, H6.out.2.2.2.2.1.cell 2⟩ (fun hHeld => ?_)
    clear hK K
    refine wpAnyH_ready (rs := [8]) (by kernel_rfl) (by simp) ?_
    refine AllReadyH.cons rfl (fun K hK => ?_) AllReadyH.nil
    go_simp
    go_wp2_with (
      go_at_call 28
      refine I.out.mono ?_
      rintro e W7 ⟨v7, rfl, hs7, hg7, ho7⟩)
    have hk7 : BlkIs W7 g 69 #[.slice a3 (n + 1) cap3, .slice av n cv] := H6.out.1.grown hg7 (fun e => H6.out.2.2.1.ne_blk H6.out.1 (by decide) e.symm)
    have hv7 : SlIs W7 base 9 1 (.slice a3 (n + 1) cap3) (n + 1) (scells ((kf L).take p ++ x :: (kf L).drop p)) := H6.out.2.1.kept hg7 (sl_apart H6.out.2.1 H6.out.2.2.1 (by decide))
    have hy7 : BlkIs W7 Vb 28 #[.string y.id, .int .i64 y.h, .slice y.pa y.np y.pc] := H6.out.2.2.2.2.1.grown hg7 (fun e => HP.out.2.2.2.2.2 Vb (Or.inr (Or.inr e.symm)) rfl)
    obtain ⟨a7, cap7, rfl, -, -, -⟩ := hs7.form
    have c7 : W7.cell? ⟨g, 1, none⟩ = some (.slice av n cv) := hk7.cell 1
    have f7 := hk7.free 1
    have H7 := Lib.hid (And.intro hs7 (And.intro hk7 (And.intro hv7 (And.intro ((H6.out.2.2.2.1).trans (.of_grown hg7 fun k hk => Or.inl (Or.inr (Or.inr hk)))) (And.intro ho7 hy7)))))
    clear hs7 hk7 hv7 hg7 ho7 hy7
    refine hK.out _ _ ⟨H7.out.2.2.2.2.2.cell 0, H7.out.2.2.2.2.2.cell 1, H7.out.2.2.2.2.2.cell 2⟩ (fun hHeld => ?_)
    clear hK K
    refine wpAnyH_take (i := 9) (v := .pointer (some ⟨g, 0, none⟩)) rfl (by kernel_rfl) (by kernel_rfl) (by kernel_rfl) (fun _ _ _ h => h) (Or.inl ⟨by kernel_rfl, fun w hSw => ?_⟩) (by assumption) ?_
    · obtain ⟨s1, s2, s3⟩ := hSw
      go_simp
    simp only [Act.put, List.getElem_toArray, List.getElem_cons_zero, List.getElem_cons_succ, List.setIfInBounds_toArray, List.set_cons_zero, List.set_cons_succ]
    refine wpAnyH_take (i := 10) (v := .pointer (some ⟨g, 1, none⟩)) rfl (by kernel_rfl) (by kernel_rfl) (by kernel_rfl) (fun _ _ _ h => h) (Or.inl ⟨by kernel_rfl, fun w hSw => ?_⟩) (by assumption) ?_
    · obtain ⟨s1, s2, s3⟩ := hSw
      go_simp
    simp only [Act.put, List.getElem_toArray, List.getElem_cons_zero, List.getElem_cons_succ, List.setIfInBounds_toArray, List.set_cons_zero, List.set_cons_succ]
    refine wpAnyH_ready (rs := [11]) (by kernel_rfl) (by simp) ?_
    refine AllReadyH.cons rfl (fun K hK => ?_) AllReadyH.nil
    go_simp
    have hy8 : BlkIs (W7.setCell ⟨g, 1, none⟩ (.slice a7 (n + 1) cap7)) Vb 28 #[.string y.id, .int .i64 y.h, .slice y.pa y.np y.pc] := H7.out.2.2.2.2.2.far (fun e => HP.out.2.2.2.2.2 g (Or.inl rfl) e.symm) _
    refine hK.out _ _ ⟨hy8.cell 0, hy8.cell 1, hy8.cell 2⟩ (fun hHeld => ?_)
    clear hK K c7 f7
    refine wpAnyH_done (by kernel_rfl) ?_ _
    go_wp2_with fail
    go_ret
    exact fput_end HH.out H0.out.2.2.1 HP.out.1 HP.out.2.1 HL.out H7.out.1 H7.out.2.1 H7.out.2.2.1 H7.out.2.2.2.1 (ho := fun k hk => by
      rcases hk with rfl | hk | hk
      · exact Or.inl (Or.inl rfl)
      · rcases HO3.out.1 with e | e
        · exact Or.inl (Or.inr (Or.inl (by rw [← e]; exact hk)))
        · refine Or.inr ?_
          have e' : some k = some W2.heap.size := hk.symm.trans e
          injection e' with e'
          have := HO3.out.2
          omega
      · rcases H7.out.2.2.2.2.1 with e | e
        · exact Or.inl (Or.inr (Or.inr (by rw [← e]; exact hk)))
        · refine Or.inr ?_
          have h1 := H6.out.2.2.2.1.size
          have e' : some k = some W6.heap.size := hk.symm.trans e
          injection e' with e'
          omega)
  · skip
    go_simp
    rw [← HW6.out]
    refine hK.out _ _ ⟨H6.out.2.2.2.2.1.cell 0, H6.out.2.2.2.2.1.cell 1, H6.out.2.2.2.2.1.cell 2⟩ (fun hHeld => ?_)
    clear hK K
    refine wpAnyH_ready (rs := [4]) (by kernel_rfl) (by simp) ?_
    refine AllReadyH.cons rfl (fun K hK => ?_) AllReadyH.nil
    have c1 : W6.cell? ⟨g, 1, none⟩ = some (.slice av n cv) := H6.out.1.cell 1
    go_simp
    refine hK.out _ _ ⟨H6.out.2.2.2.2.1.cell 0, H6.out.2.2.2.2.1.cell 1, H6.out.2.2.2.2.1.cell 2⟩ (fun hHeld => ?_)
    clear hK K c1
    refine wpAnyH_ready (rs := [8]) (by kernel_rfl) (by simp) ?_
    refine AllReadyH.cons rfl (fun K hK => ?_) AllReadyH.nil
    go_simp
    go_wp2_with (
      go_at_call 28
      refine I.out.mono ?_
      rintro e W7 ⟨v7, rfl, hs7, hg7, ho7⟩)
    have hk7 : BlkIs W7 g 69 #[.slice a3 (n + 1) cap3, .slice av n cv] := H6.out.1.grown hg7 (fun e => H6.out.2.2.1.ne_blk H6.out.1 (by decide) e.symm)
    have hv7 : SlIs W7 base 9 1 (.slice a3 (n + 1) cap3) (n + 1) (scells ((kf L).take p ++ x :: (kf L).drop p)) := H6.out.2.1.kept hg7 (sl_apart H6.out.2.1 H6.out.2.2.1 (by decide))
    have hy7 : BlkIs W7 Vb 28 #[.string y.id, .int .i64 y.h, .slice y.pa y.np y.pc] := H6.out.2.2.2.2.1.grown hg7 (fun e => HP.out.2.2.2.2.2 Vb (Or.inr (Or.inr e.symm)) rfl)
    obtain ⟨a7, cap7, rfl, -, -, -⟩ := hs7.form
    have c7 : W7.cell? ⟨g, 1, none⟩ = some (.slice av n cv) := hk7.cell 1
    have f7 := hk7.free 1
    have H7 := Lib.hid (And.intro hs7 (And.intro hk7 (And.intro hv7 (And.intro ((H6.out.2.2.2.1).trans (.of_grown hg7 fun k hk => Or.inl (Or.inr (Or.inr hk)))) (And.intro ho7 hy7)))))
    clear hs7 hk7 hv7 hg7 ho7 hy7
    refine hK.out _ _ ⟨H7.out.2.2.2.2.2.cell 0, H7.out.2.2.2.2.2.cell 1, H7.out.2.2.2.2.2.cell 2⟩ (fun hHeld => ?_)
    clear hK K
    refine wpAnyH_take (i := 9) (v := .pointer (some ⟨g, 0, none⟩)) rfl (by kernel_rfl) (by kernel_rfl) (by kernel_rfl) (fun _ _ _ h => h) (Or.inl ⟨by kernel_rfl, fun w hSw => ?_⟩) (by assumption) ?_
    · obtain ⟨s1, s2, s3⟩ := hSw
      go_simp
    simp only [Act.put, List.getElem_toArray, List.getElem_cons_zero, List.getElem_cons_succ, List.setIfInBounds_toArray, List.set_cons_zero, List.set_cons_succ]
    refine wpAnyH_take (i := 10) (v := .pointer (some ⟨g, 1, none⟩)) rfl (by kernel_rfl) (by kernel_rfl) (by kernel_rfl) (fun _ _ _ h => h) (Or.inl ⟨by kernel_rfl, fun w hSw => ?_⟩) (by assumption) ?_
    · obtain ⟨s1, s2, s3⟩ := hSw
      go_simp
    simp only [Act.put, List.getElem_toArray, List.getElem_cons_zero, List.getElem_cons_succ, List.setIfInBounds_toArray, List.set_cons_zero, List.set_cons_succ]
    refine wpAnyH_ready (rs := [11]) (by kernel_rfl) (by simp) ?_
    refine AllReadyH.cons rfl (fun K hK => ?_) AllReadyH.nil
    go_simp
    have hy8 : BlkIs (W7.setCell ⟨g, 1, none⟩ (.slice a7 (n + 1) cap7)) Vb 28 #[.string y.id, .int .i64 y.h, .slice y.pa y.np y.pc] := H7.out.2.2.2.2.2.far (fun e => HP.out.2.2.2.2.2 g (Or.inl rfl) e.symm) _
    refine hK.out _ _ ⟨hy8.cell 0, hy8.cell 1, hy8.cell 2⟩ (fun hHeld => ?_)
    clear hK K c7 f7
    refine wpAnyH_done (by kernel_rfl) ?_ _
    go_wp2_with fail
    go_ret
    exact fput_end HH.out H0.out.2.2.1 HP.out.1 HP.out.2.1 HL.out H7.out.1 H7.out.2.1 H7.out.2.2.1 H7.out.2.2.2.1 (ho := fun k hk => by
      rcases hk with rfl | hk | hk
      · exact Or.inl (Or.inl rfl)
      · rcases HO3.out.1 with e | e
        · exact Or.inl (Or.inr (Or.inl (by rw [← e]; exact hk)))
        · refine Or.inr ?_
          have e' : some k = some W2.heap.size := hk.symm.trans e
          injection e' with e'
          have := HO3.out.2
          omega
      · rcases H7.out.2.2.2.2.1 with e | e
        · exact Or.inl (Or.inr (Or.inr (by rw [← e]; exact hk)))
        · refine Or.inr ?_
          have h1 := H6.out.2.2.2.1.size
          have e' : some k = some W6.heap.size := hk.symm.trans e
          injection e' with e'
          omega)
end Go.Proofs.YthcgdpdijdmelaaGreat.Ord
