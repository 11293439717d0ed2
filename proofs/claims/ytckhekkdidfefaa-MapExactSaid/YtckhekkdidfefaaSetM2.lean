/- shelf.Map[string, int]: Put, walked. (Layer 08.) -/
import Derived.Test.YtckhekkdidfefaaSetM1
namespace Go.Proofs.Ytckhekkdidfefaa.Set
set_option linter.unusedVariables false
open Go.RowKit Go.Sort Go.Lib
/-- What Put leaves. -/
def MapPut (base g : Nat) (kv vv : Value) (L : Row) (x : ByteArray) (y : Int) (w w' : World) (e : Ending) : Prop :=
  ∃ kv' vv', e = .returned (.bool (!has (ks L) x)) ∧ SMap w' base g kv' vv' (mput x y L) ∧ Chg (Own_ g kv vv) w w' ∧ ∀ k, Own_ g kv' vv' k → Own_ g kv vv k ∨ w.heap.size ≤ k
set_option maxRecDepth 100000 in
set_option maxHeartbeats 2000000 in
theorem map_put (base g : Nat) (kv vv : Value) (L : Row) (x : ByteArray) (y : Int) (w : World) (h : SMap w base g kv vv L) (hn : L.length < 1000000) :
    Calls Try.prog 22 #[.pointer (some ⟨g, 0, none⟩), .string x, .int .i64 y] w fun e w' => MapPut base g kv vv L x y w w' e := by
  have F := Lib.hid (map_find base g kv vv L x w h (by omega))
  have HH := Lib.hid h
  have HN := Lib.hid hn
  obtain ⟨p, hp⟩ : ∃ p, p = pos (ks L) x := ⟨_, rfl⟩
  have hpl : p ≤ L.length := by rw [hp, ← ks_len L]; exact pos_le _ x
  rw [← hp] at F
  have HP := Lib.hid hp
  have hgl := h.blk.lt
  have hbl : base ≤ w.heap.size := Nat.le_trans h.ge (Nat.le_of_lt hgl)
  have HG := Lib.hid (And.intro hgl hbl)
  obtain ⟨n, hnn⟩ : ∃ n, n = L.length := ⟨_, rfl⟩
  have HL := Lib.hid hnn
  have hs := And.intro h.keys h.vals
  rw [← hnn] at hs hpl hn
  obtain ⟨ak, ck, rfl, -, -, -⟩ := hs.1.form
  obtain ⟨av, cv, rfl, -, -, -⟩ := hs.2.form
  have H0 := Lib.hid hs
  clear h hp hgl hbl hnn hs
  by_cases hx : x ∈ ks L
  · rw [has_true hx] at F
    have HX := Lib.hid hx
    have hp1 : p < n := by rw [HP.out, HL.out]; exact (at_pos HH.out.rise hx).1
    clear hx
    rcases H0.out.2.parts with ⟨h1, h0⟩ | ⟨b, off, cap, hv, -, hblt, hcc, hmx, hcell, hlst, hfz, -⟩
    · omega
    injection hv with e1 e2 e3
    subst e1 e3
    have c1 : w.cell? ⟨g, 1, none⟩ = some (.slice (some ⟨b, off, none⟩) n cv) := HH.out.blk.cell 1
    have k0 : (p : Int) < n := by omega
    have f0 := hfz p (by omega)
    obtain ⟨u, hu⟩ : ∃ u, w.cell? ⟨b, off + p, none⟩ = some u := by
      rw [hcell p hp1, List.getElem?_eq_getElem (by have := H0.out.2.1; omega)]
      exact ⟨_, rfl⟩
    clear hcell hlst hfz e2
    go_enter Try.func22, Try.ntmps22
    go_wp2_with fail
    refine F.out.mono ?_
    rintro e w1 ⟨rfl, q, rfl⟩
    clear F
    go_wp2_with fail
    go_ret
    have hbg : BlkIs (w.drewN q) g 75 #[.slice ak n ck, .slice (some ⟨b, off, none⟩) n cv] := HH.out.blk
    have hnb := H0.out.2.ne_blk HH.out.blk (by decide)
    have hkb : (Value.slice ak n ck).ownBlock ≠ some b := fun e => by
      rcases sl_apart H0.out.1 H0.out.2 (by decide) with h1 | h1
      · rw [h1] at e; cases e
      · exact h1 e
    have hm : mput x y L = L.set p (x, y) := by rw [mput_in HX.out, HP.out]
    have hks : ks (mput x y L) = ks L := by rw [ks_put HH.out.rise, ins_of HX.out]
    have hvs : icells (vs (mput x y L)) = (icells (vs L)).set p (.int .i64 y) := by rw [hm, vs, List.map_set, icells, List.map_set]; rfl
    have hml : (mput x y L).length = n := by rw [hm, List.length_set, HL.out]
    have r0 : ∀ r, r = (⟨b, off + p, none⟩ : Addr) → g ≠ r.block := fun r e h1 => hnb (by rw [e] at h1; exact congrArg some h1.symm)
    refine ⟨_, _, by rw [has_true HX.out]; rfl, ⟨HH.out.ge, hbg.far (r0 _ rfl) _, ?_, ?_, ?_⟩, ((Chg.of_below (((DrawsOf.refl w).drewN q).below _)).setCell (p := ⟨b, off + p, none⟩) (Or.inl (Or.inr (Or.inr rfl))) _), fun k hk => Or.inl hk⟩
    · rw [hml, hks]
      exact (H0.out.1.drewN q).far hkb _
    · rw [hml, hvs]
      exact SlIs.put1 (H0.out.2.drewN q) p hp1 _
    · rw [hks]; exact HH.out.rise
  · rw [has_false hx] at F
    have HX := Lib.hid hx
    clear hx
    go_enter Try.func22, Try.ntmps22
    go_wp2_with fail
    refine F.out.mono ?_
    rintro e w1 ⟨rfl, q, rfl⟩
    clear F
    obtain ⟨W1, hW1⟩ : ∃ W1, W1 = w.drewN q := ⟨_, rfl⟩
    have hdr := ((DrawsOf.refl w).drewN q).below w.heap.size
    have H1 := Lib.hid (show BlkIs W1 g 75 #[.slice ak n ck, .slice av n cv] ∧ SlIs W1 base 9 1 (.slice ak n ck) n (scells (ks L)) ∧ SlIs W1 base 3 1 (.slice av n cv) n (icells (vs L)) ∧ Below w.heap.size w W1 from by
      rw [hW1]; exact ⟨HH.out.blk, H0.out.1, H0.out.2, hdr⟩)
    rw [← hW1]
    clear hW1 hdr
    obtain ⟨W2, hW2⟩ : ∃ W2, W2 = W1.alloc (.cells #[.string x] 9) := ⟨_, rfl⟩
    have hb2 : Below W1.heap.size W1 W2 := by rw [hW2]; exact (Below.refl _ _).alloc (Nat.le_refl _) _
    have hz2 : W2.heap.size = W1.heap.size + 1 := by rw [hW2]; simp
    have H2 := Lib.hid (show BlkIs W2 g 75 #[.slice ak n ck, .slice av n cv] ∧ SlIs W2 base 9 1 (.slice ak n ck) n (scells (ks L)) ∧ SlIs W2 base 3 1 (.slice av n cv) n (icells (vs L)) ∧ BlkIs W2 W1.heap.size 9 #[.string x] ∧ Below w.heap.size w W2 from by
      refine ⟨H1.out.1.below hb2 H1.out.1.lt, H1.out.2.1.later hb2, H1.out.2.2.1.later hb2, ?_, H1.out.2.2.2.trans (hb2.mono H1.out.2.2.2.size)⟩
      rw [hW2]; exact BlkIs.new _ _ _)
    have hkl : (ks L).length = n := by rw [ks_len, HL.out]
    have hvl : (vs L).length = n := by rw [vs, List.length_map, HL.out]
    have I := insert_string base p (.slice ak n ck) (ks L) x W1.heap.size W2 (by rw [hkl]; exact H2.out.2.1) (by rw [hkl]; exact hpl) (by rw [hkl]; omega) (Nat.le_trans HG.out.2 H2.out.2.2.2.2.size) H2.out.2.2.2.1 (fun e => by have := (H1.out.2.1.lt _ e).2; omega)
    rw [hkl] at I
    have I := Lib.hid I
    have HW2 := Lib.hid hW2
    have c0 : W1.cell? ⟨g, 0, none⟩ = some (.slice ak n ck) := H1.out.1.cell 0
    have d0 : W2.cell? ⟨g, 0, none⟩ = some (.slice ak n ck) := H2.out.1.cell 0
    clear hW2 hb2 hkl
    go_wp2_with fail
    rw [← HW2.out]
    refine I.out.mono ?_
    rintro e W3 ⟨v3, rfl, hs3, hg3, ho3⟩
    have hk3 : BlkIs W3 g 75 #[.slice ak n ck, .slice av n cv] := H2.out.1.grown hg3 (fun e => H2.out.2.1.ne_blk H2.out.1 (by decide) e.symm)
    have hv3 : SlIs W3 base 3 1 (.slice av n cv) n (icells (vs L)) := H2.out.2.2.1.kept hg3 (sl_apart H2.out.2.2.1 H2.out.2.1 (by decide))
    obtain ⟨a3, cap3, rfl, -, -, -⟩ := hs3.form
    have H3 := Lib.hid (And.intro hs3 (And.intro hk3 (And.intro hv3 (And.intro hg3 ho3))))
    have c3 : W3.cell? ⟨g, 0, none⟩ = some (.slice ak n ck) := hk3.cell 0
    have c31 : W3.cell? ⟨g, 1, none⟩ = some (.slice av n cv) := hk3.cell 1
    have f3 := hk3.free 0
    clear I hs3 hk3 hv3 hg3 ho3 c0 d0
    obtain ⟨W4, hW4⟩ : ∃ W4, W4 = W3.setCell ⟨g, 0, none⟩ (.slice a3 (n + 1) cap3) := ⟨_, rfl⟩
    have H4 := Lib.hid (show BlkIs W4 g 75 #[.slice a3 (n + 1) cap3, .slice av n cv] ∧ SlIs W4 base 9 1 (.slice a3 (n + 1) cap3) (n + 1) (scells ((ks L).take p ++ x :: (ks L).drop p)) ∧ SlIs W4 base 3 1 (.slice av n cv) n (icells (vs L)) ∧
        Chg (Own_ g (.slice ak n ck) (.slice av n cv)) w W4 from by
      rw [hW4]
      refine ⟨?_, H3.out.1.far (H3.out.1.ne_blk H3.out.2.1 (by decide)) _, H3.out.2.2.1.far (H3.out.2.2.1.ne_blk H3.out.2.1 (by decide)) _, ?_⟩
      · have := H3.out.2.1.put 0 (.slice a3 (n + 1) cap3)
        simpa using this
      · refine Chg.setCell ?_ (Or.inl (Or.inl rfl)) _
        exact (Chg.of_below H2.out.2.2.2.2).trans (.of_grown H3.out.2.2.2.1 fun k hk => Or.inl (Or.inr (Or.inl hk))))
    obtain ⟨W5, hW5⟩ : ∃ W5, W5 = W4.alloc (.cells #[.int .i64 y] 3) := ⟨_, rfl⟩
    have hb5 : Below W4.heap.size W4 W5 := by rw [hW5]; exact (Below.refl _ _).alloc (Nat.le_refl _) _
    have H5 := Lib.hid (show BlkIs W5 g 75 #[.slice a3 (n + 1) cap3, .slice av n cv] ∧ SlIs W5 base 9 1 (.slice a3 (n + 1) cap3) (n + 1) (scells ((ks L).take p ++ x :: (ks L).drop p)) ∧ SlIs W5 base 3 1 (.slice av n cv) n (icells (vs L)) ∧
        Chg (Own_ g (.slice ak n ck) (.slice av n cv)) w W5 ∧ BlkIs W5 W4.heap.size 3 #[.int .i64 y] from
      ⟨H4.out.1.below hb5 H4.out.1.lt, H4.out.2.1.later hb5, H4.out.2.2.1.later hb5, H4.out.2.2.2.trans (Chg.of_below hb5), by rw [hW5]; exact BlkIs.new _ _ _⟩)
    have I := insert_int base p (.slice av n cv) (vs L) y W4.heap.size W5 (by rw [hvl]; exact H5.out.2.2.1) (by rw [hvl]; exact hpl) (by rw [hvl]; omega) (Nat.le_trans HG.out.2 H5.out.2.2.2.1.size) H5.out.2.2.2.2 (fun e => by have := (H4.out.2.2.1.lt _ e).2; omega)
    rw [hvl] at I
    have I := Lib.hid I
    have HW4 := Lib.hid hW4
    have HW5 := Lib.hid hW5
    have hz4 : W4.heap.size = W3.heap.size := by rw [hW4]; simp
    rw [hz4] at I
    clear hW4 hW5 hb5 hvl hz4
    go_wp2_with fail
    rw [← HW4.out, ← HW5.out]
    refine I.out.mono ?_
    rintro e W6 ⟨v6, rfl, hs6, hg6, ho6⟩
    have hk6 : BlkIs W6 g 75 #[.slice a3 (n + 1) cap3, .slice av n cv] := H5.out.1.grown hg6 (fun e => H5.out.2.2.1.ne_blk H5.out.1 (by decide) e.symm)
    have hv6 : SlIs W6 base 9 1 (.slice a3 (n + 1) cap3) (n + 1) (scells ((ks L).take p ++ x :: (ks L).drop p)) := H5.out.2.1.kept hg6 (sl_apart H5.out.2.1 H5.out.2.2.1 (by decide))
    obtain ⟨a6, cap6, rfl, -, -, -⟩ := hs6.form
    have c6 : W6.cell? ⟨g, 1, none⟩ = some (.slice av n cv) := hk6.cell 1
    have f6 := hk6.free 1
    have H6 := Lib.hid (And.intro hs6 (And.intro hk6 (And.intro hv6 (And.intro ((H5.out.2.2.2.1).trans (.of_grown hg6 fun k hk => Or.inl (Or.inr (Or.inr hk)))) ho6))))
    clear hs6 hk6 hv6 hg6 ho6 c3 c31 f3 I
    go_wp2_with fail
    go_ret
    have hch : Chg (Own_ g (.slice ak n ck) (.slice av n cv)) w (W6.setCell ⟨g, 1, none⟩ (.slice a6 (n + 1) cap6)) := H6.out.2.2.2.1.setCell (Or.inl (Or.inl rfl)) _
    have hbk : BlkIs (W6.setCell ⟨g, 1, none⟩ (.slice a6 (n + 1) cap6)) g 75 #[.slice a3 (n + 1) cap3, .slice a6 (n + 1) cap6] := by
      have := H6.out.2.1.put 1 (.slice a6 (n + 1) cap6)
      simpa using this
    have hm : mput x y L = L.take p ++ (x, y) :: L.drop p := by rw [mput_out HX.out, HP.out]
    have hks : ks (mput x y L) = (ks L).take p ++ x :: (ks L).drop p := by rw [hm]; simp [ks, List.map_take, List.map_drop]
    have hvs : vs (mput x y L) = (vs L).take p ++ y :: (vs L).drop p := by rw [hm]; simp [vs, List.map_take, List.map_drop]
    have hml : (mput x y L).length = n + 1 := by
      have h1 : (ks (mput x y L)).length = (ks L).length + 1 := by rw [ks_put HH.out.rise]; exact ins_length HX.out
      rw [ks_len, ks_len] at h1
      rw [h1, HL.out]
    refine ⟨_, _, by rw [has_false HX.out]; rfl, ⟨HH.out.ge, hbk, ?_, ?_, ?_⟩, hch, ?_⟩
    · rw [hml, hks]
      exact H6.out.2.2.1.far (H6.out.2.2.1.ne_blk H6.out.2.1 (by decide)) _
    · rw [hml, hvs]
      exact H6.out.1.far (H6.out.1.ne_blk H6.out.2.1 (by decide)) _
    · rw [ks_put HH.out.rise]; exact ins_rise HH.out.rise
    · rintro k (rfl | hk | hk)
      · exact Or.inl (Or.inl rfl)
      · rcases H3.out.2.2.2.2 with e | e
        · exact Or.inl (Or.inr (Or.inl (by rw [← e]; exact hk)))
        · refine Or.inr ?_
          have h1 := H2.out.2.2.2.2.size
          have e' : some k = some W2.heap.size := hk.symm.trans e
          injection e' with e'
          omega
      · rcases H6.out.2.2.2.2 with e | e
        · exact Or.inl (Or.inr (Or.inr (by rw [← e]; exact hk)))
        · refine Or.inr ?_
          have h1 := H5.out.2.2.2.1.size
          have e' : some k = some W5.heap.size := hk.symm.trans e
          injection e' with e'
          omega
end Go.Proofs.Ytckhekkdidfefaa.Set
