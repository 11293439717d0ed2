/- slices.Delete of one text, of one number; shelf.Map[string, int].Del, walked. (Layer 08.) -/
import Derived.Test.YtckhekkdidfefaaSetM2
namespace Go.Proofs.Ytckhekkdidfefaa.Set
set_option linter.unusedVariables false
open Go.RowKit Go.Sort Go.Lib
theorem SlIs.dels {w : World} {base : Nat} {e : TypeId} {g off n cap : Nat} {xs : List Value} (h : SlIs w base e 1 (.slice (some ⟨g, off, none⟩) n cap) n xs) (p : Nat) (hp : p < n) (us : List Value) (hu : us.length = n)
    (hj : ∀ j, j < n - 1 → us[j]? = (xs.eraseIdx p)[j]?) : SlIs (w.setCells g off us) base e 1 (.slice (some ⟨g, off, none⟩) (n - 1) cap) (n - 1) (xs.eraseIdx p) := by
  have hl : xs.length = n := by simpa using h.1
  have hc := h.capLe
  refine SlIs.puts h 0 (n - 1) us (xs.eraseIdx p) (by omega) (by omega) (by rw [List.length_eraseIdx, hl, if_pos hp]) (fun j h1 h2 => by omega) (fun j h1 _ _ => ?_)
  rw [Nat.sub_zero]
  exact (hj j h1).symm
theorem erase_cells {α : Type} (l : List α) (p k : Nat) (z : α) (hp : p < l.length) (j : Nat) (hj : j < l.length - 1) : (l.take p ++ l.drop (p + 1) ++ List.replicate k z)[j]? = (l.eraseIdx p)[j]? := by
  rw [← List.eraseIdx_eq_take_drop_succ, List.getElem?_append_left (by rw [List.length_eraseIdx, if_pos hp]; exact hj)]
theorem erase_map {α β : Type} (f : α → β) (l : List α) (p : Nat) : (l.map f).eraseIdx p = (l.eraseIdx p).map f := by
  simp [List.eraseIdx_eq_take_drop_succ, List.map_append, List.map_take, List.map_drop]
theorem delete_int (base p : Nat) (v : Value) (l : List Int) (w : World) (h : SlIs w base 3 1 v l.length (icells l)) (hp : p < l.length) (hn : l.length ≤ 1000000) :
    Calls Try.prog 51 #[v, .int .i64 (p : Int), .int .i64 ((p : Int) + 1)] w fun e w' => ∃ v', e = .returned v' ∧ SlIs w' base 3 1 v' (l.length - 1) (icells (l.eraseIdx p)) ∧ w.grownBy w' v.ownBlock ∧ v'.ownBlock = v.ownBlock := by
  rcases h.parts with ⟨rfl, h0⟩ | ⟨g, off, cap, rfl, hg, hlt, hc, hm, hx, _, hf, _⟩
  · omega
  · rw [show (p : Int) + 1 = ((p + 1 : Nat) : Int) by omega]
    refine (Try.slices_Delete_int_cells g off l.length cap p (p + 1) l w (Nat.le_refl _) hc (by unfold maxLen at hm; omega) (by omega) (by omega) (fun j hj => by
      rw [hx j hj, icells_get l j hj, List.getD_eq_getElem?_getD, List.getElem?_eq_getElem hj]; rfl) (fun j hj => hf j (by omega))).mono ?_
    rintro e w' ⟨rfl, q, rfl⟩
    rw [List.take_length, show p + 1 - p = 1 by omega]
    refine ⟨_, rfl, ?_, grown_then (drewN_grown w q _) (setCells_grown _ _ _), rfl⟩
    have := SlIs.dels (w := w.drewN q) h p hp (List.map (Value.int .i64) (l.take p ++ l.drop (p + 1) ++ List.replicate 1 0)) (by simp; omega) (fun j hj => by
      rw [List.getElem?_map, erase_cells l p 1 0 hp j hj, icells, ← List.getElem?_map, erase_map])
    rw [icells, ← erase_map]
    exact this
theorem delete_string (base p : Nat) (v : Value) (l : List ByteArray) (w : World) (h : SlIs w base 9 1 v l.length (scells l)) (hp : p < l.length) (hn : l.length ≤ 1000000) :
    Calls Try.prog 50 #[v, .int .i64 (p : Int), .int .i64 ((p : Int) + 1)] w fun e w' => ∃ v', e = .returned v' ∧ SlIs w' base 9 1 v' (l.length - 1) (scells (l.eraseIdx p)) ∧ w.grownBy w' v.ownBlock ∧ v'.ownBlock = v.ownBlock := by
  rcases h.parts with ⟨rfl, h0⟩ | ⟨g, off, cap, rfl, hg, hlt, hc, hm, hx, _, hf, _⟩
  · omega
  · rw [show (p : Int) + 1 = ((p + 1 : Nat) : Int) by omega]
    refine (Try.slices_Delete_string_cells g off l.length cap p (p + 1) (fun i => l.getD i ⟨#[]⟩) w hc (by unfold maxLen at hm; omega) (by omega) (by omega) (fun j hj => by
      rw [hx j hj, scells_get l j hj, List.getD_eq_getElem?_getD, List.getElem?_eq_getElem hj]; rfl) (fun j hj => hf j (by omega))).mono ?_
    rintro e w' ⟨rfl, q, rfl⟩
    rw [show p + 1 - p = 1 by omega]
    have hso : (Lib.strsOf (fun i => l.getD i ⟨#[]⟩) l.length) = l.map fun s => s.data.toList := by
      apply List.ext_getElem?
      intro i
      rw [Lib.strsOf, List.getElem?_map, List.getElem?_map]
      by_cases hi : i < l.length
      · rw [List.getElem?_range hi, List.getElem?_eq_getElem hi]
        simp [List.getD_eq_getElem?_getD, List.getElem?_eq_getElem hi]
      · rw [List.getElem?_eq_none (by simpa using hi), List.getElem?_eq_none (by omega)]
        rfl
    rw [hso]
    refine ⟨_, rfl, ?_, grown_then (drewN_grown w q _) (setCells_grown _ _ _), rfl⟩
    have := SlIs.dels (w := w.drewN q) h p hp (List.map encStr ((l.map fun s => s.data.toList).take p ++ (l.map fun s => s.data.toList).drop (p + 1) ++ List.replicate 1 [])) (by simp; omega) (fun j hj => by
      rw [List.getElem?_map, erase_cells _ p 1 [] (by simpa using hp) j (by simpa using hj), scells, erase_map, erase_map, List.getElem?_map, List.getElem?_map, Option.map_map]
      rfl)
    rw [scells, ← erase_map]
    exact this
open Classical in
noncomputable def mdel (x : ByteArray) (L : Row) : Row := if x ∈ ks L then L.eraseIdx (pos (ks L) x) else L
theorem mdel_in {L : Row} {x : ByteArray} (h : x ∈ ks L) : mdel x L = L.eraseIdx (pos (ks L) x) := if_pos h
theorem mdel_out {L : Row} {x : ByteArray} (h : ¬ x ∈ ks L) : mdel x L = L := if_neg h
theorem ks_del_rise {L : Row} {x : ByteArray} (hr : Rise (ks L)) : Rise (ks (mdel x L)) := by
  by_cases h : x ∈ ks L
  · rw [mdel_in h, ks, ← erase_map]
    exact hr.sublist (List.eraseIdx_sublist _ _)
  · rw [mdel_out h]; exact hr
/-- What Del leaves. -/
def MapDel (base g : Nat) (kv vv : Value) (L : Row) (x : ByteArray) (w w' : World) (e : Ending) : Prop :=
  ∃ kv' vv', e = .returned (.bool (has (ks L) x)) ∧ SMap w' base g kv' vv' (mdel x L) ∧ Chg (Own_ g kv vv) w w' ∧ ∀ k, Own_ g kv' vv' k → Own_ g kv vv k ∨ w.heap.size ≤ k
set_option maxRecDepth 100000 in
set_option maxHeartbeats 2000000 in
theorem map_del (base g : Nat) (kv vv : Value) (L : Row) (x : ByteArray) (w : World) (h : SMap w base g kv vv L) (hn : L.length ≤ 1000000) :
    Calls Try.prog 25 #[.pointer (some ⟨g, 0, none⟩), .string x] w fun e w' => MapDel base g kv vv L x w w' e := by
  have F := Lib.hid (map_find base g kv vv L x w h hn)
  have HH := Lib.hid h
  obtain ⟨p, hp⟩ : ∃ p, p = pos (ks L) x := ⟨_, rfl⟩
  rw [← hp] at F
  have HP := Lib.hid hp
  clear hp
  by_cases hx : x ∈ ks L
  · rw [has_true hx] at F
    have HX := Lib.hid hx
    obtain ⟨n, hnn⟩ : ∃ n, n = L.length := ⟨_, rfl⟩
    have HL := Lib.hid hnn
    have hp1 : p < n := by rw [HP.out, hnn]; exact (at_pos HH.out.rise hx).1
    have hs := And.intro h.keys h.vals
    rw [← hnn] at hs hn
    obtain ⟨ak, ck, rfl, -, -, -⟩ := hs.1.form
    obtain ⟨av, cv, rfl, -, -, -⟩ := hs.2.form
    have H0 := Lib.hid hs
    clear h hx hnn hs
    go_enter Try.func25, Try.ntmps25
    go_wp2_with fail
    refine F.out.mono ?_
    rintro e w1 ⟨rfl, q, rfl⟩
    clear F
    obtain ⟨W1, hW1⟩ : ∃ W1, W1 = w.drewN q := ⟨_, rfl⟩
    have hdr := ((DrawsOf.refl w).drewN q).below w.heap.size
    have H1 := Lib.hid (show BlkIs W1 g 75 #[.slice ak n ck, .slice av n cv] ∧ SlIs W1 base 9 1 (.slice ak n ck) n (scells (ks L)) ∧ SlIs W1 base 3 1 (.slice av n cv) n (icells (vs L)) ∧ Below w.heap.size w W1 from by
      rw [hW1]; exact ⟨HH.out.blk, H0.out.1, H0.out.2, hdr⟩)
    rw [← hW1]
    clear hW1 hdr
    have hkl : (ks L).length = n := by rw [ks_len, HL.out]
    have hvl : (vs L).length = n := by rw [vs, List.length_map, HL.out]
    have I := delete_string base p (.slice ak n ck) (ks L) W1 (by rw [hkl]; exact H1.out.2.1) (by rw [hkl]; exact hp1) (by rw [hkl]; exact hn)
    rw [hkl] at I
    have I := Lib.hid I
    have c0 : W1.cell? ⟨g, 0, none⟩ = some (.slice ak n ck) := H1.out.1.cell 0
    have hpi : ((p : Int) + 1 : Int) ≤ 9223372036854775807 := by omega
    clear hkl
    go_wp2_with fail
    refine I.out.mono ?_
    rintro e W3 ⟨v3, rfl, hs3, hg3, ho3⟩
    have hk3 : BlkIs W3 g 75 #[.slice ak n ck, .slice av n cv] := H1.out.1.grown hg3 (fun e => H1.out.2.1.ne_blk H1.out.1 (by decide) e.symm)
    have hv3 : SlIs W3 base 3 1 (.slice av n cv) n (icells (vs L)) := H1.out.2.2.1.kept hg3 (sl_apart H1.out.2.2.1 H1.out.2.1 (by decide))
    obtain ⟨a3, cap3, rfl, -, -, -⟩ := hs3.form
    have H3 := Lib.hid (And.intro hs3 (And.intro hk3 (And.intro hv3 (And.intro hg3 ho3))))
    have c3 : W3.cell? ⟨g, 0, none⟩ = some (.slice ak n ck) := hk3.cell 0
    have c31 : W3.cell? ⟨g, 1, none⟩ = some (.slice av n cv) := hk3.cell 1
    have f3 := hk3.free 0
    clear I hs3 hk3 hv3 hg3 ho3 c0
    obtain ⟨W4, hW4⟩ : ∃ W4, W4 = W3.setCell ⟨g, 0, none⟩ (.slice a3 (n - 1) cap3) := ⟨_, rfl⟩
    have H4 := Lib.hid (show BlkIs W4 g 75 #[.slice a3 (n - 1) cap3, .slice av n cv] ∧ SlIs W4 base 9 1 (.slice a3 (n - 1) cap3) (n - 1) (scells ((ks L).eraseIdx p)) ∧ SlIs W4 base 3 1 (.slice av n cv) n (icells (vs L)) ∧
        Chg (Own_ g (.slice ak n ck) (.slice av n cv)) w W4 from by
      rw [hW4]
      refine ⟨?_, H3.out.1.far (H3.out.1.ne_blk H3.out.2.1 (by decide)) _, H3.out.2.2.1.far (H3.out.2.2.1.ne_blk H3.out.2.1 (by decide)) _, ?_⟩
      · have := H3.out.2.1.put 0 (.slice a3 (n - 1) cap3)
        simpa using this
      · refine Chg.setCell ?_ (Or.inl (Or.inl rfl)) _
        exact (Chg.of_below H1.out.2.2.2).trans (.of_grown H3.out.2.2.2.1 fun k hk => Or.inl (Or.inr (Or.inl hk))))
    have I := delete_int base p (.slice av n cv) (vs L) W4 (by rw [hvl]; exact H4.out.2.2.1) (by rw [hvl]; exact hp1) (by rw [hvl]; exact hn)
    rw [hvl] at I
    have I := Lib.hid I
    have HW4 := Lib.hid hW4
    clear hW4 hvl
    go_wp2_with fail
    rw [← HW4.out]
    refine I.out.mono ?_
    rintro e W6 ⟨v6, rfl, hs6, hg6, ho6⟩
    have hk6 : BlkIs W6 g 75 #[.slice a3 (n - 1) cap3, .slice av n cv] := H4.out.1.grown hg6 (fun e => H4.out.2.2.1.ne_blk H4.out.1 (by decide) e.symm)
    have hv6 : SlIs W6 base 9 1 (.slice a3 (n - 1) cap3) (n - 1) (scells ((ks L).eraseIdx p)) := H4.out.2.1.kept hg6 (sl_apart H4.out.2.1 H4.out.2.2.1 (by decide))
    obtain ⟨a6, cap6, rfl, -, -, -⟩ := hs6.form
    have c6 : W6.cell? ⟨g, 1, none⟩ = some (.slice av n cv) := hk6.cell 1
    have f6 := hk6.free 1
    have H6 := Lib.hid (And.intro hs6 (And.intro hk6 (And.intro hv6 (And.intro ((H4.out.2.2.2).trans (.of_grown hg6 fun k hk => Or.inl (Or.inr (Or.inr hk)))) ho6))))
    clear hs6 hk6 hv6 hg6 ho6 c3 c31 f3 I
    go_wp2_with fail
    go_ret
    have hch : Chg (Own_ g (.slice ak n ck) (.slice av n cv)) w (W6.setCell ⟨g, 1, none⟩ (.slice a6 (n - 1) cap6)) := H6.out.2.2.2.1.setCell (Or.inl (Or.inl rfl)) _
    have hbk : BlkIs (W6.setCell ⟨g, 1, none⟩ (.slice a6 (n - 1) cap6)) g 75 #[.slice a3 (n - 1) cap3, .slice a6 (n - 1) cap6] := by
      have := H6.out.2.1.put 1 (.slice a6 (n - 1) cap6)
      simpa using this
    have hm : mdel x L = L.eraseIdx p := by rw [mdel_in HX.out, HP.out]
    have hml : (mdel x L).length = n - 1 := by rw [hm, List.length_eraseIdx, ← HL.out, if_pos hp1]
    refine ⟨_, _, by rw [has_true HX.out]; rfl, ⟨HH.out.ge, hbk, ?_, ?_, ks_del_rise HH.out.rise⟩, hch, ?_⟩
    · rw [hml, hm, ks, ← erase_map]
      exact H6.out.2.2.1.far (H6.out.2.2.1.ne_blk H6.out.2.1 (by decide)) _
    · rw [hml, hm, vs, ← erase_map]
      exact H6.out.1.far (H6.out.1.ne_blk H6.out.2.1 (by decide)) _
    · rintro k (rfl | hk | hk)
      · exact Or.inl (Or.inl rfl)
      · exact Or.inl (Or.inr (Or.inl (by rw [← H3.out.2.2.2.2]; exact hk)))
      · exact Or.inl (Or.inr (Or.inr (by rw [← H6.out.2.2.2.2]; exact hk)))
  · rw [has_false hx] at F
    have HX := Lib.hid hx
    clear hx
    go_enter Try.func25, Try.ntmps25
    go_wp2_with fail
    refine F.out.mono ?_
    rintro e w1 ⟨rfl, q, rfl⟩
    clear F
    go_wp2_with fail
    go_ret
    have hdr := ((DrawsOf.refl w).drewN q).below w.heap.size
    exact ⟨_, _, by rw [has_false HX.out]; rfl, by rw [mdel_out HX.out]; exact HH.out.later hdr, Chg.of_below hdr, fun k hk => Or.inl hk⟩
end Go.Proofs.Ytckhekkdidfefaa.Set
