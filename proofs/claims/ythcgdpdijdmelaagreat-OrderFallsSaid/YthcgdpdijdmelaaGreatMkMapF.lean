/- shelf.Map[string, api.Fact]: New, find, Get of a key that is there, Put of a new key, walked. Printed by gen_mapf.py. (Layer 11.) -/
import Derived.Test.YthcgdpdijdmelaaGreatMkMap
import Derived.Test.YthcgdpdijdmelaaGreatInsF
namespace Go.Proofs.YthcgdpdijdmelaaGreat.Ord
set_option linter.unusedVariables false
set_option linter.unusedSimpArgs false
open Go.RowKit Go.Sort Go.Lib
open Set (StrAt scells Rise El Own_ pos has ins)
abbrev RowF := List (ByteArray × Fv)
abbrev kf (L : RowF) : List ByteArray := L.map (·.1)
abbrev vf (L : RowF) : List Fv := L.map (·.2)
/-- A map of texts to facts, in block g. -/
structure FMap (w : World) (base g : Nat) (kv vv : Value) (L : RowF) : Prop where
  ge : base ≤ g
  blk : BlkIs w g 69 #[kv, vv]
  keys : SlIs w base 9 1 kv L.length (scells (kf L))
  vals : SlIs w base 28 3 vv L.length (fcells (vf L))
  rise : Rise (kf L)
theorem FMap.chg {S : Nat → Prop} {w w' : World} {base g : Nat} {kv vv : Value} {L : RowF} (h : FMap w base g kv vv L) (hc : Chg S w w') (hn : ∀ k, Own_ g kv vv k → ¬ S k) : FMap w' base g kv vv L :=
  ⟨h.ge, hc.blk h.blk (hn g (Or.inl rfl)), hc.sl h.keys fun k hk => hn k (Or.inr (Or.inl hk)), hc.sl h.vals fun k hk => hn k (Or.inr (Or.inr hk)), h.rise⟩
theorem FMap.later {w w' : World} {base g : Nat} {kv vv : Value} {L : RowF} (h : FMap w base g kv vv L) (hb : Below w.heap.size w w') : FMap w' base g kv vv L :=
  h.chg (S := fun _ => False) (.of_below hb) fun _ _ h => h
theorem FMap.own {w : World} {base g : Nat} {kv vv : Value} {L : RowF} (h : FMap w base g kv vv L) {k : Nat} (hk : Own_ g kv vv k) : base ≤ k ∧ k < w.heap.size := by
  rcases hk with rfl | hk | hk
  · exact ⟨h.ge, h.blk.lt⟩
  · exact h.keys.lt k hk
  · exact h.vals.lt k hk
theorem kf_len (L : RowF) : (kf L).length = L.length := by simp
theorem FMap.keysAt {w : World} {base g : Nat} {kv vv : Value} {L : RowF} (h : FMap w base g kv vv L) : StrAt w kv (kf L) := StrAt.of_sl (by rw [kf_len]; exact h.keys)
theorem fmap_new (w : World) : Calls Tryz.prog 9 #[] w fun e w' => ∃ g kv vv, e = .returned (.pointer (some ⟨g, 0, none⟩)) ∧ FMap w' w.heap.size g kv vv [] ∧ Below w.heap.size w w' := by
  have k := BlkIs.new w 69 #[.slice none 0 0, .slice none 0 0]
  have H := Lib.hid (And.intro k ((Below.refl w.heap.size w).alloc (Nat.le_refl _) (.cells #[.slice none 0 0, .slice none 0 0] 69)))
  clear k
  go_enter Tryz.func9, Tryz.ntmps9
  go_wp2_with fail
  go_ret
  exact ⟨w.heap.size, _, _, rfl, ⟨Nat.le_refl _, H.out.1, SlIs.nil_ _ _ _ _, SlIs.nil_ _ _ _ _, List.Pairwise.nil⟩, H.out.2⟩
theorem fmap_find (base g : Nat) (kv vv : Value) (L : RowF) (x : ByteArray) (w : World) (h : FMap w base g kv vv L) (hn : L.length ≤ 1000000) :
    Calls Tryz.prog 27 #[.pointer (some ⟨g, 0, none⟩), .string x] w fun e w' => e = .returned (.tuple #[.int .i64 ((pos (kf L) x : Nat) : Int), .bool (has (kf L) x)]) ∧ DrawsOf w w' := by
  have S := Lib.hid (Set.search_string kv (kf L) x w h.keysAt h.rise (by rw [kf_len]; exact hn))
  have c0 : w.cell? ⟨g, 0, none⟩ = some kv := h.blk.cell 0
  obtain ⟨ao, cap, rfl, -, -, -⟩ := h.keys.form
  obtain ⟨p, hp⟩ : ∃ p, p = pos (kf L) x := ⟨_, rfl⟩
  obtain ⟨b, hb⟩ : ∃ b, b = has (kf L) x := ⟨_, rfl⟩
  rw [← hp, ← hb] at S ⊢
  clear h hn hp hb
  go_enter Tryz.func27, Tryz.ntmps27
  go_wp2_with fail
  refine S.out.mono ?_
  rintro e w1 ⟨rfl, hd⟩
  have HD := Lib.hid hd
  clear S hd
  go_wp2_with fail
  go_ret2
  exact ⟨rfl, HD.out⟩
theorem fget_end {Q : Ending → World → Prop} (w8 : World) (g : Nat) (x : Fv) (v : Bool) (tmps : Array Value) (h2 : tmps.getD 4 undef = .pointer (some ⟨g, 0, none⟩)) (h3 : tmps.getD 5 undef = .bool v) (k : BlkIs w8 g 28 (factCells x)) (hQ : Q (.returned (.tuple #[.agg (factCells x), .bool v])) w8) :
    bodyPost Tryz.prog Tryz.f11 Q Exit.ret ⟨tmps, []⟩ w8 := by
  refine bodyPost_ret (results_cell_tmp' rfl _ _ g 28 (factCells x) (0, 0) _ h2 k Tryz.underlying28 rfl (by show _ = some 3; kernel_rfl)) rfl ?_
  rw [h3]
  exact hQ
set_option maxRecDepth 100000 in
set_option maxHeartbeats 2000000 in
/-- A key that is there. -/
theorem fmap_get (base g : Nat) (kv vv : Value) (L : RowF) (x : ByteArray) (w : World) (h : FMap w base g kv vv L) (hn : L.length ≤ 1000000) (hx : x ∈ kf L) :
    Calls Tryz.prog 11 #[.pointer (some ⟨g, 0, none⟩), .string x] w fun e w' => ∃ y, (x, y) ∈ L ∧ e = .returned (.tuple #[.agg (factCells y), .bool true]) ∧ Below w.heap.size w w' := by
  obtain ⟨hp, hpe⟩ := Set.pos_at h.rise hx
  rw [kf_len] at hp
  obtain ⟨W1, hW1⟩ : ∃ W, W = w.alloc (.cells #[.string ⟨#[]⟩, .int .i64 0, .slice none 0 0] 28) := ⟨_, rfl⟩
  have hb1 : Below w.heap.size w W1 := by rw [hW1]; exact (Below.refl _ _).alloc (Nat.le_refl _) _
  have k1 : BlkIs W1 w.heap.size 28 #[.string ⟨#[]⟩, .int .i64 0, .slice none 0 0] := by rw [hW1]; exact BlkIs.new _ _ _
  have F := Lib.hid (fmap_find base g kv vv L x W1 (h.later hb1) hn)
  rw [Set.has_true hx] at F
  obtain ⟨p, hpp⟩ : ∃ p, p = pos (kf L) x := ⟨_, rfl⟩
  have hL : (x, (L[pos (kf L) x]'hp).2) ∈ L := by
    have h1 := List.getElem_mem hp
    have h2 : (L[pos (kf L) x]'hp).1 = x := by rw [List.getElem_map] at hpe; exact hpe
    have h3 : (x, (L[pos (kf L) x]'hp).2) = L[pos (kf L) x]'hp := Prod.ext h2.symm rfl
    rw [h3]
    exact h1
  obtain ⟨y, hy⟩ : ∃ y, y = (L[pos (kf L) x]'hp).2 := ⟨_, rfl⟩
  rw [← hy] at hL
  have hc := fcells_get (vf L) (pos (kf L) x) (by simpa using hp)
  have hg : (vf L)[pos (kf L) x]'(by simpa using hp) = y := by rw [hy, List.getElem_map]
  rw [hg] at hc
  rw [← hpp] at F hc hp
  obtain ⟨n, hnn⟩ : ∃ n, n = L.length := ⟨_, rfl⟩
  have hv := h.vals
  rw [← hnn] at hv hp
  rcases hv.partsN with ⟨rfl, h0⟩ | ⟨b, off, cap, rfl, -, hblt, hcc, hmx, hcell, -⟩
  · omega
  have q0 := (hcell (p * 3) (by omega)).trans hc.1
  have q1 := (hcell (p * 3 + 1) (by omega)).trans hc.2.1
  have q2 := (hcell (p * 3 + 2) (by omega)).trans hc.2.2
  have HCC := Lib.hid (show ∀ W, Below w.heap.size w W → W.cell? ⟨g, 1, none⟩ = some (.slice (some ⟨b, off, none⟩) n cap) ∧ W.cell? ⟨b, off + p * 3, none⟩ = some (.string y.id) ∧ W.cell? ⟨b, off + p * 3 + 1, none⟩ = some (.int .i64 y.h) ∧ W.cell? ⟨b, off + p * 3 + 2, none⟩ = some (.slice y.pa y.np y.pc) from fun W hb =>
    ⟨(h.blk.below hb h.blk.lt).cell 1, by rw [hb.cell hblt]; exact q0, by rw [hb.cell hblt, Nat.add_assoc]; exact q1, by rw [hb.cell hblt, Nat.add_assoc]; exact q2⟩)
  have KP := Lib.hid (And.intro hb1 (And.intro k1 hL))
  have HW1 := Lib.hid hW1
  have k0 : (p : Int) < n := by omega
  clear h hn hx hpe hp hpp hy hc hg hnn hv hcell q0 q1 q2 hW1 hb1 k1 hL
  go_enter Tryz.func11, Tryz.ntmps11
  go_upto_region 1 with (fail)
  rw [← HW1.out]
  go_wp2_with fail
  refine F.out.mono ?_
  rintro e w2 ⟨rfl, hd⟩
  have hb2 : Below W1.heap.size W1 w2 := hd.below _
  have hb3 : Below w.heap.size w w2 := KP.out.1.trans (hb2.mono KP.out.1.size)
  have hk := KP.out.2.1.below hb2 KP.out.2.1.lt
  obtain ⟨c1, c2, c3, c4⟩ := HCC.out w2 hb3
  have r0 : w2.cell? ⟨w.heap.size, 0, none⟩ = some (.string ⟨#[]⟩) := hk.cell 0
  have r1 : w2.cell? ⟨w.heap.size, 1, none⟩ = some (.int .i64 0) := hk.cell 1
  have r2 : w2.cell? ⟨w.heap.size, 2, none⟩ = some (.slice none 0 0) := hk.cell 2
  have f0 : ∀ i, w2.frozen? ⟨w.heap.size, i, none⟩ = false := fun i => hk.free i
  have T := Lib.hid (And.intro hk hb3)
  clear F hd hb2 hb3 hk
  go_upto_region 4 with (fail)
  obtain ⟨W3, hW3⟩ : ∃ W3, W3 = (((w2.setCell ⟨w.heap.size, 0, none⟩ (.string y.id)).setCell ⟨w.heap.size, 1, none⟩ (.int .i64 y.h)).setCell ⟨w.heap.size, 2, none⟩ (.slice y.pa y.np y.pc)) := ⟨_, rfl⟩
  have hk3 : BlkIs W3 w.heap.size 28 (factCells y) := by rw [hW3]; exact fact_put (w := w) T.out.1 ⟨_, _, _, rfl⟩
  have hb3 : Below w.heap.size w W3 := by rw [hW3]; exact ((T.out.2.setCell (by simp) _).setCell (by simp) _).setCell (by simp) _
  rw [← hW3]
  have r0 : W3.cell? ⟨w.heap.size, 0, none⟩ = some (.string y.id) := hk3.cell 0
  have r1 : W3.cell? ⟨w.heap.size, 1, none⟩ = some (.int .i64 y.h) := hk3.cell 1
  have r2 : W3.cell? ⟨w.heap.size, 2, none⟩ = some (.slice y.pa y.np y.pc) := hk3.cell 2
  have f0 : ∀ i, W3.frozen? ⟨w.heap.size, i, none⟩ = false := fun i => hk3.free i
  have T3 := Lib.hid (And.intro hk3 hb3)
  clear hW3 hk3 hb3 c1 c2 c3 c4
  go_wp2_with fail
  exact fget_end _ w.heap.size y true _ rfl rfl (fact_put (w := w) T3.out.1 ⟨_, _, _, rfl⟩) ⟨y, KP.out.2.2, rfl, ((T3.out.2.setCell (by simp) _).setCell (by simp) _).setCell (by simp) _⟩
end Go.Proofs.YthcgdpdijdmelaaGreat.Ord
