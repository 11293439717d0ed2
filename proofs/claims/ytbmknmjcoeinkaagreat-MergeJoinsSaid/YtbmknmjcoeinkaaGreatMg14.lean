/- merge.meets: what a tomb becomes of two, walked. (Layer 13.) -/
import Derived.Test.YtbmknmjcoeinkaaGreatMg13
namespace Go.Proofs.YtbmknmjcoeinkaaGreat.Mg
set_option linter.unusedVariables false
set_option linter.unusedSimpArgs false
open Go.RowKit Go.Lib
open Mk (Rf Tok Tb TbR aTb vRf vTok vTb vInt eqB eqB_yes eqB_no eqB_iff bytes_eq)
open Set (El icells el_int icells_one)
/-- A row of numbers that can be read, as what is appended. -/
theorem srcIs_ints {w : World} {v : Value} {l : List Int} (h : RowAt 1 vInt w v l) : SrcIs Tryz.prog w 41 1 v l.length (rowCells vInt l) := by
  obtain ⟨ao, cap, rfl, -, -, hc⟩ := h
  by_cases h0 : l.length = 0
  · obtain rfl := List.eq_nil_of_length_eq_zero h0
    cases ao with
    | none => exact SrcIs.none_ Tryz.underlying41 w 1 cap
    | some ad => exact SrcIs.cells Tryz.underlying41 w 1 ad 0 cap [] rfl (fun j v hv => by simp at hv)
  · obtain ⟨b, off, rfl, hlt, hx⟩ := hc (by omega)
    refine SrcIs.cells Tryz.underlying41 w 1 ⟨b, off, none⟩ l.length cap _ (by rw [rowCells_len (k := 1) (fun _ => rfl)]) (fun j v hv => ?_)
    have hj : j < l.length := by
      have := (List.getElem?_eq_some_iff.1 hv).1
      rw [rowCells_len (k := 1) (fun _ => rfl)] at this
      omega
    have h1 := rowCells_get (k := 1) (enc := vInt) (fun _ => rfl) l j hj 0 (by omega)
    rw [Nat.mul_one, Nat.add_zero, hv] at h1
    have h2 := hx j hj 0 v h1.symm
    rw [Nat.mul_one, Nat.add_zero] at h2
    rw [← h2]
    congr 1
    unfold Addr.add
    split
    · next he => rw [he]; rfl
    · next he => rfl
/-- Whether two tombs of one key go together. -/
noncomputable def sameB (x y : Tb) : Bool := x.id.toList == y.id.toList && eqB x.cov y.cov
theorem sameB_iff {x y : Tb} : sameB x y = true ↔ x.id = y.id ∧ x.cov = y.cov := by
  unfold sameB
  rw [Bool.and_eq_true, bytes_eq, eqB_iff]
theorem mTb_yes {x y : Tb} (h : sameB x y = true) : mTb x y = some (plus x y.acks) := if_pos (sameB_iff.1 h)
theorem mTb_no {x y : Tb} (h : sameB x y = false) : mTb x y = none := if_neg fun k => by rw [sameB_iff.2 k] at h; cases h
/-- Where meets stands. -/
structure MeetSt (w W : World) (B G : Nat) (xs ys zs : Array Value) (a0 a1 : Int) (a2 : ByteArray) (cv c4 : Value) (l1 : List Tok) : Prop where
  bx : BlkIs W B 43 xs
  by_ : BlkIs W (B + 1) 43 ys
  bz : BlkIs W (B + 2) 43 zs
  bg : BlkIs W G 43 #[.int .i64 a0, .int .i64 a1, .string a2, cv, c4]
  sc : SlIs W (B + 3) 45 3 cv l1.length (rowCells vTok l1)
  hb : Below B w W
  hG : B + 3 ≤ G
section
variable {w W W' : World} {B G : Nat} {xs ys zs : Array Value} {a0 a1 : Int} {a2 : ByteArray} {cv c4 : Value} {l1 : List Tok}
theorem MeetSt.grown (h : MeetSt w W B G xs ys zs a0 a1 a2 cv c4 l1) {v : Value} {k n : Nat} {us : List Value} (hs : SlIs W (B + 3) 3 k v n us) (hg : W.grownBy W' v.ownBlock) : MeetSt w W' B G xs ys zs a0 a1 a2 cv c4 l1 :=
  ⟨h.bx.grown hg (Ne.symm (hs.ne_blk h.bx (by decide))), h.by_.grown hg (Ne.symm (hs.ne_blk h.by_ (by decide))), h.bz.grown hg (Ne.symm (hs.ne_blk h.bz (by decide))), h.bg.grown hg (Ne.symm (hs.ne_blk h.bg (by decide))),
    h.sc.kept hg (sl_apart h.sc hs (by decide)), h.hb.grown hg (by have := h.bx.lt; omega) (fun j hj => by have := (hs.lt j hj).1; omega), h.hG⟩
theorem MeetSt.put (h : MeetSt w W B G xs ys zs a0 a1 a2 cv c4 l1) (u : Value) : MeetSt w (W.setCell ⟨G, 4, none⟩ u) B G xs ys zs a0 a1 a2 cv u l1 := by
  have hG := h.hG
  exact ⟨h.bx.far (by show B ≠ G; omega) _, h.by_.far (by show B + 1 ≠ G; omega) _, h.bz.far (by show B + 2 ≠ G; omega) _, h.bg.put 4 _, h.sc.far (h.sc.ne_blk h.bg (by decide)) _, h.hb.setCell (by show B ≤ G; omega) _, h.hG⟩
theorem MeetSt.later (h : MeetSt w W B G xs ys zs a0 a1 a2 cv c4 l1) (hb : Below W.heap.size W W') : MeetSt w W' B G xs ys zs a0 a1 a2 cv c4 l1 :=
  ⟨h.bx.below hb h.bx.lt, h.by_.below hb h.by_.lt, h.bz.below hb h.bz.lt, h.bg.below hb h.bg.lt, h.sc.later hb, h.hb.trans (hb.mono (by have := h.bx.lt; omega)), h.hG⟩
theorem MeetSt.five (h : MeetSt w W B G xs ys zs a0 a1 a2 cv c4 l1) (hz : ∃ a b c d e, zs = #[a, b, c, d, e]) (c0 c1 c2 c3 c5 : Value) :
    MeetSt w (((((W.setCell ⟨B + 1 + 1, 0, none⟩ c0).setCell ⟨B + 1 + 1, 1, none⟩ c1).setCell ⟨B + 1 + 1, 2, none⟩ c2).setCell ⟨B + 1 + 1, 3, none⟩ c3).setCell ⟨B + 1 + 1, 4, none⟩ c5) B G xs ys #[c0, c1, c2, c3, c5] a0 a1 a2 cv c4 l1 := by
  have hG := h.hG
  have f : ∀ {g : Nat} {cs : Array Value}, BlkIs W g 43 cs → g ≠ B + 1 + 1 → BlkIs (((((W.setCell ⟨B + 1 + 1, 0, none⟩ c0).setCell ⟨B + 1 + 1, 1, none⟩ c1).setCell ⟨B + 1 + 1, 2, none⟩ c2).setCell ⟨B + 1 + 1, 3, none⟩ c3).setCell ⟨B + 1 + 1, 4, none⟩ c5) g 43 cs := fun k hn => ((((k.far hn _).far hn _).far hn _).far hn _).far hn _
  exact ⟨f h.bx (by omega), f h.by_ (by omega), tb_put _ _ _ _ _ h.bz hz, f h.bg (by omega), sl_five h.sc (h.sc.ne_blk h.bz (by decide)), ((((h.hb.setCell (Nat.le_add_right B 2) _).setCell (Nat.le_add_right B 2) _).setCell (Nat.le_add_right B 2) _).setCell (Nat.le_add_right B 2) _).setCell (Nat.le_add_right B 2) _, h.hG⟩
/-- The same, with the acks. -/
def MeetQ (w W : World) (B G : Nat) (xs ys zs : Array Value) (a0 a1 : Int) (a2 : ByteArray) (cv c4 : Value) (l1 : List Tok) (n : Nat) (ls : List Int) : Prop :=
  MeetSt w W B G xs ys zs a0 a1 a2 cv c4 l1 ∧ SlIs W (B + 3) 3 1 c4 n (icells ls)
theorem MeetQ.later {n : Nat} {ls : List Int} (h : MeetQ w W B G xs ys zs a0 a1 a2 cv c4 l1 n ls) (hb : Below W.heap.size W W') : MeetQ w W' B G xs ys zs a0 a1 a2 cv c4 l1 n ls := ⟨h.1.later hb, h.2.later hb⟩
theorem MeetQ.five {n : Nat} {ls : List Int} (h : MeetQ w W B G xs ys zs a0 a1 a2 cv c4 l1 n ls) (hz : ∃ a b c d e, zs = #[a, b, c, d, e]) (c0 c1 c2 c3 c5 : Value) :
    MeetQ w (((((W.setCell ⟨B + 1 + 1, 0, none⟩ c0).setCell ⟨B + 1 + 1, 1, none⟩ c1).setCell ⟨B + 1 + 1, 2, none⟩ c2).setCell ⟨B + 1 + 1, 3, none⟩ c3).setCell ⟨B + 1 + 1, 4, none⟩ c5) B G xs ys #[c0, c1, c2, c3, c5] a0 a1 a2 cv c4 l1 n ls :=
  ⟨h.1.five hz _ _ _ _ _, sl_five h.2 (h.2.ne_blk h.1.bz (by decide))⟩
theorem MeetQ.drew {n : Nat} {ls : List Int} (h : MeetQ w W B G xs ys zs a0 a1 a2 cv c4 l1 n ls) : MeetQ w W.drew B G xs ys zs a0 a1 a2 cv c4 l1 n ls := h.later ⟨rfl, rfl, rfl, Nat.le_refl _, fun _ _ => rfl⟩
end
theorem meets_end (w8 : World) (b : Nat) (cs : Array Value) (hs : cs.size = 5) (tmps : Array Value) (q : Bool) (Q : Ending → World → Prop) (h2 : tmps.getD 4 undef = .pointer (some ⟨b, 0, none⟩)) (h3 : tmps.getD 5 undef = .bool q) (k : BlkIs w8 b 43 cs) (hQ : Q (.returned (.tuple #[.agg cs, .bool q])) w8) :
    bodyPost Tryz.prog Tryz.f45 Q Exit.ret ⟨tmps, []⟩ w8 :=
  bodyPost_ret (results_cell_tmp' rfl _ _ b 43 cs (0, 0) _ h2 k Tryz.underlying43 rfl (by rw [hs]; show _ = some 5; kernel_rfl)) rfl (by rw [h3]; exact hQ)
set_option maxRecDepth 100000 in
set_option maxHeartbeats 4000000 in
theorem meets_any (x y : TbR) (w : World) (hx : x.Reads w) (hy : y.Reads w) (hnx : x.t.cov.length ≤ 1000000 ∧ x.t.acks.length ≤ 400000) (hny : y.t.cov.length ≤ 1000000 ∧ y.t.acks.length ≤ 400000) : Calls Tryz.prog 45 #[aTb x, aTb y] w fun e w' =>
    ∃ cv av, e = .returned (.tuple #[aTb ⟨plus x.t y.t.acks, cv, av⟩, .bool (sameB x.t y.t)]) ∧ (SlIs w' w.heap.size 45 3 cv x.t.cov.length (rowCells vTok x.t.cov) ∧ SlIs w' w.heap.size 3 1 av (plus x.t y.t.acks).acks.length (rowCells vInt (plus x.t y.t.acks).acks)) ∧ Below w.heap.size w w' := by
  obtain ⟨⟨a0, a1, a2, l1, l2⟩, v1, v2⟩ := x
  obtain ⟨⟨b0, b1, b2, l3, l4⟩, v3, v4⟩ := y
  dsimp only [plus] at hnx hny ⊢
  obtain ⟨B, hB⟩ : ∃ B, B = w.heap.size := ⟨_, rfl⟩
  obtain ⟨q, hq⟩ : ∃ q, q = sameB ⟨a0, a1, a2, l1, l2⟩ ⟨b0, b1, b2, l3, l4⟩ := ⟨_, rfl⟩
  obtain ⟨qe, hqe⟩ : ∃ qe, qe = eqB l1 l3 := ⟨_, rfl⟩
  have hqq : q = (a2.toList == b2.toList && qe) := by rw [hq, hqe]; rfl
  rw [← hq]
  have HQ := Lib.hid hqq
  obtain ⟨ls, hls⟩ : ∃ ls, ls = sortU (l2 ++ l4) := ⟨_, rfl⟩
  rw [← hls]
  have HLS := Lib.hid hls
  obtain ⟨W3, hW3⟩ : ∃ W3, W3 = ((w.alloc (.cells #[.int .i64 a0, .int .i64 a1, .string a2, v1, v2] 43)).alloc (.cells #[.int .i64 b0, .int .i64 b1, .string b2, v3, v4] 43)).alloc (.cells #[.int .i64 0, .int .i64 0, .string ⟨#[]⟩, .slice none 0 0, .slice none 0 0] 43) := ⟨_, rfl⟩
  have K := Lib.hid (show BlkIs W3 B 43 #[.int .i64 a0, .int .i64 a1, .string a2, v1, v2] ∧ BlkIs W3 (B + 1) 43 #[.int .i64 b0, .int .i64 b1, .string b2, v3, v4] ∧ BlkIs W3 (B + 2) 43 #[.int .i64 0, .int .i64 0, .string ⟨#[]⟩, .slice none 0 0, .slice none 0 0] ∧ Below B w W3 ∧ W3.heap.size = B + 3 from by
    rw [hW3, hB]
    exact ⟨((BlkIs.new _ _ _).alloc _).alloc _, (BlkIs.new2 _ _ _ _).alloc _, BlkIs.new3 _ _ _ _ _, (((Below.refl _ _).alloc (Nat.le_refl _) _).alloc (by simp) _).alloc (by simp; omega) _, by simp⟩)
  have hb3 : Below w.heap.size w W3 := by rw [← hB]; exact K.out.2.2.2.1
  have C := Lib.hid (copied_any ⟨⟨a0, a1, a2, l1, l2⟩, v1, v2⟩ W3 (hx.later hb3) ⟨hnx.1, by have := hnx.2; show l2.length ≤ _; omega⟩)
  have HR4 := Lib.hid (show ∀ W, Below B w W → RowAt 1 vInt W v4 l4 from fun W hW => hy.2.later (by rw [← hB]; exact hW))
  have HE := Lib.hid (show ∀ W, Below B w W → Calls Tryz.prog 36 #[v1, v3] W fun e w' => e = .returned (.bool qe) ∧ Below W.heap.size W w' from fun W hW => by
    rw [hqe]
    exact equal_tok v1 v3 l1 l3 W (hx.1.later (by rw [← hB]; exact hW)) (hy.1.later (by rw [← hB]; exact hW)) hnx.1 hny.1)
  obtain ⟨hx1, hx2⟩ := hx
  obtain ⟨hy1, hy2⟩ := hy
  dsimp only at hx1 hx2 hy1 hy2
  obtain ⟨o1, f1, rfl, -, -⟩ := hx1.form
  obtain ⟨o2, f2, rfl, -, -⟩ := hx2.form
  obtain ⟨o3, f3, rfl, -, -⟩ := hy1.form
  obtain ⟨o4, f4, rfl, -, -⟩ := hy2.form
  dsimp only [aTb] at C HR4 HE K hW3 ⊢
  obtain ⟨n1, hn1⟩ : ∃ n, n = l1.length := ⟨_, rfl⟩
  obtain ⟨n2, hn2⟩ : ∃ n, n = l2.length := ⟨_, rfl⟩
  obtain ⟨n3, hn3⟩ : ∃ n, n = l3.length := ⟨_, rfl⟩
  obtain ⟨n4, hn4⟩ : ∃ n, n = l4.length := ⟨_, rfl⟩
  have h2 : n2 ≤ 400000 := by rw [hn2]; exact hnx.2
  have h4 : n4 ≤ 400000 := by rw [hn4]; exact hny.2
  have HN := Lib.hid (And.intro hn1 (And.intro hn2 (And.intro hn3 hn4)))
  rw [← hn1] at C HE K hW3 ⊢
  rw [← hn2] at C K hW3 ⊢
  rw [← hn3] at HE K hW3 ⊢
  rw [← hn4] at HR4 K hW3 ⊢
  have HW := Lib.hid hW3
  clear hx1 hx2 hy1 hy2 hnx hny hW3 hn1 hn2 hn3 hn4 hq hqe hqq hb3 hls
  go_enter Tryz.func45, Tryz.ntmps45
  go_upto_region 1 with (fail)
  rw [← hB]
  rw [← HW.out]
  have HB := Lib.hid hB
  clear hB
  obtain ⟨k1, k2, k3, -, -⟩ := K.out
  have d0 : W3.cell? ⟨B, 0, none⟩ = some (.int .i64 a0) := k1.cell 0
  have d1 : W3.cell? ⟨B, 1, none⟩ = some (.int .i64 a1) := k1.cell 1
  have d2 : W3.cell? ⟨B, 2, none⟩ = some (.string a2) := k1.cell 2
  have d3 : W3.cell? ⟨B, 3, none⟩ = some (.slice o1 n1 f1) := k1.cell 3
  have d4 : W3.cell? ⟨B, 4, none⟩ = some (.slice o2 n2 f2) := k1.cell 4
  clear k1 k2 k3
  go_wp2_with fail
  refine C.out.mono ?_
  rintro e w4 ⟨cv, av, rfl, ⟨hs1, hs2⟩, hb4⟩
  rw [K.out.2.2.2.2] at hs1 hs2
  obtain ⟨p1, m1, rfl, -, -, -⟩ := hs1.form
  obtain ⟨p2, m2, rfl, -, -, -⟩ := hs2.form
  clear C d0 d1 d2 d3 d4
  obtain ⟨W5, hW5⟩ : ∃ W5, W5 = w4.alloc (.cells #[.int .i64 a0, .int .i64 a1, .string a2, .slice p1 n1 m1, .slice p2 n2 m2] 43) := ⟨_, rfl⟩
  obtain ⟨G, hG⟩ : ∃ G, G = w4.heap.size := ⟨_, rfl⟩
  have M5 := Lib.hid (show MeetSt w W5 B G #[.int .i64 a0, .int .i64 a1, .string a2, .slice o1 n1 f1, .slice o2 n2 f2] #[.int .i64 b0, .int .i64 b1, .string b2, .slice o3 n3 f3, .slice o4 n4 f4] #[.int .i64 0, .int .i64 0, .string ⟨#[]⟩, .slice none 0 0, .slice none 0 0] a0 a1 a2 (.slice p1 n1 m1) (.slice p2 n2 m2) l1 ∧ SlIs W5 (B + 3) 3 1 (.slice p2 n2 m2) n2 (rowCells vInt l2) from by
    have hz := hb4.size
    have e3 := K.out.2.2.2.2
    rw [hW5, hG]
    refine ⟨⟨((K.out.1.below hb4 K.out.1.lt).alloc _), ((K.out.2.1.below hb4 K.out.2.1.lt).alloc _), ((K.out.2.2.1.below hb4 K.out.2.2.1.lt).alloc _), BlkIs.new _ _ _, ?_, (K.out.2.2.2.1.trans (hb4.mono (by omega))).alloc (by omega) _, by omega⟩, hs2.alloc _⟩
    rw [← HN.out.1]
    exact hs1.alloc _)
  go_upto_region 2 with (fail)
  rw [← hW5, ← hG]
  clear hW5 hG hs1 hs2 hb4
  have c2 : W5.cell? ⟨G, 4, none⟩ = some (.slice p2 n2 m2) := M5.out.1.bg.cell 4
  have c4 : W5.cell? ⟨B + 1, 4, none⟩ = some (.slice o4 n4 f4) := M5.out.1.by_.cell 4
  have HS4 := Lib.hid (show SrcIs Tryz.prog W5 41 1 (.slice o4 n4 f4) n4 (rowCells vInt l4) from by
    have h1 := srcIs_ints (HR4.out W5 M5.out.1.hb)
    rwa [← HN.out.2.2.2] at h1)
  go_wp2_with (refine wpList_append_sl rfl _ _ _ 41 (by rfl) el_int (base := B + 3) (.slice p2 n2 m2) n2 (rowCells vInt l2) (by rfl) M5.out.2 _ n4 (rowCells vInt l4) (by rfl) HS4.out (by rw [rowCells_int]; exact icells_one l4) (by unfold maxLen; omega) (by omega) (by have := M5.out.1.hG; have := M5.out.1.bg.lt; omega) ?_)
  intro v5 w6 hs6 hg6 hat6
  obtain ⟨l6, hl6⟩ : ∃ l6, l6 = l2 ++ l4 := ⟨_, rfl⟩
  obtain ⟨n6, hn6⟩ : ∃ n6, n6 = l6.length := ⟨_, rfl⟩
  have e6 : n2 + n4 = n6 := by rw [hn6, hl6, List.length_append, ← HN.out.2.1, ← HN.out.2.2.2]
  have h6 : n6 ≤ 800000 := by omega
  have M6 := Lib.hid (show MeetSt w w6 B G #[.int .i64 a0, .int .i64 a1, .string a2, .slice o1 n1 f1, .slice o2 n2 f2] #[.int .i64 b0, .int .i64 b1, .string b2, .slice o3 n3 f3, .slice o4 n4 f4] #[.int .i64 0, .int .i64 0, .string ⟨#[]⟩, .slice none 0 0, .slice none 0 0] a0 a1 a2 (.slice p1 n1 m1) (.slice p2 n2 m2) l1 ∧ SlIs w6 (B + 3) 3 1 v5 l6.length (icells l6) from by
    refine ⟨M5.out.1.grown M5.out.2 hg6, ?_⟩
    rw [← hn6, ← e6, ← rowCells_int, hl6, rowCells_app]
    exact hs6)
  have HL6 := Lib.hid (And.intro hl6 hn6)
  obtain ⟨p5, m5, rfl, -, -, -⟩ := M6.out.2.form
  rw [← hn6] at M6
  rw [← hn6]
  clear hs6 hg6 hat6 c2 c4 hl6 hn6 e6
  have c6 : w6.cell? ⟨G, 4, none⟩ = some (.slice p2 n2 m2) := M6.out.1.bg.cell 4
  have r6 : w6.frozen? ⟨G, 4, none⟩ = false := M6.out.1.bg.free 4
  obtain ⟨W7, hW7⟩ : ∃ W7, W7 = w6.setCell ⟨G, 4, none⟩ (.slice p5 n6 m5) := ⟨_, rfl⟩
  have M7 := Lib.hid (show MeetSt w W7 B G #[.int .i64 a0, .int .i64 a1, .string a2, .slice o1 n1 f1, .slice o2 n2 f2] #[.int .i64 b0, .int .i64 b1, .string b2, .slice o3 n3 f3, .slice o4 n4 f4] #[.int .i64 0, .int .i64 0, .string ⟨#[]⟩, .slice none 0 0, .slice none 0 0] a0 a1 a2 (.slice p1 n1 m1) (.slice p5 n6 m5) l1 ∧ SlIs W7 (B + 3) 3 1 (.slice p5 n6 m5) l6.length (icells l6) from by
    rw [hW7, ← HL6.out.2]
    exact ⟨M6.out.1.put _, M6.out.2.far (M6.out.2.ne_blk M6.out.1.bg (by decide)) _⟩)
  have S := Lib.hid (Set.sort_int (B + 3) (.slice p5 n6 m5) l6 W7 M7.out.2 (by rw [← HL6.out.2]; omega))
  have c7 : W7.cell? ⟨G, 4, none⟩ = some (.slice p5 n6 m5) := M7.out.1.bg.cell 4
  have HW7 := Lib.hid hW7
  clear hW7
  go_upto_region 3 with (fail)
  rw [← HW7.out]
  clear c6 r6
  go_wp2_with fail
  refine S.out.mono ?_
  rintro e w8 ⟨rfl, hs8, hg8⟩
  obtain ⟨l8, hl8⟩ : ∃ l8, l8 = l6.mergeSort fun x y => decide (x ≤ y) := ⟨_, rfl⟩
  have e8 : n6 = l8.length := by rw [hl8, List.length_mergeSort]; exact HL6.out.2
  have ec : compact l8 = ls := by rw [hl8, sortU_of, HL6.out.1]; exact HLS.out.symm
  have M8 := Lib.hid (show MeetSt w w8 B G #[.int .i64 a0, .int .i64 a1, .string a2, .slice o1 n1 f1, .slice o2 n2 f2] #[.int .i64 b0, .int .i64 b1, .string b2, .slice o3 n3 f3, .slice o4 n4 f4] #[.int .i64 0, .int .i64 0, .string ⟨#[]⟩, .slice none 0 0, .slice none 0 0] a0 a1 a2 (.slice p1 n1 m1) (.slice p5 n6 m5) l1 ∧ SlIs w8 (B + 3) 3 1 (.slice p5 n6 m5) l8.length (icells l8) from by
    refine ⟨M7.out.1.grown M7.out.2 hg8, ?_⟩
    rw [hl8, List.length_mergeSort]
    exact hs8)
  have C8 := Set.compact_int (B + 3) (.slice p5 n6 m5) l8 w8 M8.out.2 (by rw [← e8]; omega)
  rw [ec] at C8
  have C8 := Lib.hid C8
  have c8 : w8.cell? ⟨G, 4, none⟩ = some (.slice p5 n6 m5) := M8.out.1.bg.cell 4
  clear c7 hs8 hg8 hl8 e8 ec S HW7
  go_wp2_with fail
  refine C8.out.mono ?_
  rintro e w9 ⟨v6, rfl, hs9, hg9, -⟩
  have M9 := Lib.hid (show MeetSt w w9 B G #[.int .i64 a0, .int .i64 a1, .string a2, .slice o1 n1 f1, .slice o2 n2 f2] #[.int .i64 b0, .int .i64 b1, .string b2, .slice o3 n3 f3, .slice o4 n4 f4] #[.int .i64 0, .int .i64 0, .string ⟨#[]⟩, .slice none 0 0, .slice none 0 0] a0 a1 a2 (.slice p1 n1 m1) (.slice p5 n6 m5) l1 ∧ SlIs w9 (B + 3) 3 1 v6 ls.length (icells ls) from
    ⟨M8.out.1.grown M8.out.2 hg9, hs9⟩)
  obtain ⟨p6, m6, rfl, -, -, -⟩ := hs9.form
  clear hs9 hg9 C8 c8
  obtain ⟨n9, hn9⟩ : ∃ n, n = ls.length := ⟨_, rfl⟩
  rw [← hn9] at M9 ⊢
  have H9 := Lib.hid hn9
  have c9 : w9.cell? ⟨G, 4, none⟩ = some (.slice p5 n6 m5) := M9.out.1.bg.cell 4
  have r9 : w9.frozen? ⟨G, 4, none⟩ = false := M9.out.1.bg.free 4
  obtain ⟨W10, hW10⟩ : ∃ W10, W10 = w9.setCell ⟨G, 4, none⟩ (.slice p6 n9 m6) := ⟨_, rfl⟩
  have M10 := Lib.hid (show MeetSt w W10 B G #[.int .i64 a0, .int .i64 a1, .string a2, .slice o1 n1 f1, .slice o2 n2 f2] #[.int .i64 b0, .int .i64 b1, .string b2, .slice o3 n3 f3, .slice o4 n4 f4] #[.int .i64 0, .int .i64 0, .string ⟨#[]⟩, .slice none 0 0, .slice none 0 0] a0 a1 a2 (.slice p1 n1 m1) (.slice p6 n9 m6) l1 ∧ SlIs W10 (B + 3) 3 1 (.slice p6 n9 m6) n9 (icells ls) from by
    rw [hW10]
    exact ⟨M9.out.1.put _, M9.out.2.far (M9.out.2.ne_blk M9.out.1.bg (by decide)) _⟩)
  have T10 := Lib.hid (show ∀ X : LaterOf W10, Calls Tryz.prog 36 #[.slice o1 n1 f1, .slice o3 n3 f3] X.w fun e w' => e = .returned (.bool qe) ∧ Below X.w.heap.size X.w w' from fun X =>
    HE.out X.w (M10.out.1.hb.trans (X.h.mono (by have := M10.out.1.bx.lt; omega))))
  have HW10 := Lib.hid hW10
  clear hW10 hn9
  go_upto_region 5 with (fail)
  rw [← HW10.out]
  clear c9 r9
  by_cases hi : a2.toList = b2.toList
  · have hi2 : a2 = b2 := bytes_eq.1 (by rw [hi]; exact beq_self_eq_true _)
    subst hi2
    have HQ2 := Lib.hid (show q = qe from by rw [HQ.out]; simp)
    clear hi
    have Q10 := Lib.hid (show MeetQ w W10.drew B G #[.int .i64 a0, .int .i64 a1, .string a2, .slice o1 n1 f1, .slice o2 n2 f2] #[.int .i64 b0, .int .i64 b1, .string a2, .slice o3 n3 f3, .slice o4 n4 f4] #[.int .i64 0, .int .i64 0, .string ⟨#[]⟩, .slice none 0 0, .slice none 0 0] a0 a1 a2 (.slice p1 n1 m1) (.slice p6 n9 m6) l1 n9 ls from MeetQ.drew ⟨M10.out.1, M10.out.2⟩)
    have QS := Lib.hid (show MeetQ w ((((((W10.setCell ⟨B + 1 + 1, 0, none⟩ (.int .i64 a0)).setCell ⟨B + 1 + 1, 1, none⟩ (.int .i64 a1)).setCell ⟨B + 1 + 1, 2, none⟩ (.string a2)).setCell ⟨B + 1 + 1, 3, none⟩ (.slice p1 n1 m1)).setCell ⟨B + 1 + 1, 4, none⟩ (.slice p6 n9 m6)).drew) B G #[.int .i64 a0, .int .i64 a1, .string a2, .slice o1 n1 f1, .slice o2 n2 f2] #[.int .i64 b0, .int .i64 b1, .string a2, .slice o3 n3 f3, .slice o4 n4 f4] #[.int .i64 a0, .int .i64 a1, .string a2, .slice p1 n1 m1, .slice p6 n9 m6] a0 a1 a2 (.slice p1 n1 m1) (.slice p6 n9 m6) l1 n9 ls from (MeetQ.five ⟨M10.out.1, M10.out.2⟩ ⟨_, _, _, _, _, rfl⟩ _ _ _ _ _).drew)
    have HK := Lib.hid (show ∀ W, (∃ zs, MeetQ w W B G #[.int .i64 a0, .int .i64 a1, .string a2, .slice o1 n1 f1, .slice o2 n2 f2] #[.int .i64 b0, .int .i64 b1, .string a2, .slice o3 n3 f3, .slice o4 n4 f4] zs a0 a1 a2 (.slice p1 n1 m1) (.slice p6 n9 m6) l1 n9 ls) → W.cell? ⟨G, 0, none⟩ = some (.int .i64 a0) ∧ W.cell? ⟨G, 1, none⟩ = some (.int .i64 a1) ∧ W.cell? ⟨G, 2, none⟩ = some (.string a2) ∧ W.cell? ⟨G, 3, none⟩ = some (.slice p1 n1 m1) ∧ W.cell? ⟨G, 4, none⟩ = some (.slice p6 n9 m6) ∧ W.cell? ⟨B, 2, none⟩ = some (.string a2) ∧ W.cell? ⟨B, 3, none⟩ = some (.slice o1 n1 f1) ∧ W.cell? ⟨B + 1, 2, none⟩ = some (.string a2) ∧ W.cell? ⟨B + 1, 3, none⟩ = some (.slice o3 n3 f3) from fun W ⟨zs, h⟩ =>
      ⟨h.1.bg.cell 0, h.1.bg.cell 1, h.1.bg.cell 2, h.1.bg.cell 3, h.1.bg.cell 4, h.1.bx.cell 2, h.1.bx.cell 3, h.1.by_.cell 2, h.1.by_.cell 3⟩)
    have g0 : W10.cell? ⟨B + 1 + 1, 0, none⟩ = some (.int .i64 0) := M10.out.1.bz.cell 0
    have g1 : W10.cell? ⟨B + 1 + 1, 1, none⟩ = some (.int .i64 0) := M10.out.1.bz.cell 1
    have g2 : W10.cell? ⟨B + 1 + 1, 2, none⟩ = some (.string ⟨#[]⟩) := M10.out.1.bz.cell 2
    have g3 : W10.cell? ⟨B + 1 + 1, 3, none⟩ = some (.slice none 0 0) := M10.out.1.bz.cell 3
    have g4 : W10.cell? ⟨B + 1 + 1, 4, none⟩ = some (.slice none 0 0) := M10.out.1.bz.cell 4
    have fr : ∀ i, W10.frozen? ⟨B + 1 + 1, i, none⟩ = false := fun i => M10.out.1.bz.free i
    refine wp_region_held_drew (S := fun W => W.cell? ⟨G, 0, none⟩ = some (.int .i64 a0) ∧ W.cell? ⟨G, 1, none⟩ = some (.int .i64 a1) ∧ W.cell? ⟨G, 2, none⟩ = some (.string a2) ∧ W.cell? ⟨G, 3, none⟩ = some (.slice p1 n1 m1) ∧ W.cell? ⟨G, 4, none⟩ = some (.slice p6 n9 m6) ∧ W.cell? ⟨B, 2, none⟩ = some (.string a2) ∧ W.cell? ⟨B, 3, none⟩ = some (.slice o1 n1 f1) ∧ W.cell? ⟨B + 1, 2, none⟩ = some (.string a2) ∧ W.cell? ⟨B + 1, 3, none⟩ = some (.slice o3 n3 f3)) (by kernel_rfl) (HK.out _ ⟨_, Q10.out⟩) (fun hHeld => ?_)
    refine wpAnyH_take (i := 0) (v := .agg #[.int .i64 a0, .int .i64 a1, .string a2, .slice p1 n1 m1, .slice p6 n9 m6]) rfl (by kernel_rfl) (by kernel_rfl) (by kernel_rfl) (fun _ _ _ h => h) (Or.inl ⟨by kernel_rfl, fun w hSw => ?_⟩) (by assumption) ?_
    · dsimp only at hSw
      go_simp
    simp only [Act.put, List.setIfInBounds_toArray, List.set_cons_zero, List.set_cons_succ]
    refine wpAnyH_take (i := 1) (v := .pointer (some ⟨B, 2, none⟩)) rfl (by kernel_rfl) (by kernel_rfl) (by kernel_rfl) (fun _ _ _ h => h) (Or.inl ⟨by kernel_rfl, fun w hSw => ?_⟩) (by assumption) ?_
    · dsimp only at hSw
      go_simp
    simp only [Act.put, List.setIfInBounds_toArray, List.set_cons_zero, List.set_cons_succ]
    refine wpAnyH_take (i := 2) (v := .string a2) rfl (by kernel_rfl) (by kernel_rfl) (by kernel_rfl) (fun _ _ _ h => h) (Or.inl ⟨by kernel_rfl, fun w hSw => ?_⟩) (by assumption) ?_
    · dsimp only at hSw
      go_simp
    simp only [Act.put, List.setIfInBounds_toArray, List.set_cons_zero, List.set_cons_succ]
    refine wpAnyH_take (i := 3) (v := .pointer (some ⟨B + 1, 2, none⟩)) rfl (by kernel_rfl) (by kernel_rfl) (by kernel_rfl) (fun _ _ _ h => h) (Or.inl ⟨by kernel_rfl, fun w hSw => ?_⟩) (by assumption) ?_
    · dsimp only at hSw
      go_simp
    simp only [Act.put, List.setIfInBounds_toArray, List.set_cons_zero, List.set_cons_succ]
    refine wpAnyH_take (i := 4) (v := .string a2) rfl (by kernel_rfl) (by kernel_rfl) (by kernel_rfl) (fun _ _ _ h => h) (Or.inl ⟨by kernel_rfl, fun w hSw => ?_⟩) (by assumption) ?_
    · dsimp only at hSw
      go_simp
    simp only [Act.put, List.setIfInBounds_toArray, List.set_cons_zero, List.set_cons_succ]
    refine wpAnyH_take (i := 5) (v := .bool true) rfl (by kernel_rfl) (by kernel_rfl) (by kernel_rfl) (fun _ _ _ h => h) (Or.inl ⟨by kernel_rfl, fun w hSw => ?_⟩) (by assumption) ?_
    · dsimp only at hSw
      go_simp
    simp only [Act.put, List.setIfInBounds_toArray, List.set_cons_zero, List.set_cons_succ]
    refine wpAnyH_take (i := 6) (v := .bool true) rfl (by kernel_rfl) (by kernel_rfl) (by kernel_rfl) (fun _ _ _ h => h) (Or.inl ⟨by kernel_rfl, fun w hSw => ?_⟩) (by assumption) ?_
    · dsimp only at hSw
      go_simp
    simp only [Act.put, List.setIfInBounds_toArray, List.set_cons_zero, List.set_cons_succ]
    refine wpAnyH_take (i := 7) (v := .pointer (some ⟨B, 3, none⟩)) rfl (by kernel_rfl) (by kernel_rfl) (by kernel_rfl) (fun _ _ _ h => h) (Or.inl ⟨by kernel_rfl, fun w hSw => ?_⟩) (by assumption) ?_
    · dsimp only at hSw
      go_simp
    simp only [Act.put, List.setIfInBounds_toArray, List.set_cons_zero, List.set_cons_succ]
    refine wpAnyH_take (i := 8) (v := .slice o1 n1 f1) rfl (by kernel_rfl) (by kernel_rfl) (by kernel_rfl) (fun _ _ _ h => h) (Or.inl ⟨by kernel_rfl, fun w hSw => ?_⟩) (by assumption) ?_
    · dsimp only at hSw
      go_simp
    simp only [Act.put, List.setIfInBounds_toArray, List.set_cons_zero, List.set_cons_succ]
    refine wpAnyH_take (i := 9) (v := .pointer (some ⟨B + 1, 3, none⟩)) rfl (by kernel_rfl) (by kernel_rfl) (by kernel_rfl) (fun _ _ _ h => h) (Or.inl ⟨by kernel_rfl, fun w hSw => ?_⟩) (by assumption) ?_
    · dsimp only at hSw
      go_simp
    simp only [Act.put, List.setIfInBounds_toArray, List.set_cons_zero, List.set_cons_succ]
    refine wpAnyH_take (i := 10) (v := .slice o3 n3 f3) rfl (by kernel_rfl) (by kernel_rfl) (by kernel_rfl) (fun _ _ _ h => h) (Or.inl ⟨by kernel_rfl, fun w hSw => ?_⟩) (by assumption) ?_
    · dsimp only at hSw
      go_simp
    simp only [Act.put, List.setIfInBounds_toArray, List.set_cons_zero, List.set_cons_succ]
    refine wpAnyH_ready (rs := [11]) (by kernel_rfl) (by simp) ?_
    refine AllReadyH.cons rfl (fun K hK => ?_) AllReadyH.nil
    go_simp
    go_wp2_with (
      go_at_call 36
      refine (HE.out _ Q10.out.1.hb).mono ?_
      rintro e w11 ⟨rfl, hb⟩)
    have hm := Lib.hid (show MeetQ w w11 B G #[.int .i64 a0, .int .i64 a1, .string a2, .slice o1 n1 f1, .slice o2 n2 f2] #[.int .i64 b0, .int .i64 b1, .string a2, .slice o3 n3 f3, .slice o4 n4 f4] #[.int .i64 0, .int .i64 0, .string ⟨#[]⟩, .slice none 0 0, .slice none 0 0] a0 a1 a2 (.slice p1 n1 m1) (.slice p6 n9 m6) l1 n9 ls from Q10.out.later hb)
    refine hK.out _ _ ?_ (fun hHeld2 => ?_)
    · exact HK.out _ ⟨_, hm.out⟩
    clear hK K hb
    refine wpAnyH_take (i := 12) (v := .bool qe) rfl (by kernel_rfl) (by kernel_rfl) (by kernel_rfl) (fun _ _ _ h => h) (Or.inl ⟨by kernel_rfl, fun w hSw => ?_⟩) (by assumption) ?_
    · dsimp only at hSw
      go_simp
    simp only [Act.put, List.setIfInBounds_toArray, List.set_cons_zero, List.set_cons_succ]
    have r0 : w11.cell? ⟨B + 1 + 1, 0, none⟩ = some (.int .i64 0) := hm.out.1.bz.cell 0
    have r1 : w11.cell? ⟨B + 1 + 1, 1, none⟩ = some (.int .i64 0) := hm.out.1.bz.cell 1
    have r2 : w11.cell? ⟨B + 1 + 1, 2, none⟩ = some (.string ⟨#[]⟩) := hm.out.1.bz.cell 2
    have r3 : w11.cell? ⟨B + 1 + 1, 3, none⟩ = some (.slice none 0 0) := hm.out.1.bz.cell 3
    have r4 : w11.cell? ⟨B + 1 + 1, 4, none⟩ = some (.slice none 0 0) := hm.out.1.bz.cell 4
    have fr2 : ∀ i, w11.frozen? ⟨B + 1 + 1, i, none⟩ = false := fun i => hm.out.1.bz.free i
    refine wpAnyH_ready (rs := [13]) (by kernel_rfl) (by simp) ?_
    refine AllReadyH.cons rfl (fun K hK => ?_) AllReadyH.nil
    go_simp
    refine hK.out _ _ ?_ (fun hHeld3 => ?_)
    · exact HK.out _ ⟨_, hm.out.five ⟨_, _, _, _, _, rfl⟩ _ _ _ _ _⟩
    clear hK K
    refine wpAnyH_ready (rs := [14]) (by kernel_rfl) (by simp) ?_
    refine AllReadyH.cons rfl (fun K hK => ?_) AllReadyH.nil
    go_simp
    refine hK.out _ _ ?_ (fun hHeld3 => ?_)
    · exact HK.out _ ⟨_, hm.out.five ⟨_, _, _, _, _, rfl⟩ _ _ _ _ _⟩
    clear hK K
    refine wpAnyH_done (by kernel_rfl) ?_ _
    have hE := Lib.hid (show MeetQ w _ B G #[.int .i64 a0, .int .i64 a1, .string a2, .slice o1 n1 f1, .slice o2 n2 f2] #[.int .i64 b0, .int .i64 b1, .string a2, .slice o3 n3 f3, .slice o4 n4 f4] #[.int .i64 a0, .int .i64 a1, .string a2, .slice p1 n1 m1, .slice p6 n9 m6] a0 a1 a2 (.slice p1 n1 m1) (.slice p6 n9 m6) l1 n9 ls from hm.out.five ⟨_, _, _, _, _, rfl⟩ _ _ _ _ _)
    go_wp2_with fail
    refine meets_end _ (B + 2) #[.int .i64 a0, .int .i64 a1, .string a2, .slice p1 n1 m1, .slice p6 n9 m6] rfl _ q _ rfl (by rw [HQ2.out]; rfl) hE.out.1.bz ⟨_, _, rfl, ?_⟩
    have t1 := hE.out.1.sc
    rw [← HN.out.1] at t1
    rw [← HB.out, rowCells_int, ← H9.out]
    exact ⟨⟨t1.mono (Nat.le_add_right B 3), hE.out.2.mono (Nat.le_add_right B 3)⟩, hE.out.1.hb⟩
  · have HQ2 := Lib.hid (show q = false from by rw [HQ.out]; simp [hi])
    have hi3 : (a2.toList == b2.toList) = false := by simpa using hi
    clear hi
    have Q10 := Lib.hid (show MeetQ w W10.drew B G #[.int .i64 a0, .int .i64 a1, .string a2, .slice o1 n1 f1, .slice o2 n2 f2] #[.int .i64 b0, .int .i64 b1, .string b2, .slice o3 n3 f3, .slice o4 n4 f4] #[.int .i64 0, .int .i64 0, .string ⟨#[]⟩, .slice none 0 0, .slice none 0 0] a0 a1 a2 (.slice p1 n1 m1) (.slice p6 n9 m6) l1 n9 ls from MeetQ.drew ⟨M10.out.1, M10.out.2⟩)
    have QS := Lib.hid (show MeetQ w ((((((W10.setCell ⟨B + 1 + 1, 0, none⟩ (.int .i64 a0)).setCell ⟨B + 1 + 1, 1, none⟩ (.int .i64 a1)).setCell ⟨B + 1 + 1, 2, none⟩ (.string a2)).setCell ⟨B + 1 + 1, 3, none⟩ (.slice p1 n1 m1)).setCell ⟨B + 1 + 1, 4, none⟩ (.slice p6 n9 m6)).drew) B G #[.int .i64 a0, .int .i64 a1, .string a2, .slice o1 n1 f1, .slice o2 n2 f2] #[.int .i64 b0, .int .i64 b1, .string b2, .slice o3 n3 f3, .slice o4 n4 f4] #[.int .i64 a0, .int .i64 a1, .string a2, .slice p1 n1 m1, .slice p6 n9 m6] a0 a1 a2 (.slice p1 n1 m1) (.slice p6 n9 m6) l1 n9 ls from (MeetQ.five ⟨M10.out.1, M10.out.2⟩ ⟨_, _, _, _, _, rfl⟩ _ _ _ _ _).drew)
    have HK := Lib.hid (show ∀ W, (∃ zs, MeetQ w W B G #[.int .i64 a0, .int .i64 a1, .string a2, .slice o1 n1 f1, .slice o2 n2 f2] #[.int .i64 b0, .int .i64 b1, .string b2, .slice o3 n3 f3, .slice o4 n4 f4] zs a0 a1 a2 (.slice p1 n1 m1) (.slice p6 n9 m6) l1 n9 ls) → W.cell? ⟨G, 0, none⟩ = some (.int .i64 a0) ∧ W.cell? ⟨G, 1, none⟩ = some (.int .i64 a1) ∧ W.cell? ⟨G, 2, none⟩ = some (.string a2) ∧ W.cell? ⟨G, 3, none⟩ = some (.slice p1 n1 m1) ∧ W.cell? ⟨G, 4, none⟩ = some (.slice p6 n9 m6) ∧ W.cell? ⟨B, 2, none⟩ = some (.string a2) ∧ W.cell? ⟨B, 3, none⟩ = some (.slice o1 n1 f1) ∧ W.cell? ⟨B + 1, 2, none⟩ = some (.string b2) ∧ W.cell? ⟨B + 1, 3, none⟩ = some (.slice o3 n3 f3) from fun W ⟨zs, h⟩ =>
      ⟨h.1.bg.cell 0, h.1.bg.cell 1, h.1.bg.cell 2, h.1.bg.cell 3, h.1.bg.cell 4, h.1.bx.cell 2, h.1.bx.cell 3, h.1.by_.cell 2, h.1.by_.cell 3⟩)
    have g0 : W10.cell? ⟨B + 1 + 1, 0, none⟩ = some (.int .i64 0) := M10.out.1.bz.cell 0
    have g1 : W10.cell? ⟨B + 1 + 1, 1, none⟩ = some (.int .i64 0) := M10.out.1.bz.cell 1
    have g2 : W10.cell? ⟨B + 1 + 1, 2, none⟩ = some (.string ⟨#[]⟩) := M10.out.1.bz.cell 2
    have g3 : W10.cell? ⟨B + 1 + 1, 3, none⟩ = some (.slice none 0 0) := M10.out.1.bz.cell 3
    have g4 : W10.cell? ⟨B + 1 + 1, 4, none⟩ = some (.slice none 0 0) := M10.out.1.bz.cell 4
    have fr : ∀ i, W10.frozen? ⟨B + 1 + 1, i, none⟩ = false := fun i => M10.out.1.bz.free i
    refine wp_region_held_drew (S := fun W => W.cell? ⟨G, 0, none⟩ = some (.int .i64 a0) ∧ W.cell? ⟨G, 1, none⟩ = some (.int .i64 a1) ∧ W.cell? ⟨G, 2, none⟩ = some (.string a2) ∧ W.cell? ⟨G, 3, none⟩ = some (.slice p1 n1 m1) ∧ W.cell? ⟨G, 4, none⟩ = some (.slice p6 n9 m6) ∧ W.cell? ⟨B, 2, none⟩ = some (.string a2) ∧ W.cell? ⟨B, 3, none⟩ = some (.slice o1 n1 f1) ∧ W.cell? ⟨B + 1, 2, none⟩ = some (.string b2) ∧ W.cell? ⟨B + 1, 3, none⟩ = some (.slice o3 n3 f3)) (by kernel_rfl) (HK.out _ ⟨_, Q10.out⟩) (fun hHeld => ?_)
    refine wpAnyH_take (i := 0) (v := .agg #[.int .i64 a0, .int .i64 a1, .string a2, .slice p1 n1 m1, .slice p6 n9 m6]) rfl (by kernel_rfl) (by kernel_rfl) (by kernel_rfl) (fun _ _ _ h => h) (Or.inl ⟨by rfl, fun w hSw => ?_⟩) (by assumption) ?_
    · dsimp only at hSw
      go_simp
    simp only [Act.put, List.setIfInBounds_toArray, List.set_cons_zero, List.set_cons_succ]
    refine wpAnyH_take (i := 1) (v := .pointer (some ⟨B, 2, none⟩)) rfl (by kernel_rfl) (by kernel_rfl) (by kernel_rfl) (fun _ _ _ h => h) (Or.inl ⟨by rfl, fun w hSw => ?_⟩) (by assumption) ?_
    · dsimp only at hSw
      go_simp
    simp only [Act.put, List.setIfInBounds_toArray, List.set_cons_zero, List.set_cons_succ]
    refine wpAnyH_take (i := 2) (v := .string a2) rfl (by kernel_rfl) (by kernel_rfl) (by kernel_rfl) (fun _ _ _ h => h) (Or.inl ⟨by rfl, fun w hSw => ?_⟩) (by assumption) ?_
    · dsimp only at hSw
      go_simp
    simp only [Act.put, List.setIfInBounds_toArray, List.set_cons_zero, List.set_cons_succ]
    refine wpAnyH_take (i := 3) (v := .pointer (some ⟨B + 1, 2, none⟩)) rfl (by kernel_rfl) (by kernel_rfl) (by kernel_rfl) (fun _ _ _ h => h) (Or.inl ⟨by rfl, fun w hSw => ?_⟩) (by assumption) ?_
    · dsimp only at hSw
      go_simp
    simp only [Act.put, List.setIfInBounds_toArray, List.set_cons_zero, List.set_cons_succ]
    refine wpAnyH_take (i := 4) (v := .string b2) rfl (by kernel_rfl) (by kernel_rfl) (by kernel_rfl) (fun _ _ _ h => h) (Or.inl ⟨by rfl, fun w hSw => ?_⟩) (by assumption) ?_
    · dsimp only at hSw
      go_simp
    simp only [Act.put, List.setIfInBounds_toArray, List.set_cons_zero, List.set_cons_succ]
    refine wpAnyH_take (i := 5) (v := .bool false) rfl (by kernel_rfl) (by kernel_rfl) (by kernel_rfl) (fun _ _ _ h => h) (Or.inl ⟨by rfl, fun w hSw => ?_⟩) (by assumption) ?_
    · dsimp only at hSw
      go_simp
    simp only [Act.put, List.setIfInBounds_toArray, List.set_cons_zero, List.set_cons_succ]
    refine wpAnyH_take (i := 6) (v := .bool false) rfl (by kernel_rfl) (by kernel_rfl) (by kernel_rfl) (fun _ _ _ h => h) (Or.inl ⟨by rfl, fun w hSw => ?_⟩) (by assumption) ?_
    · dsimp only at hSw
      go_simp
    simp only [Act.put, List.setIfInBounds_toArray, List.set_cons_zero, List.set_cons_succ]
    refine wpAnyH_take (i := 7) (v := undef) rfl (by kernel_rfl) (by kernel_rfl) (by kernel_rfl) (fun _ _ _ h => h) (Or.inr ⟨by kernel_rfl, rfl⟩) (by assumption) ?_
    simp only [Act.put, List.setIfInBounds_toArray, List.set_cons_zero, List.set_cons_succ]
    refine wpAnyH_take (i := 8) (v := undef) rfl (by kernel_rfl) (by kernel_rfl) (by kernel_rfl) (fun _ _ _ h => h) (Or.inr ⟨by kernel_rfl, rfl⟩) (by assumption) ?_
    simp only [Act.put, List.setIfInBounds_toArray, List.set_cons_zero, List.set_cons_succ]
    refine wpAnyH_take (i := 9) (v := undef) rfl (by kernel_rfl) (by kernel_rfl) (by kernel_rfl) (fun _ _ _ h => h) (Or.inr ⟨by kernel_rfl, rfl⟩) (by assumption) ?_
    simp only [Act.put, List.setIfInBounds_toArray, List.set_cons_zero, List.set_cons_succ]
    refine wpAnyH_take (i := 10) (v := undef) rfl (by kernel_rfl) (by kernel_rfl) (by kernel_rfl) (fun _ _ _ h => h) (Or.inr ⟨by kernel_rfl, rfl⟩) (by assumption) ?_
    simp only [Act.put, List.setIfInBounds_toArray, List.set_cons_zero, List.set_cons_succ]
    refine wpAnyH_take (i := 11) (v := undef) rfl (by kernel_rfl) (by kernel_rfl) (by kernel_rfl) (fun _ _ _ h => h) (Or.inr ⟨by kernel_rfl, rfl⟩) (by assumption) ?_
    simp only [Act.put, List.setIfInBounds_toArray, List.set_cons_zero, List.set_cons_succ]
    refine wpAnyH_take (i := 12) (v := .bool false) rfl (by kernel_rfl) (by kernel_rfl) (by kernel_rfl) (fun _ _ _ h => h) (Or.inl ⟨by rfl, fun w hSw => ?_⟩) (by assumption) ?_
    · dsimp only at hSw
      go_simp
    simp only [Act.put, List.setIfInBounds_toArray, List.set_cons_zero, List.set_cons_succ]
    refine wpAnyH_ready (rs := [13]) (by kernel_rfl) (by simp) ?_
    refine AllReadyH.cons rfl (fun K hK => ?_) AllReadyH.nil
    go_simp
    refine hK.out _ _ ?_ (fun hHeld2 => ?_)
    · exact HK.out _ ⟨_, QS.out⟩
    clear hK K
    refine wpAnyH_ready (rs := [14]) (by kernel_rfl) (by simp) ?_
    refine AllReadyH.cons rfl (fun K hK => ?_) AllReadyH.nil
    go_simp
    refine hK.out _ _ ?_ (fun hHeld3 => ?_)
    · exact HK.out _ ⟨_, QS.out⟩
    clear hK K
    refine wpAnyH_done (by kernel_rfl) ?_ _
    all_goals
      have hE := Lib.hid (show MeetQ w _ B G #[.int .i64 a0, .int .i64 a1, .string a2, .slice o1 n1 f1, .slice o2 n2 f2] #[.int .i64 b0, .int .i64 b1, .string b2, .slice o3 n3 f3, .slice o4 n4 f4] #[.int .i64 a0, .int .i64 a1, .string a2, .slice p1 n1 m1, .slice p6 n9 m6] a0 a1 a2 (.slice p1 n1 m1) (.slice p6 n9 m6) l1 n9 ls from QS.out)
      go_wp2_with fail
      refine meets_end _ (B + 2) #[.int .i64 a0, .int .i64 a1, .string a2, .slice p1 n1 m1, .slice p6 n9 m6] rfl _ q _ rfl (by rw [HQ2.out]; rfl) hE.out.1.bz ⟨_, _, rfl, ?_⟩
      have t1 := hE.out.1.sc
      rw [← HN.out.1] at t1
      rw [← HB.out, rowCells_int, ← H9.out]
      exact ⟨⟨t1.mono (Nat.le_add_right B 3), hE.out.2.mono (Nat.le_add_right B 3)⟩, hE.out.1.hb⟩
end Go.Proofs.YtbmknmjcoeinkaaGreat.Mg
