/- The reference's tree of a Reader, walked. Condition: the Reader's own block. -/
import Derived.Test.YtmdchfmcghiaeaaDecode
import Derived.Test.YtmdchfmcghiaeaaRefRd
namespace Go.Proofs.Ytmdchfmcghiaeaa.Obj
open Go.RowKit
open Oct (RRd takeR textR val Moved)
theorem _root_.Go.Proofs.Ytmdchfmcghiaeaa.Oct.RRd.alloc {w : World} {g : Nat} {r : ByteArray} {b : Bool} (h : RRd w g r b) (o : Go.Obj) : RRd (w.alloc o) g r b := by
  obtain ⟨S, a, h, h1⟩ := h
  exact ⟨S, a, h.alloc o, h1⟩
theorem _root_.Go.Proofs.Ytmdchfmcghiaeaa.Oct.RRd.far {w : World} {g : Nat} {r : ByteArray} {b : Bool} (h : RRd w g r b) {p : Addr} (hp : g ≠ p.block) (u : Value) : RRd (w.setCell p u) g r b := by
  obtain ⟨S, a, h, h1⟩ := h
  exact ⟨S, a, h.far hp u, h1⟩
theorem _root_.Go.Proofs.Ytmdchfmcghiaeaa.Oct.RRd.grown {w w' : World} {row : Option Nat} {g : Nat} {r : ByteArray} {b : Bool} (h : RRd w g r b) (hb : w.grownBy w' row) (hg : some g ≠ row) : RRd w' g r b := by
  obtain ⟨S, a, h, h1⟩ := h
  exact ⟨S, a, h.grown hb hg, h1⟩
theorem _root_.Go.Proofs.Ytmdchfmcghiaeaa.Oct.RRd.flag {w : World} {g : Nat} {r : ByteArray} {b : Bool} (h : RRd w g r b) : w.cell? ⟨g, 2, none⟩ = some (.bool b) ∧ w.frozen? ⟨g, 2, none⟩ = false := by
  obtain ⟨S, a, h, h1⟩ := h
  exact ⟨h.cell 2, h.free 2⟩
theorem _root_.Go.Proofs.Ytmdchfmcghiaeaa.Oct.RRd.spoilt {w : World} {g : Nat} {r : ByteArray} {b : Bool} (h : RRd w g r b) : RRd (w.setCell ⟨g, 2, none⟩ (.bool true)) g ⟨#[]⟩ true := by
  obtain ⟨S, a, h, h1, h2, -⟩ := h
  refine ⟨S, a, ?_, h1, h2, rfl⟩
  have := h.put 2 (.bool true)
  simpa using this
/-- What tree leaves: its object's slice, the Reader behind it. -/
def RTreeOut (w w' : World) (g : Nat) (s : ByteArray × Bool) (n : Nat) (v : Value) : Prop :=
  ∃ ao m cap r', v = .slice ao m cap ∧ RRd w' g r' (entsEnd s n).2 ∧ Moved g w w' ∧
    ((entsEnd s n).2 = false → r' = (entsEnd s n).1 ∧ n ≤ 256 ∧ SlIs w' w.heap.size 55 3 v n (ecells (entN s) (entK s) (entI s) n))
set_option maxRecDepth 100000 in
set_option maxHeartbeats 2000000 in
theorem rtree_any (g : Nat) (r : ByteArray) (b : Bool) (w : World) (h : RRd w g r b) :
    Calls Try.prog 51 #[.pointer (some ⟨g, 0, none⟩)] w fun e w' => ∃ v, e = .returned (obj 2 ⟨#[]⟩ v ⟨#[]⟩ (.slice none 0 0) 0 ⟨#[]⟩) ∧ RTreeOut w w' g (takeR r b 4).2 (val (takeR r b 4).1.data.toList) v := by
  have hv := Oct.val_takeR r b
  have hgw := h.lt
  have Hh := Lib.hid h
  have hinfo : (Try.prog.info? 34).map (·.size) = some 7 := by kernel_rfl
  clear h
  have HN := fun W0 (h0 : RRd W0 g r b) => Oct.rrd_num g r b W0 h0
  generalize takeR r b 4 = q at *
  obtain ⟨t, s⟩ := q
  simp only at HN hv ⊢
  generalize val t.data.toList = n at *
  have HN := Lib.hid HN
  go_enter Try.func51, Try.ntmps51
  go_wp2_with fail
  refine two_blocks w 34 _ _ (fun W => Calls Try.prog 79 #[.pointer (some ⟨g, 0, none⟩)] W _) ?_
  intro W0 a0 a1 hb0 hz0
  refine (HN.out W0 (Hh.out.below hb0 hgw)).mono ?_
  rintro e w1 ⟨rfl, h1, hb1⟩
  clear HN
  have a0 := hb1.blk a0 (by omega)
  have a1 := hb1.blk a1 (by omega)
  have hM := (Moved.of_below (g := g) hb0).trans hb1
  have hz1 : w.heap.size + 2 ≤ w1.heap.size := by have := hb1.size; omega
  have hwn : wrap64 (n : Int) = n := Go.IntWalk.wrap64_in _ (by omega)
  have H1 := Lib.hid (And.intro a0 (And.intro a1 (And.intro h1 hM)))
  have Hz := Lib.hid hz1
  have hni : (n : Int) ≤ 9223372036854775807 := by omega
  have Hwn := Lib.hid hwn
  clear a0 a1 h1 hM hb1 hb0 hz0 hz1 hv hwn
  go_wp2_with fail
  go_loopw [5] (fun i wr => ∃ (k : Nat) (v : Value), i = .int .i64 (k : Int) ∧ k ≤ n ∧ k ≤ 257 ∧ BlkIs wr w.heap.size 34 #[.int .i64 0, .string ⟨#[]⟩, .slice none 0 0, .string ⟨#[]⟩, .slice none 0 0, .int .i64 0, .string ⟨#[]⟩] ∧ BlkIs wr (w.heap.size + 1) 34 #[.int .i64 2, .string ⟨#[]⟩, v, .string ⟨#[]⟩, .slice none 0 0, .int .i64 0, .string ⟨#[]⟩] ∧ SlIs wr (w.heap.size + 2) 55 3 v k (ecells (entN s) (entK s) (entI s) k) ∧ RRd wr g (entS s k).1 (entS s k).2 ∧ Moved g w wr) (fun i _ => ((n : Int) - intOf i).toNat)
  case atStart => exact ⟨0, .slice none 0 0, rfl, by omega, by omega, H1.out.1, H1.out.2.1, SlIs.nil_ _ _ _ _, H1.out.2.2.1, H1.out.2.2.2⟩
  case round =>
    obtain ⟨k, v, rfl, hk, hk2, a0, a1, hs, hr, hm⟩ := hrel
    obtain ⟨ao1, cap1, rfl, hnc1, hcm1, hao1⟩ := hs.form
    have hfl := hr.flag
    have d2 := hfl.1
    have df := hfl.2
    have H := Lib.hid (And.intro a0 (And.intro a1 (And.intro hs (And.intro hr hm))))
    have hzw : w.heap.size + 1 < wr.heap.size := a1.lt
    clear a0 a1 hs hr hm hfl
    by_cases hgo : k < n ∧ k < 257 ∧ (entS s k).2 = false
    case neg =>
      have x0 : wr.cell? ⟨w.heap.size + 1, 0, none⟩ = some (.int .i64 2) := H.out.2.1.cell 0
      have x1 : wr.cell? ⟨w.heap.size + 1, 1, none⟩ = some (.string ⟨#[]⟩) := H.out.2.1.cell 1
      have x2 : wr.cell? ⟨w.heap.size + 1, 2, none⟩ = some (.slice ao1 k cap1) := H.out.2.1.cell 2
      have x3 : wr.cell? ⟨w.heap.size + 1, 3, none⟩ = some (.string ⟨#[]⟩) := H.out.2.1.cell 3
      have x4 : wr.cell? ⟨w.heap.size + 1, 4, none⟩ = some (.slice none 0 0) := H.out.2.1.cell 4
      have x5 : wr.cell? ⟨w.heap.size + 1, 5, none⟩ = some (.int .i64 0) := H.out.2.1.cell 5
      have x6 : wr.cell? ⟨w.heap.size + 1, 6, none⟩ = some (.string ⟨#[]⟩) := H.out.2.1.cell 6
      have z0 : wr.cell? ⟨w.heap.size, 0, none⟩ = some (.int .i64 0) := H.out.1.cell 0
      have zf0 := H.out.1.free 0
      have z1 : wr.cell? ⟨w.heap.size, 1, none⟩ = some (.string ⟨#[]⟩) := H.out.1.cell 1
      have zf1 := H.out.1.free 1
      have z2 : wr.cell? ⟨w.heap.size, 2, none⟩ = some (.slice none 0 0) := H.out.1.cell 2
      have zf2 := H.out.1.free 2
      have z3 : wr.cell? ⟨w.heap.size, 3, none⟩ = some (.string ⟨#[]⟩) := H.out.1.cell 3
      have zf3 := H.out.1.free 3
      have z4 : wr.cell? ⟨w.heap.size, 4, none⟩ = some (.slice none 0 0) := H.out.1.cell 4
      have zf4 := H.out.1.free 4
      have z5 : wr.cell? ⟨w.heap.size, 5, none⟩ = some (.int .i64 0) := H.out.1.cell 5
      have zf5 := H.out.1.free 5
      have z6 : wr.cell? ⟨w.heap.size, 6, none⟩ = some (.string ⟨#[]⟩) := H.out.1.cell 6
      have zf6 := H.out.1.free 6
      have hgr := H.out.2.2.2.1.lt
      by_cases h256 : 256 < n
      · have hE : entsEnd s n = (⟨#[]⟩, true) := if_pos h256
        have hi : 256 < (n : Int) := by omega
        have HE := Lib.hid hE
        have hout : k < n → k < 257 → (entS s k).2 = true := fun h1 h2 => by
          cases hx : (entS s k).2
          · exact absurd ⟨h1, h2, hx⟩ hgo
          · rfl
        have h3 : n ≤ k ∨ (k < n ∧ 257 ≤ k) ∨ (k < n ∧ k < 257 ∧ (entS s k).2 = true) := by
          rcases Nat.lt_or_ge k n with h1 | h1
          · rcases Nat.lt_or_ge k 257 with h2 | h2
            · exact Or.inr (Or.inr ⟨h1, h2, hout h1 h2⟩)
            · exact Or.inr (Or.inl ⟨h1, h2⟩)
          · exact Or.inl h1
        clear hout hgo hE h256
        rcases h3 with h1 | ⟨h1, h2⟩ | ⟨h1, h2, hbk⟩
        · have q1 : decide ((k : Int) < n) = false := decide_eq_false (by omega)
          go_wp2_with fail
          have k8 := ((((((((H.out.1.far (p := ⟨g, 2, none⟩) (by show w.heap.size ≠ g; omega) (.bool true)).put 0 (.int .i64 2)).put 1 (.string ⟨#[]⟩)).put 2 (.slice ao1 k cap1)).put 3 (.string ⟨#[]⟩)).put 4 (.slice none 0 0)).put 5 (.int .i64 0)).put 6 (.string ⟨#[]⟩))
          simp only [List.setIfInBounds_toArray, List.set_cons_succ, List.set_cons_zero] at k8
          have M8 := ((((((((Moved.refl w.heap.size (wr.setCell ⟨g, 2, none⟩ (.bool true))).setCell (p := ⟨w.heap.size, 0, none⟩) rfl (.int .i64 2)).setCell (p := ⟨w.heap.size, 1, none⟩) rfl (.string ⟨#[]⟩)).setCell (p := ⟨w.heap.size, 2, none⟩) rfl (.slice ao1 k cap1)).setCell (p := ⟨w.heap.size, 3, none⟩) rfl (.string ⟨#[]⟩)).setCell (p := ⟨w.heap.size, 4, none⟩) rfl (.slice none 0 0)).setCell (p := ⟨w.heap.size, 5, none⟩) rfl (.int .i64 0)).setCell (p := ⟨w.heap.size, 6, none⟩) rfl (.string ⟨#[]⟩))
          have R8 := (((((((H.out.2.2.2.1.spoilt.far (p := ⟨w.heap.size, 0, none⟩) (by show g ≠ w.heap.size; omega) (.int .i64 2)).far (p := ⟨w.heap.size, 1, none⟩) (by show g ≠ w.heap.size; omega) (.string ⟨#[]⟩)).far (p := ⟨w.heap.size, 2, none⟩) (by show g ≠ w.heap.size; omega) (.slice ao1 k cap1)).far (p := ⟨w.heap.size, 3, none⟩) (by show g ≠ w.heap.size; omega) (.string ⟨#[]⟩)).far (p := ⟨w.heap.size, 4, none⟩) (by show g ≠ w.heap.size; omega) (.slice none 0 0)).far (p := ⟨w.heap.size, 5, none⟩) (by show g ≠ w.heap.size; omega) (.int .i64 0)).far (p := ⟨w.heap.size, 6, none⟩) (by show g ≠ w.heap.size; omega) (.string ⟨#[]⟩))
          have F8 := ((((((((H.out.2.2.2.2.setCell (p := ⟨g, 2, none⟩) rfl (.bool true)).fresh (p := ⟨w.heap.size, 0, none⟩) (Nat.le_refl _) (.int .i64 2)).fresh (p := ⟨w.heap.size, 1, none⟩) (Nat.le_refl _) (.string ⟨#[]⟩)).fresh (p := ⟨w.heap.size, 2, none⟩) (Nat.le_refl _) (.slice ao1 k cap1)).fresh (p := ⟨w.heap.size, 3, none⟩) (Nat.le_refl _) (.string ⟨#[]⟩)).fresh (p := ⟨w.heap.size, 4, none⟩) (Nat.le_refl _) (.slice none 0 0)).fresh (p := ⟨w.heap.size, 5, none⟩) (Nat.le_refl _) (.int .i64 0)).fresh (p := ⟨w.heap.size, 6, none⟩) (Nat.le_refl _) (.string ⟨#[]⟩))
          refine bodyPost_ret (results_cell_row rfl _ _ w.heap.size 34 #[.int .i64 2, .string ⟨#[]⟩, .slice ao1 k cap1, .string ⟨#[]⟩, .slice none 0 0, .int .i64 0, .string ⟨#[]⟩] (0, 0) _ rfl k8 Try.underlying34 rfl hinfo) rfl ?_
          exact ⟨_, rfl, ao1, k, cap1, ⟨#[]⟩, rfl, by rw [HE.out]; exact R8, F8, fun hf => by rw [HE.out] at hf; cases hf⟩
        · have ki : (k : Int) < n := by omega
          have q2 : decide ((k : Int) < 257) = false := decide_eq_false (by omega)
          go_wp2_with fail
          have k8 := ((((((((H.out.1.far (p := ⟨g, 2, none⟩) (by show w.heap.size ≠ g; omega) (.bool true)).put 0 (.int .i64 2)).put 1 (.string ⟨#[]⟩)).put 2 (.slice ao1 k cap1)).put 3 (.string ⟨#[]⟩)).put 4 (.slice none 0 0)).put 5 (.int .i64 0)).put 6 (.string ⟨#[]⟩))
          simp only [List.setIfInBounds_toArray, List.set_cons_succ, List.set_cons_zero] at k8
          have M8 := ((((((((Moved.refl w.heap.size (wr.setCell ⟨g, 2, none⟩ (.bool true))).setCell (p := ⟨w.heap.size, 0, none⟩) rfl (.int .i64 2)).setCell (p := ⟨w.heap.size, 1, none⟩) rfl (.string ⟨#[]⟩)).setCell (p := ⟨w.heap.size, 2, none⟩) rfl (.slice ao1 k cap1)).setCell (p := ⟨w.heap.size, 3, none⟩) rfl (.string ⟨#[]⟩)).setCell (p := ⟨w.heap.size, 4, none⟩) rfl (.slice none 0 0)).setCell (p := ⟨w.heap.size, 5, none⟩) rfl (.int .i64 0)).setCell (p := ⟨w.heap.size, 6, none⟩) rfl (.string ⟨#[]⟩))
          have R8 := (((((((H.out.2.2.2.1.spoilt.far (p := ⟨w.heap.size, 0, none⟩) (by show g ≠ w.heap.size; omega) (.int .i64 2)).far (p := ⟨w.heap.size, 1, none⟩) (by show g ≠ w.heap.size; omega) (.string ⟨#[]⟩)).far (p := ⟨w.heap.size, 2, none⟩) (by show g ≠ w.heap.size; omega) (.slice ao1 k cap1)).far (p := ⟨w.heap.size, 3, none⟩) (by show g ≠ w.heap.size; omega) (.string ⟨#[]⟩)).far (p := ⟨w.heap.size, 4, none⟩) (by show g ≠ w.heap.size; omega) (.slice none 0 0)).far (p := ⟨w.heap.size, 5, none⟩) (by show g ≠ w.heap.size; omega) (.int .i64 0)).far (p := ⟨w.heap.size, 6, none⟩) (by show g ≠ w.heap.size; omega) (.string ⟨#[]⟩))
          have F8 := ((((((((H.out.2.2.2.2.setCell (p := ⟨g, 2, none⟩) rfl (.bool true)).fresh (p := ⟨w.heap.size, 0, none⟩) (Nat.le_refl _) (.int .i64 2)).fresh (p := ⟨w.heap.size, 1, none⟩) (Nat.le_refl _) (.string ⟨#[]⟩)).fresh (p := ⟨w.heap.size, 2, none⟩) (Nat.le_refl _) (.slice ao1 k cap1)).fresh (p := ⟨w.heap.size, 3, none⟩) (Nat.le_refl _) (.string ⟨#[]⟩)).fresh (p := ⟨w.heap.size, 4, none⟩) (Nat.le_refl _) (.slice none 0 0)).fresh (p := ⟨w.heap.size, 5, none⟩) (Nat.le_refl _) (.int .i64 0)).fresh (p := ⟨w.heap.size, 6, none⟩) (Nat.le_refl _) (.string ⟨#[]⟩))
          refine bodyPost_ret (results_cell_row rfl _ _ w.heap.size 34 #[.int .i64 2, .string ⟨#[]⟩, .slice ao1 k cap1, .string ⟨#[]⟩, .slice none 0 0, .int .i64 0, .string ⟨#[]⟩] (0, 0) _ rfl k8 Try.underlying34 rfl hinfo) rfl ?_
          exact ⟨_, rfl, ao1, k, cap1, ⟨#[]⟩, rfl, by rw [HE.out]; exact R8, F8, fun hf => by rw [HE.out] at hf; cases hf⟩
        · have ki : (k : Int) < n := by omega
          have k7 : (k : Int) < 257 := by omega
          rw [hbk] at d2
          go_wp2_with fail
          have k8 := ((((((((H.out.1.far (p := ⟨g, 2, none⟩) (by show w.heap.size ≠ g; omega) (.bool true)).put 0 (.int .i64 2)).put 1 (.string ⟨#[]⟩)).put 2 (.slice ao1 k cap1)).put 3 (.string ⟨#[]⟩)).put 4 (.slice none 0 0)).put 5 (.int .i64 0)).put 6 (.string ⟨#[]⟩))
          simp only [List.setIfInBounds_toArray, List.set_cons_succ, List.set_cons_zero] at k8
          have M8 := ((((((((Moved.refl w.heap.size (wr.setCell ⟨g, 2, none⟩ (.bool true))).setCell (p := ⟨w.heap.size, 0, none⟩) rfl (.int .i64 2)).setCell (p := ⟨w.heap.size, 1, none⟩) rfl (.string ⟨#[]⟩)).setCell (p := ⟨w.heap.size, 2, none⟩) rfl (.slice ao1 k cap1)).setCell (p := ⟨w.heap.size, 3, none⟩) rfl (.string ⟨#[]⟩)).setCell (p := ⟨w.heap.size, 4, none⟩) rfl (.slice none 0 0)).setCell (p := ⟨w.heap.size, 5, none⟩) rfl (.int .i64 0)).setCell (p := ⟨w.heap.size, 6, none⟩) rfl (.string ⟨#[]⟩))
          have R8 := (((((((H.out.2.2.2.1.spoilt.far (p := ⟨w.heap.size, 0, none⟩) (by show g ≠ w.heap.size; omega) (.int .i64 2)).far (p := ⟨w.heap.size, 1, none⟩) (by show g ≠ w.heap.size; omega) (.string ⟨#[]⟩)).far (p := ⟨w.heap.size, 2, none⟩) (by show g ≠ w.heap.size; omega) (.slice ao1 k cap1)).far (p := ⟨w.heap.size, 3, none⟩) (by show g ≠ w.heap.size; omega) (.string ⟨#[]⟩)).far (p := ⟨w.heap.size, 4, none⟩) (by show g ≠ w.heap.size; omega) (.slice none 0 0)).far (p := ⟨w.heap.size, 5, none⟩) (by show g ≠ w.heap.size; omega) (.int .i64 0)).far (p := ⟨w.heap.size, 6, none⟩) (by show g ≠ w.heap.size; omega) (.string ⟨#[]⟩))
          have F8 := ((((((((H.out.2.2.2.2.setCell (p := ⟨g, 2, none⟩) rfl (.bool true)).fresh (p := ⟨w.heap.size, 0, none⟩) (Nat.le_refl _) (.int .i64 2)).fresh (p := ⟨w.heap.size, 1, none⟩) (Nat.le_refl _) (.string ⟨#[]⟩)).fresh (p := ⟨w.heap.size, 2, none⟩) (Nat.le_refl _) (.slice ao1 k cap1)).fresh (p := ⟨w.heap.size, 3, none⟩) (Nat.le_refl _) (.string ⟨#[]⟩)).fresh (p := ⟨w.heap.size, 4, none⟩) (Nat.le_refl _) (.slice none 0 0)).fresh (p := ⟨w.heap.size, 5, none⟩) (Nat.le_refl _) (.int .i64 0)).fresh (p := ⟨w.heap.size, 6, none⟩) (Nat.le_refl _) (.string ⟨#[]⟩))
          refine bodyPost_ret (results_cell_row rfl _ _ w.heap.size 34 #[.int .i64 2, .string ⟨#[]⟩, .slice ao1 k cap1, .string ⟨#[]⟩, .slice none 0 0, .int .i64 0, .string ⟨#[]⟩] (0, 0) _ rfl k8 Try.underlying34 rfl hinfo) rfl ?_
          exact ⟨_, rfl, ao1, k, cap1, ⟨#[]⟩, rfl, by rw [HE.out]; exact R8, F8, fun hf => by rw [HE.out] at hf; cases hf⟩
      · have hE : entsEnd s n = entS s n := if_neg h256
        have hn : n ≤ 256 := by omega
        have hi : decide (256 < (n : Int)) = false := decide_eq_false (by omega)
        have HE := Lib.hid hE
        clear hE h256
        rcases Nat.lt_or_ge k n with h1 | h1
        · have hbk : (entS s k).2 = true := by
            cases hx : (entS s k).2
            · exact absurd ⟨h1, by omega, hx⟩ hgo
            · rfl
          have hbn := entS_bad s k hbk (n - k)
          rw [show k + (n - k) = n by omega] at hbn
          have Hbn := Lib.hid (And.intro hbk hbn)
          have ki : (k : Int) < n := by omega
          have k7 : (k : Int) < 257 := by omega
          rw [hbk] at d2
          clear hgo hbk hbn
          go_wp2_with fail
          have k8 := (((((((H.out.1.put 0 (.int .i64 2)).put 1 (.string ⟨#[]⟩)).put 2 (.slice ao1 k cap1)).put 3 (.string ⟨#[]⟩)).put 4 (.slice none 0 0)).put 5 (.int .i64 0)).put 6 (.string ⟨#[]⟩))
          simp only [List.setIfInBounds_toArray, List.set_cons_succ, List.set_cons_zero] at k8
          have M8 := ((((((((Moved.refl w.heap.size wr).setCell (p := ⟨w.heap.size, 0, none⟩) rfl (.int .i64 2)).setCell (p := ⟨w.heap.size, 1, none⟩) rfl (.string ⟨#[]⟩)).setCell (p := ⟨w.heap.size, 2, none⟩) rfl (.slice ao1 k cap1)).setCell (p := ⟨w.heap.size, 3, none⟩) rfl (.string ⟨#[]⟩)).setCell (p := ⟨w.heap.size, 4, none⟩) rfl (.slice none 0 0)).setCell (p := ⟨w.heap.size, 5, none⟩) rfl (.int .i64 0)).setCell (p := ⟨w.heap.size, 6, none⟩) rfl (.string ⟨#[]⟩))
          have R8 := (((((((H.out.2.2.2.1.far (p := ⟨w.heap.size, 0, none⟩) (by show g ≠ w.heap.size; omega) (.int .i64 2)).far (p := ⟨w.heap.size, 1, none⟩) (by show g ≠ w.heap.size; omega) (.string ⟨#[]⟩)).far (p := ⟨w.heap.size, 2, none⟩) (by show g ≠ w.heap.size; omega) (.slice ao1 k cap1)).far (p := ⟨w.heap.size, 3, none⟩) (by show g ≠ w.heap.size; omega) (.string ⟨#[]⟩)).far (p := ⟨w.heap.size, 4, none⟩) (by show g ≠ w.heap.size; omega) (.slice none 0 0)).far (p := ⟨w.heap.size, 5, none⟩) (by show g ≠ w.heap.size; omega) (.int .i64 0)).far (p := ⟨w.heap.size, 6, none⟩) (by show g ≠ w.heap.size; omega) (.string ⟨#[]⟩))
          have F8 := (((((((H.out.2.2.2.2.fresh (p := ⟨w.heap.size, 0, none⟩) (Nat.le_refl _) (.int .i64 2)).fresh (p := ⟨w.heap.size, 1, none⟩) (Nat.le_refl _) (.string ⟨#[]⟩)).fresh (p := ⟨w.heap.size, 2, none⟩) (Nat.le_refl _) (.slice ao1 k cap1)).fresh (p := ⟨w.heap.size, 3, none⟩) (Nat.le_refl _) (.string ⟨#[]⟩)).fresh (p := ⟨w.heap.size, 4, none⟩) (Nat.le_refl _) (.slice none 0 0)).fresh (p := ⟨w.heap.size, 5, none⟩) (Nat.le_refl _) (.int .i64 0)).fresh (p := ⟨w.heap.size, 6, none⟩) (Nat.le_refl _) (.string ⟨#[]⟩))
          refine bodyPost_ret (results_cell_row rfl _ _ w.heap.size 34 #[.int .i64 2, .string ⟨#[]⟩, .slice ao1 k cap1, .string ⟨#[]⟩, .slice none 0 0, .int .i64 0, .string ⟨#[]⟩] (0, 0) _ rfl k8 Try.underlying34 rfl hinfo) rfl ?_
          refine ⟨_, rfl, ao1, k, cap1, (entS s k).1, rfl, ?_, F8, fun hf => ?_⟩
          · rw [HE.out, Hbn.out.2, ← Hbn.out.1]; exact R8
          · rw [HE.out, Hbn.out.2] at hf; cases hf
        · obtain rfl : k = n := by omega
          have q1 : decide ((k : Int) < k) = false := decide_eq_false (by omega)
          clear hgo
          go_wp2_with fail
          have k8 := (((((((H.out.1.put 0 (.int .i64 2)).put 1 (.string ⟨#[]⟩)).put 2 (.slice ao1 k cap1)).put 3 (.string ⟨#[]⟩)).put 4 (.slice none 0 0)).put 5 (.int .i64 0)).put 6 (.string ⟨#[]⟩))
          simp only [List.setIfInBounds_toArray, List.set_cons_succ, List.set_cons_zero] at k8
          have M8 := ((((((((Moved.refl w.heap.size wr).setCell (p := ⟨w.heap.size, 0, none⟩) rfl (.int .i64 2)).setCell (p := ⟨w.heap.size, 1, none⟩) rfl (.string ⟨#[]⟩)).setCell (p := ⟨w.heap.size, 2, none⟩) rfl (.slice ao1 k cap1)).setCell (p := ⟨w.heap.size, 3, none⟩) rfl (.string ⟨#[]⟩)).setCell (p := ⟨w.heap.size, 4, none⟩) rfl (.slice none 0 0)).setCell (p := ⟨w.heap.size, 5, none⟩) rfl (.int .i64 0)).setCell (p := ⟨w.heap.size, 6, none⟩) rfl (.string ⟨#[]⟩))
          have R8 := (((((((H.out.2.2.2.1.far (p := ⟨w.heap.size, 0, none⟩) (by show g ≠ w.heap.size; omega) (.int .i64 2)).far (p := ⟨w.heap.size, 1, none⟩) (by show g ≠ w.heap.size; omega) (.string ⟨#[]⟩)).far (p := ⟨w.heap.size, 2, none⟩) (by show g ≠ w.heap.size; omega) (.slice ao1 k cap1)).far (p := ⟨w.heap.size, 3, none⟩) (by show g ≠ w.heap.size; omega) (.string ⟨#[]⟩)).far (p := ⟨w.heap.size, 4, none⟩) (by show g ≠ w.heap.size; omega) (.slice none 0 0)).far (p := ⟨w.heap.size, 5, none⟩) (by show g ≠ w.heap.size; omega) (.int .i64 0)).far (p := ⟨w.heap.size, 6, none⟩) (by show g ≠ w.heap.size; omega) (.string ⟨#[]⟩))
          have F8 := (((((((H.out.2.2.2.2.fresh (p := ⟨w.heap.size, 0, none⟩) (Nat.le_refl _) (.int .i64 2)).fresh (p := ⟨w.heap.size, 1, none⟩) (Nat.le_refl _) (.string ⟨#[]⟩)).fresh (p := ⟨w.heap.size, 2, none⟩) (Nat.le_refl _) (.slice ao1 k cap1)).fresh (p := ⟨w.heap.size, 3, none⟩) (Nat.le_refl _) (.string ⟨#[]⟩)).fresh (p := ⟨w.heap.size, 4, none⟩) (Nat.le_refl _) (.slice none 0 0)).fresh (p := ⟨w.heap.size, 5, none⟩) (Nat.le_refl _) (.int .i64 0)).fresh (p := ⟨w.heap.size, 6, none⟩) (Nat.le_refl _) (.string ⟨#[]⟩))
          refine bodyPost_ret (results_cell_row rfl _ _ w.heap.size 34 #[.int .i64 2, .string ⟨#[]⟩, .slice ao1 k cap1, .string ⟨#[]⟩, .slice none 0 0, .int .i64 0, .string ⟨#[]⟩] (0, 0) _ rfl k8 Try.underlying34 rfl hinfo) rfl ?_
          exact ⟨_, rfl, ao1, k, cap1, (entS s k).1, rfl, by rw [HE.out]; exact R8, F8, fun hf => ⟨by rw [HE.out], hn, (M8.sl H.out.2.2.1 (by omega)).mono (by omega)⟩⟩
    case pos =>
      obtain ⟨hk1, hk7, hbk⟩ := hgo
      have ki : (k : Int) < n := by omega
      have k7 : (k : Int) < 257 := by omega
      rw [hbk] at d2
      go_wp2_with fail
      have hbw := H.out.2.2.2.2.size
      have hown : Value.ownBlock (.slice ao1 k cap1) ≠ some wr.heap.size := fun hh => by have := (H.out.2.2.1.lt _ hh).2; omega
      have hgr := H.out.2.2.2.1.lt
      have he0 := BlkIs.new wr 55 #[.string ⟨#[]⟩, .int .i64 0, .string ⟨#[]⟩]
      have P := Lib.hid (And.intro (H.out.1.alloc (.cells #[.string ⟨#[]⟩, .int .i64 0, .string ⟨#[]⟩] 55)) (And.intro (H.out.2.1.alloc (.cells #[.string ⟨#[]⟩, .int .i64 0, .string ⟨#[]⟩] 55)) (And.intro (H.out.2.2.1.alloc (.cells #[.string ⟨#[]⟩, .int .i64 0, .string ⟨#[]⟩] 55)) (And.intro (H.out.2.2.2.2.alloc (.cells #[.string ⟨#[]⟩, .int .i64 0, .string ⟨#[]⟩] 55)) he0))))
      have r0 := H.out.2.2.2.1.alloc (.cells #[.string ⟨#[]⟩, .int .i64 0, .string ⟨#[]⟩] 55)
      refine (Oct.rrd_take g _ _ 1 _ r0 (by decide)).mono ?_
      rintro e w4 ⟨rfl, hR, hm4⟩
      have a0 := hm4.blk P.out.1 (by omega)
      have a1 := hm4.blk P.out.2.1 (by omega)
      have hs := hm4.sl P.out.2.2.1 (by omega)
      have hM := P.out.2.2.2.1.trans hm4
      have he := hm4.blk P.out.2.2.2.2 (by omega)
      change RRd w4 g (takeK (entS s k)).2.1 (takeK (entS s k)).2.2 at hR
      have hkk : entK s k = kindOf (takeK (entS s k)).1 := rfl
      have hcase := takeR1_cases (entS s k).1 (entS s k).2
      change (takeK (entS s k)).1 = _ ∨ ∃ x, (takeK (entS s k)).1 = _ at hcase
      rw [show takeR (entS s k).1 (entS s k).2 1 = takeK (entS s k) from rfl]
      have c4 : w4.cell? ⟨wr.heap.size, 1, none⟩ = some (.int .i64 0) := he.cell 1
      have f4 := he.free 1
      have H4 := Lib.hid (And.intro a0 (And.intro a1 (And.intro hs (And.intro hM (And.intro he hR)))))
      clear a0 a1 hs hM he hR
      have Hkk := Lib.hid hkk
      clear he0 r0 hm4 hkk d2 df P
      generalize (takeK (entS s k)).1 = tk at *
      rcases hcase with rfl | ⟨x, rfl⟩
      · have hkz : entK s k = 0 := Hkk.out
        go_wp2_with fail
        refine (Oct.rrd_text g _ _ 255 _ H4.out.2.2.2.2.2).mono ?_
        rintro e w6 ⟨rfl, hR, hm6⟩
        change RRd w6 g (takeN (entS s k)).2.1 (takeN (entS s k)).2.2 at hR
        rw [show textR (takeK (entS s k)).2.1 (takeK (entS s k)).2.2 255 = takeN (entS s k) from rfl, show (takeN (entS s k)).1 = entN s k from rfl]
        have a0 := hm6.blk H4.out.1 (by omega)
        have a1 := hm6.blk H4.out.2.1 (by omega)
        have hs := hm6.sl H4.out.2.2.1 (by omega)
        have hM := H4.out.2.2.2.1.trans hm6
        have he := hm6.blk H4.out.2.2.2.2.1 (by omega)
        have c60 : w6.cell? ⟨wr.heap.size, 0, none⟩ = some (.string ⟨#[]⟩) := he.cell 0
        have fe := he.free 0
        have a0 := a0.far (p := ⟨wr.heap.size, 0, none⟩) (by show w.heap.size ≠ wr.heap.size; omega) (.string (entN s k))
        have a1 := a1.far (p := ⟨wr.heap.size, 0, none⟩) (by show w.heap.size + 1 ≠ wr.heap.size; omega) (.string (entN s k))
        have hs := hs.far (p := ⟨wr.heap.size, 0, none⟩) hown (.string (entN s k))
        have hM := hM.fresh (p := ⟨wr.heap.size, 0, none⟩) hbw (.string (entN s k))
        have hR := hR.far (p := ⟨wr.heap.size, 0, none⟩) (by show g ≠ wr.heap.size; omega) (.string (entN s k))
        have he := he.put 0 (.string (entN s k))
        simp only [List.setIfInBounds_toArray, List.set_cons_zero] at he
        have H7 := Lib.hid (And.intro a0 (And.intro a1 (And.intro hs (And.intro hM (And.intro he hR)))))
        clear a0 a1 hs hM he hR
        clear hm6
        go_wp2_with fail
        clear c60 fe
        refine (Oct.rrd_take g _ _ 32 _ H7.out.2.2.2.2.2 (by decide)).mono ?_
        rintro e w8 ⟨rfl, hR, hm8⟩
        change RRd w8 g (entS s (k + 1)).1 (entS s (k + 1)).2 at hR
        rw [show (takeR (takeN (entS s k)).2.1 (takeN (entS s k)).2.2 32).1 = entI s k from rfl]
        have a0 := hm8.blk H7.out.1 (by omega)
        have a1 := hm8.blk H7.out.2.1 (by omega)
        have hs := hm8.sl H7.out.2.2.1 (by omega)
        have hM := H7.out.2.2.2.1.trans hm8
        have he := hm8.blk H7.out.2.2.2.2.1 (by omega)
        have c80 : w8.cell? ⟨wr.heap.size, 0, none⟩ = some (.string (entN s k)) := he.cell 0
        have c81 : w8.cell? ⟨wr.heap.size, 1, none⟩ = some (.int .i64 0) := he.cell 1
        have c82 : w8.cell? ⟨wr.heap.size, 2, none⟩ = some (.string ⟨#[]⟩) := he.cell 2
        have x82 : w8.cell? ⟨w.heap.size + 1, 2, none⟩ = some (.slice ao1 k cap1) := a1.cell 2
        have x8f := a1.free 2
        have hz8 := he.lt
        have fe := he.free 2
        have a0 := a0.far (p := ⟨wr.heap.size, 2, none⟩) (by show w.heap.size ≠ wr.heap.size; omega) (.string (entI s k))
        have a1 := a1.far (p := ⟨wr.heap.size, 2, none⟩) (by show w.heap.size + 1 ≠ wr.heap.size; omega) (.string (entI s k))
        have hs := hs.far (p := ⟨wr.heap.size, 2, none⟩) hown (.string (entI s k))
        have hM := hM.fresh (p := ⟨wr.heap.size, 2, none⟩) hbw (.string (entI s k))
        have hR := hR.far (p := ⟨wr.heap.size, 2, none⟩) (by show g ≠ wr.heap.size; omega) (.string (entI s k))
        have he := he.put 2 (.string (entI s k))
        simp only [List.setIfInBounds_toArray, List.set_cons_succ, List.set_cons_zero] at he
        have H9 := Lib.hid (And.intro a0 (And.intro a1 (And.intro hs (And.intro hM (And.intro he hR)))))
        clear a0 a1 hs hM he hR
        clear hm8
        have hrow : ∀ j, Value.ownBlock (.slice ao1 k cap1) = some j → w.heap.size + 2 ≤ j := fun j hj => (H.out.2.2.1.lt j hj).1
        go_wp2_with (first
          | (at_builtin
             refine wpList_append_sl rfl _ _ _ 32 rfl el_ent (.slice ao1 k cap1) k (ecells (entN s) (entK s) (entI s) k) rfl (H9.out.2.2.1.alloc _) _ 1 [.string (entN s k), .int .i64 0, .string (entI s k)] rfl (SrcIs.own Try.underlying32 (SlIs.made (base := 0) (BlkIs.newAt (by simp) _ _) (Nat.zero_le _) rfl (by decide))) (by intro u hu; simp at hu; rcases hu with rfl | rfl | rfl <;> rfl) (by unfold maxLen; omega) (by omega) (by simp only [World.size_alloc, World.size_setCell]; omega) ?_
             intro v1 w10 hs10 hg10 hat10
             have x10 := BlkIs.grown (H9.out.2.1.alloc (.cells #[.string (entN s k), .int .i64 0, .string (entI s k)] 55)) hg10 (fun hh => by have := hrow _ hh.symm; omega)
             obtain ⟨ao2, cap2, rfl, hnc2, hcm2, hao2⟩ := hs10.form
             have x102 : w10.cell? ⟨w.heap.size + 1, 2, none⟩ = some (.slice ao1 k cap1) := x10.cell 2
             have x10f := x10.free 2
             have H10 := Lib.hid (And.intro hs10 (And.intro hg10 x10))
             clear hs10 hg10 hat10 hao2 x10))
        have y0 := (BlkIs.grown (H9.out.1.alloc (.cells #[.string (entN s k), .int .i64 0, .string (entI s k)] 55)) H10.out.2.1 (fun hh => by have := hrow _ hh.symm; omega)).far (p := ⟨w.heap.size + 1, 2, none⟩) (by simp) (.slice ao2 (k + 1) cap2)
        have y1 := H10.out.2.2.put 2 (.slice ao2 (k + 1) cap2)
        simp only [List.setIfInBounds_toArray, List.set_cons_succ, List.set_cons_zero] at y1
        refine ⟨⟨k + 1, .slice ao2 (k + 1) cap2, rfl, hk1, by omega, y0, y1, ?_, ?_, ?_⟩, ?_⟩
        · rw [ecells, hkz]; exact H10.out.1.farB (by show w.heap.size + 1 < w.heap.size + 2; omega) _
        · exact ((H9.out.2.2.2.2.2.alloc _).grown H10.out.2.1 (fun hh => by have := hrow _ hh.symm; omega)).far (by show g ≠ w.heap.size + 1; omega) _
        · exact ((H9.out.2.2.2.1.alloc _).row H10.out.2.1 (fun j hj => by have := hrow j hj; omega)).fresh (by show w.heap.size ≤ w.heap.size + 1; omega) _
        · simp [intOf]; omega
      · have hxw : wrap64 (((ByteArray.mk #[x])[0]'(Nat.zero_lt_one)).toNat : Int) = (x.toNat : Int) := by
          have hx1 : ((ByteArray.mk #[x])[0]'(Nat.zero_lt_one)) = x := rfl
          have hx2 := x.toNat_lt
          rw [hx1]
          exact Go.IntWalk.wrap64_in _ (by omega)
        have hkz : entK s k = (x.toNat : Int) := Hkk.out
        obtain ⟨a0, a1, hs, hM, he, hR⟩ := H4.out
        have fe := he.free 1
        have a0 := a0.far (p := ⟨wr.heap.size, 1, none⟩) (by show w.heap.size ≠ wr.heap.size; omega) (.int .i64 (x.toNat : Int))
        have a1 := a1.far (p := ⟨wr.heap.size, 1, none⟩) (by show w.heap.size + 1 ≠ wr.heap.size; omega) (.int .i64 (x.toNat : Int))
        have hs := hs.far (p := ⟨wr.heap.size, 1, none⟩) hown (.int .i64 (x.toNat : Int))
        have hM := hM.fresh (p := ⟨wr.heap.size, 1, none⟩) hbw (.int .i64 (x.toNat : Int))
        have hR := hR.far (p := ⟨wr.heap.size, 1, none⟩) (by show g ≠ wr.heap.size; omega) (.int .i64 (x.toNat : Int))
        have he := he.put 1 (.int .i64 (x.toNat : Int))
        simp only [List.setIfInBounds_toArray, List.set_cons_succ, List.set_cons_zero] at he
        have H5 := Lib.hid (And.intro a0 (And.intro a1 (And.intro hs (And.intro hM (And.intro he hR)))))
        clear a0 a1 hs hM he hR
        clear H4
        go_wp2_with fail
        rw [hxw]
        refine (Oct.rrd_text g _ _ 255 _ H5.out.2.2.2.2.2).mono ?_
        rintro e w6 ⟨rfl, hR, hm6⟩
        change RRd w6 g (takeN (entS s k)).2.1 (takeN (entS s k)).2.2 at hR
        rw [show textR (takeK (entS s k)).2.1 (takeK (entS s k)).2.2 255 = takeN (entS s k) from rfl, show (takeN (entS s k)).1 = entN s k from rfl]
        have a0 := hm6.blk H5.out.1 (by omega)
        have a1 := hm6.blk H5.out.2.1 (by omega)
        have hs := hm6.sl H5.out.2.2.1 (by omega)
        have hM := H5.out.2.2.2.1.trans hm6
        have he := hm6.blk H5.out.2.2.2.2.1 (by omega)
        have c60 : w6.cell? ⟨wr.heap.size, 0, none⟩ = some (.string ⟨#[]⟩) := he.cell 0
        have fe := he.free 0
        have a0 := a0.far (p := ⟨wr.heap.size, 0, none⟩) (by show w.heap.size ≠ wr.heap.size; omega) (.string (entN s k))
        have a1 := a1.far (p := ⟨wr.heap.size, 0, none⟩) (by show w.heap.size + 1 ≠ wr.heap.size; omega) (.string (entN s k))
        have hs := hs.far (p := ⟨wr.heap.size, 0, none⟩) hown (.string (entN s k))
        have hM := hM.fresh (p := ⟨wr.heap.size, 0, none⟩) hbw (.string (entN s k))
        have hR := hR.far (p := ⟨wr.heap.size, 0, none⟩) (by show g ≠ wr.heap.size; omega) (.string (entN s k))
        have he := he.put 0 (.string (entN s k))
        simp only [List.setIfInBounds_toArray, List.set_cons_zero] at he
        have H7 := Lib.hid (And.intro a0 (And.intro a1 (And.intro hs (And.intro hM (And.intro he hR)))))
        clear a0 a1 hs hM he hR
        clear hm6
        go_wp2_with fail
        clear c60 fe
        refine (Oct.rrd_take g _ _ 32 _ H7.out.2.2.2.2.2 (by decide)).mono ?_
        rintro e w8 ⟨rfl, hR, hm8⟩
        change RRd w8 g (entS s (k + 1)).1 (entS s (k + 1)).2 at hR
        rw [show (takeR (takeN (entS s k)).2.1 (takeN (entS s k)).2.2 32).1 = entI s k from rfl]
        have a0 := hm8.blk H7.out.1 (by omega)
        have a1 := hm8.blk H7.out.2.1 (by omega)
        have hs := hm8.sl H7.out.2.2.1 (by omega)
        have hM := H7.out.2.2.2.1.trans hm8
        have he := hm8.blk H7.out.2.2.2.2.1 (by omega)
        have c80 : w8.cell? ⟨wr.heap.size, 0, none⟩ = some (.string (entN s k)) := he.cell 0
        have c81 : w8.cell? ⟨wr.heap.size, 1, none⟩ = some (.int .i64 (x.toNat : Int)) := he.cell 1
        have c82 : w8.cell? ⟨wr.heap.size, 2, none⟩ = some (.string ⟨#[]⟩) := he.cell 2
        have x82 : w8.cell? ⟨w.heap.size + 1, 2, none⟩ = some (.slice ao1 k cap1) := a1.cell 2
        have x8f := a1.free 2
        have hz8 := he.lt
        have fe := he.free 2
        have a0 := a0.far (p := ⟨wr.heap.size, 2, none⟩) (by show w.heap.size ≠ wr.heap.size; omega) (.string (entI s k))
        have a1 := a1.far (p := ⟨wr.heap.size, 2, none⟩) (by show w.heap.size + 1 ≠ wr.heap.size; omega) (.string (entI s k))
        have hs := hs.far (p := ⟨wr.heap.size, 2, none⟩) hown (.string (entI s k))
        have hM := hM.fresh (p := ⟨wr.heap.size, 2, none⟩) hbw (.string (entI s k))
        have hR := hR.far (p := ⟨wr.heap.size, 2, none⟩) (by show g ≠ wr.heap.size; omega) (.string (entI s k))
        have he := he.put 2 (.string (entI s k))
        simp only [List.setIfInBounds_toArray, List.set_cons_succ, List.set_cons_zero] at he
        have H9 := Lib.hid (And.intro a0 (And.intro a1 (And.intro hs (And.intro hM (And.intro he hR)))))
        clear a0 a1 hs hM he hR
        clear hm8
        have hrow : ∀ j, Value.ownBlock (.slice ao1 k cap1) = some j → w.heap.size + 2 ≤ j := fun j hj => (H.out.2.2.1.lt j hj).1
        go_wp2_with (first
          | (at_builtin
             refine wpList_append_sl rfl _ _ _ 32 rfl el_ent (.slice ao1 k cap1) k (ecells (entN s) (entK s) (entI s) k) rfl (H9.out.2.2.1.alloc _) _ 1 [.string (entN s k), .int .i64 (x.toNat : Int), .string (entI s k)] rfl (SrcIs.own Try.underlying32 (SlIs.made (base := 0) (BlkIs.newAt (by simp) _ _) (Nat.zero_le _) rfl (by decide))) (by intro u hu; simp at hu; rcases hu with rfl | rfl | rfl <;> rfl) (by unfold maxLen; omega) (by omega) (by simp only [World.size_alloc, World.size_setCell]; omega) ?_
             intro v1 w10 hs10 hg10 hat10
             have x10 := BlkIs.grown (H9.out.2.1.alloc (.cells #[.string (entN s k), .int .i64 (x.toNat : Int), .string (entI s k)] 55)) hg10 (fun hh => by have := hrow _ hh.symm; omega)
             obtain ⟨ao2, cap2, rfl, hnc2, hcm2, hao2⟩ := hs10.form
             have x102 : w10.cell? ⟨w.heap.size + 1, 2, none⟩ = some (.slice ao1 k cap1) := x10.cell 2
             have x10f := x10.free 2
             have H10 := Lib.hid (And.intro hs10 (And.intro hg10 x10))
             clear hs10 hg10 hat10 hao2 x10))
        have y0 := (BlkIs.grown (H9.out.1.alloc (.cells #[.string (entN s k), .int .i64 (x.toNat : Int), .string (entI s k)] 55)) H10.out.2.1 (fun hh => by have := hrow _ hh.symm; omega)).far (p := ⟨w.heap.size + 1, 2, none⟩) (by simp) (.slice ao2 (k + 1) cap2)
        have y1 := H10.out.2.2.put 2 (.slice ao2 (k + 1) cap2)
        simp only [List.setIfInBounds_toArray, List.set_cons_succ, List.set_cons_zero] at y1
        refine ⟨⟨k + 1, .slice ao2 (k + 1) cap2, rfl, hk1, by omega, y0, y1, ?_, ?_, ?_⟩, ?_⟩
        · rw [ecells, hkz]; exact H10.out.1.farB (by show w.heap.size + 1 < w.heap.size + 2; omega) _
        · exact ((H9.out.2.2.2.2.2.alloc _).grown H10.out.2.1 (fun hh => by have := hrow _ hh.symm; omega)).far (by show g ≠ w.heap.size + 1; omega) _
        · exact ((H9.out.2.2.2.1.alloc _).row H10.out.2.1 (fun j hj => by have := hrow j hj; omega)).fresh (by show w.heap.size ≤ w.heap.size + 1; omega) _
        · simp [intOf]; omega
end Go.Proofs.Ytmdchfmcghiaeaa.Obj
