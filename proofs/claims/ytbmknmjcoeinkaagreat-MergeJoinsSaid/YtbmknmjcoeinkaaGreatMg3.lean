/- merge: the closures that let two refs or two tokens meet, walked. (Layer 13.) -/
import Derived.Test.YtbmknmjcoeinkaaGreatMgA
import Derived.Test.YtbmknmjcoeinkaaGreatCell
import Derived.Test.YtbmknmjcoeinkaaGreatMk10
namespace Go.Proofs.YtbmknmjcoeinkaaGreat.Mg
set_option linter.unusedVariables false
open Go.RowKit Go.Sort Go.Lib
open Mk (Rf Tok Tb TbR aTb eqB eqB_yes eqB_no bytes_eq)
open Set (El)
/-- The cells of a ref, of a token. -/
def rfC (x : Rf) : Array Value := #[.string x.name, .string x.id, .int .i64 x.h]
def tokC (x : Tok) : Array Value := #[.int .i64 x.node, .int .i64 x.n, .string x.id]
theorem rf_put {w : World} {g : Nat} {y : Rf} {cs : Array Value} (h : BlkIs w g 49 cs) (hs : ∃ a b c, cs = #[a, b, c]) :
    BlkIs (((w.setCell ⟨g, 0, none⟩ (.string y.name)).setCell ⟨g, 1, none⟩ (.string y.id)).setCell ⟨g, 2, none⟩ (.int .i64 y.h)) g 49 (rfC y) := by
  obtain ⟨a, b, c, rfl⟩ := hs
  exact ((h.put 0 _).put 1 _).put 2 _
theorem rf_end (w w8 : World) (b : Nat) (x : Rf) (v : Bool) (tmps : Array Value) (h2 : tmps.getD 4 undef = .pointer (some ⟨b, 0, none⟩)) (h3 : tmps.getD 5 undef = .bool v) (k : BlkIs w8 b 49 (rfC x)) (hb : Below w.heap.size w w8) :
    bodyPost Tryz.prog Tryz.f64 (fun e w' => e = .returned (.tuple #[.agg (rfC x), .bool v]) ∧ Below w.heap.size w w') Exit.ret ⟨tmps, []⟩ w8 := by
  refine bodyPost_ret (results_cell_tmp' rfl _ _ b 49 (rfC x) (0, 0) _ h2 k Tryz.underlying49 rfl (by show _ = some 3; kernel_rfl)) rfl ?_
  exact ⟨by rw [h3], hb⟩
theorem tok_end (w w8 : World) (b : Nat) (x : Tok) (v : Bool) (tmps : Array Value) (h2 : tmps.getD 4 undef = .pointer (some ⟨b, 0, none⟩)) (h3 : tmps.getD 5 undef = .bool v) (k : BlkIs w8 b 45 (tokC x)) (hb : Below w.heap.size w w8) :
    bodyPost Tryz.prog Tryz.f69 (fun e w' => e = .returned (.tuple #[.agg (tokC x), .bool v]) ∧ Below w.heap.size w w') Exit.ret ⟨tmps, []⟩ w8 := by
  refine bodyPost_ret (results_cell_tmp' rfl _ _ b 45 (tokC x) (0, 0) _ h2 k Tryz.underlying45 rfl (by show _ = some 3; kernel_rfl)) rfl ?_
  exact ⟨by rw [h3], hb⟩
/-- The higher of two refs. -/
def hiRf (x y : Rf) : Rf := if cS x y < 0 then y else x
set_option maxRecDepth 100000 in
theorem refs3_any (x y : Rf) (w : World) : Calls Tryz.prog 64 #[.agg #[.string x.name, .string x.id, .int .i64 x.h], .agg #[.string y.name, .string y.id, .int .i64 y.h]] w fun e w' => e = .returned (.tuple #[.agg (rfC (hiRf x y)), .bool true]) ∧ Below w.heap.size w w' := by
  have S := fun W => (stands_any x y).below W
  obtain ⟨c, hc⟩ : ∃ c, c = cS x y := ⟨_, rfl⟩
  have HC := Lib.hid hc
  rw [← hc] at S
  have S := Lib.hid S
  clear hc
  have HX := Lib.hid (And.intro (Eq.refl x) (Eq.refl y))
  go_enter Tryz.func64, Tryz.ntmps64
  go_upto_region 1 with (fail)
  obtain ⟨W2, hW2⟩ : ∃ W2, W2 = ((w.alloc (.cells #[.string x.name, .string x.id, .int .i64 x.h] 49)).alloc (.cells #[.string y.name, .string y.id, .int .i64 y.h] 49)).alloc (.cells #[.string ⟨#[]⟩, .string ⟨#[]⟩, .int .i64 0] 49) := ⟨_, rfl⟩
  have K := Lib.hid (show BlkIs W2 w.heap.size 49 (rfC x) ∧ BlkIs W2 (w.heap.size + 1) 49 (rfC y) ∧ BlkIs W2 (w.heap.size + 2) 49 #[.string ⟨#[]⟩, .string ⟨#[]⟩, .int .i64 0] ∧ Below w.heap.size w W2 from by
    rw [hW2]
    exact ⟨((BlkIs.new _ _ _).alloc _).alloc _, (BlkIs.new2 _ _ _ _).alloc _, BlkIs.new3 _ _ _ _ _, (((Below.refl _ _).alloc (Nat.le_refl _) _).alloc (by simp) _).alloc (by simp; omega) _⟩)
  rw [← hW2]
  clear hW2
  obtain ⟨k1, k2, k3, hb⟩ := K.out
  have e0 : W2.cell? ⟨w.heap.size, 0, none⟩ = some (.string x.name) := k1.cell 0
  have e1 : W2.cell? ⟨w.heap.size, 1, none⟩ = some (.string x.id) := k1.cell 1
  have e2 : W2.cell? ⟨w.heap.size, 2, none⟩ = some (.int .i64 x.h) := k1.cell 2
  have f0 : W2.cell? ⟨w.heap.size + 1, 0, none⟩ = some (.string y.name) := k2.cell 0
  have f1 : W2.cell? ⟨w.heap.size + 1, 1, none⟩ = some (.string y.id) := k2.cell 1
  have f2 : W2.cell? ⟨w.heap.size + 1, 2, none⟩ = some (.int .i64 y.h) := k2.cell 2
  clear k1 k2 k3 hb
  go_wp2_with fail
  refine (S.out _).mono ?_
  rintro e w3 ⟨rfl, hb3⟩
  have K3 := Lib.hid (show BlkIs w3 w.heap.size 49 (rfC x) ∧ BlkIs w3 (w.heap.size + 1) 49 (rfC y) ∧ BlkIs w3 (w.heap.size + 2) 49 #[.string ⟨#[]⟩, .string ⟨#[]⟩, .int .i64 0] ∧ Below w.heap.size w w3 from
    ⟨K.out.1.below hb3 K.out.1.lt, K.out.2.1.below hb3 K.out.2.1.lt, K.out.2.2.1.below hb3 K.out.2.2.1.lt, K.out.2.2.2.trans (hb3.mono K.out.2.2.2.size)⟩)
  clear e0 e1 e2 f0 f1 f2 hb3 K
  obtain ⟨k1, k2, k3, hb⟩ := K3.out
  have e0 : w3.cell? ⟨w.heap.size, 0, none⟩ = some (.string x.name) := k1.cell 0
  have e1 : w3.cell? ⟨w.heap.size, 1, none⟩ = some (.string x.id) := k1.cell 1
  have e2 : w3.cell? ⟨w.heap.size, 2, none⟩ = some (.int .i64 x.h) := k1.cell 2
  have f0 : w3.cell? ⟨w.heap.size + 1, 0, none⟩ = some (.string y.name) := k2.cell 0
  have f1 : w3.cell? ⟨w.heap.size + 1, 1, none⟩ = some (.string y.id) := k2.cell 1
  have f2 : w3.cell? ⟨w.heap.size + 1, 2, none⟩ = some (.int .i64 y.h) := k2.cell 2
  have g0 : w3.cell? ⟨w.heap.size + 2, 0, none⟩ = some (.string ⟨#[]⟩) := k3.cell 0
  have g1 : w3.cell? ⟨w.heap.size + 2, 1, none⟩ = some (.string ⟨#[]⟩) := k3.cell 1
  have g2 : w3.cell? ⟨w.heap.size + 2, 2, none⟩ = some (.int .i64 0) := k3.cell 2
  have fr : ∀ i, w3.frozen? ⟨w.heap.size + 2, i, none⟩ = false := fun i => k3.free i
  clear k1 k2 k3 hb
  by_cases hc : c < 0
  · have HN := Lib.hid hc
    go_wp2_with fail
    have hz : hiRf x y = y := by unfold hiRf; rw [← HC.out, if_pos HN.out]
    rw [hz]
    exact rf_end w _ (w.heap.size + 2) y true _ rfl rfl (rf_put K3.out.2.2.1 ⟨_, _, _, rfl⟩) (((K3.out.2.2.2.setCell (by simp; omega) _).setCell (by simp; omega) _).setCell (by simp; omega) _)
  · have HN := Lib.hid hc
    have hc0 : decide (c < 0) = false := by simpa using hc
    clear hc
    go_wp2_with fail
    have hz : hiRf x y = x := by unfold hiRf; rw [← HC.out, if_neg (by have := HN.out; omega)]
    rw [hz]
    exact rf_end w _ (w.heap.size + 2) x true _ rfl rfl (rf_put K3.out.2.2.1 ⟨_, _, _, rfl⟩) (((K3.out.2.2.2.setCell (by simp; omega) _).setCell (by simp; omega) _).setCell (by simp; omega) _)
theorem tok_put {w : World} {g : Nat} {y : Tok} {cs : Array Value} (h : BlkIs w g 45 cs) (hs : ∃ a b c, cs = #[a, b, c]) :
    BlkIs (((w.setCell ⟨g, 0, none⟩ (.int .i64 y.node)).setCell ⟨g, 1, none⟩ (.int .i64 y.n)).setCell ⟨g, 2, none⟩ (.string y.id)) g 45 (tokC y) := by
  obtain ⟨a, b, c, rfl⟩ := hs
  exact ((h.put 0 _).put 1 _).put 2 _
theorem tok_put' {w : World} {g : Nat} {y : Tok} {cs : Array Value} (h : BlkIs w g 45 cs) (hs : ∃ a b c, cs = #[a, b, c]) :
    BlkIs ((((w.setCell ⟨g, 0, none⟩ (.int .i64 y.node)).setCell ⟨g, 1, none⟩ (.int .i64 y.n)).setCell ⟨g, 2, none⟩ (.string y.id)).drew) g 45 (tokC y) := tok_put h hs
theorem below_drew {b : Nat} {w w' : World} (h : Below b w w') : Below b w w'.drew := ⟨h.os, h.tape, h.output, h.size, h.block⟩
set_option maxRecDepth 100000 in
theorem tok2_0 (a0 a1 : Int) (a2 : ByteArray) (b0 b1 : Int) (b2 : ByteArray) (w : World) (h : ¬ a0 = b0) : Calls Tryz.prog 69 #[.agg #[.int .i64 a0, .int .i64 a1, .string a2], .agg #[.int .i64 b0, .int .i64 b1, .string b2]] w fun e w' => e = .returned (.tuple #[.agg (tokC ⟨a0, a1, a2⟩), .bool false]) ∧ Below w.heap.size w w' := by
  have HX := Lib.hid (And.intro (Eq.refl (Tok.mk a0 a1 a2)) (Eq.refl (Tok.mk b0 b1 b2)))
  go_enter Tryz.func69, Tryz.ntmps69
  go_upto_region 1 with (fail)
  obtain ⟨W2, hW2⟩ : ∃ W2, W2 = ((w.alloc (.cells #[.int .i64 a0, .int .i64 a1, .string a2] 45)).alloc (.cells #[.int .i64 b0, .int .i64 b1, .string b2] 45)).alloc (.cells #[.int .i64 0, .int .i64 0, .string ⟨#[]⟩] 45) := ⟨_, rfl⟩
  have K := Lib.hid (show BlkIs W2 w.heap.size 45 (tokC ⟨a0, a1, a2⟩) ∧ BlkIs W2 (w.heap.size + 1) 45 (tokC ⟨b0, b1, b2⟩) ∧ BlkIs W2 (w.heap.size + 2) 45 #[.int .i64 0, .int .i64 0, .string ⟨#[]⟩] ∧ Below w.heap.size w W2 from by
    rw [hW2]
    exact ⟨((BlkIs.new _ _ _).alloc _).alloc _, (BlkIs.new2 _ _ _ _).alloc _, BlkIs.new3 _ _ _ _ _, (((Below.refl _ _).alloc (Nat.le_refl _) _).alloc (by simp) _).alloc (by simp; omega) _⟩)
  rw [← hW2]
  clear hW2
  obtain ⟨k1, k2, k3, hb⟩ := K.out
  have e0 : W2.cell? ⟨w.heap.size, 0, none⟩ = some (.int .i64 a0) := k1.cell 0
  have e1 : W2.cell? ⟨w.heap.size, 1, none⟩ = some (.int .i64 a1) := k1.cell 1
  have e2 : W2.cell? ⟨w.heap.size, 2, none⟩ = some (.string a2) := k1.cell 2
  have f0 : W2.cell? ⟨w.heap.size + 1, 0, none⟩ = some (.int .i64 b0) := k2.cell 0
  have f1 : W2.cell? ⟨w.heap.size + 1, 1, none⟩ = some (.int .i64 b1) := k2.cell 1
  have f2 : W2.cell? ⟨w.heap.size + 1, 2, none⟩ = some (.string b2) := k2.cell 2
  have g0 : W2.cell? ⟨w.heap.size + 2, 0, none⟩ = some (.int .i64 0) := k3.cell 0
  have g1 : W2.cell? ⟨w.heap.size + 2, 1, none⟩ = some (.int .i64 0) := k3.cell 1
  have g2 : W2.cell? ⟨w.heap.size + 2, 2, none⟩ = some (.string ⟨#[]⟩) := k3.cell 2
  have fr : ∀ i, W2.frozen? ⟨w.heap.size + 2, i, none⟩ = false := fun i => k3.free i
  have K3 := Lib.hid (And.intro K.out.2.2.1 K.out.2.2.2)
  clear k1 k2 k3 hb K
  have n0 : w.heap.size + 1 + 1 ≠ w.heap.size := by omega
  have n1 : w.heap.size + 1 + 1 ≠ w.heap.size + 1 := by omega
  go_region_held (fun w' => w'.cell? ⟨w.heap.size, 0, none⟩ = some (.int .i64 a0) ∧ w'.cell? ⟨w.heap.size, 1, none⟩ = some (.int .i64 a1) ∧ w'.cell? ⟨w.heap.size, 2, none⟩ = some (.string a2) ∧ w'.cell? ⟨w.heap.size + 1, 0, none⟩ = some (.int .i64 b0) ∧ w'.cell? ⟨w.heap.size + 1, 1, none⟩ = some (.int .i64 b1) ∧ w'.cell? ⟨w.heap.size + 1, 2, none⟩ = some (.string b2)) (first | go_keep | (refine ⟨?_, ?_, ?_, ?_, ?_, ?_⟩ <;> (simp only [World.cell?_drew]; rw [World.cell?_setCell_far _ _ _ _ (by first | exact n0 | exact n1), World.cell?_setCell_far _ _ _ _ (by first | exact n0 | exact n1), World.cell?_setCell_far _ _ _ _ (by first | exact n0 | exact n1)]; assumption))) (fail)
  all_goals go_wp2_with fail
  all_goals refine tok_end w _ (w.heap.size + 2) ⟨a0, a1, a2⟩ false _ ?_ ?_ ?_ ?_
  · rfl
  · rfl
  · exact tok_put' (y := ⟨a0, a1, a2⟩) K3.out.1 ⟨_, _, _, rfl⟩
  · exact below_drew (((K3.out.2.setCell (by simp; omega) _).setCell (by simp; omega) _).setCell (by simp; omega) _)
set_option maxRecDepth 100000 in
theorem tok2_1 (a0 a1 : Int) (a2 : ByteArray) (b1 : Int) (b2 : ByteArray) (w : World) (h : ¬ a1 = b1) : Calls Tryz.prog 69 #[.agg #[.int .i64 a0, .int .i64 a1, .string a2], .agg #[.int .i64 a0, .int .i64 b1, .string b2]] w fun e w' => e = .returned (.tuple #[.agg (tokC ⟨a0, a1, a2⟩), .bool false]) ∧ Below w.heap.size w w' := by
  have HX := Lib.hid (And.intro (Eq.refl (Tok.mk a0 a1 a2)) (Eq.refl (Tok.mk a0 b1 b2)))
  go_enter Tryz.func69, Tryz.ntmps69
  go_upto_region 1 with (fail)
  obtain ⟨W2, hW2⟩ : ∃ W2, W2 = ((w.alloc (.cells #[.int .i64 a0, .int .i64 a1, .string a2] 45)).alloc (.cells #[.int .i64 a0, .int .i64 b1, .string b2] 45)).alloc (.cells #[.int .i64 0, .int .i64 0, .string ⟨#[]⟩] 45) := ⟨_, rfl⟩
  have K := Lib.hid (show BlkIs W2 w.heap.size 45 (tokC ⟨a0, a1, a2⟩) ∧ BlkIs W2 (w.heap.size + 1) 45 (tokC ⟨a0, b1, b2⟩) ∧ BlkIs W2 (w.heap.size + 2) 45 #[.int .i64 0, .int .i64 0, .string ⟨#[]⟩] ∧ Below w.heap.size w W2 from by
    rw [hW2]
    exact ⟨((BlkIs.new _ _ _).alloc _).alloc _, (BlkIs.new2 _ _ _ _).alloc _, BlkIs.new3 _ _ _ _ _, (((Below.refl _ _).alloc (Nat.le_refl _) _).alloc (by simp) _).alloc (by simp; omega) _⟩)
  rw [← hW2]
  clear hW2
  obtain ⟨k1, k2, k3, hb⟩ := K.out
  have e0 : W2.cell? ⟨w.heap.size, 0, none⟩ = some (.int .i64 a0) := k1.cell 0
  have e1 : W2.cell? ⟨w.heap.size, 1, none⟩ = some (.int .i64 a1) := k1.cell 1
  have e2 : W2.cell? ⟨w.heap.size, 2, none⟩ = some (.string a2) := k1.cell 2
  have f0 : W2.cell? ⟨w.heap.size + 1, 0, none⟩ = some (.int .i64 a0) := k2.cell 0
  have f1 : W2.cell? ⟨w.heap.size + 1, 1, none⟩ = some (.int .i64 b1) := k2.cell 1
  have f2 : W2.cell? ⟨w.heap.size + 1, 2, none⟩ = some (.string b2) := k2.cell 2
  have g0 : W2.cell? ⟨w.heap.size + 2, 0, none⟩ = some (.int .i64 0) := k3.cell 0
  have g1 : W2.cell? ⟨w.heap.size + 2, 1, none⟩ = some (.int .i64 0) := k3.cell 1
  have g2 : W2.cell? ⟨w.heap.size + 2, 2, none⟩ = some (.string ⟨#[]⟩) := k3.cell 2
  have fr : ∀ i, W2.frozen? ⟨w.heap.size + 2, i, none⟩ = false := fun i => k3.free i
  have K3 := Lib.hid (And.intro K.out.2.2.1 K.out.2.2.2)
  clear k1 k2 k3 hb K
  have n0 : w.heap.size + 1 + 1 ≠ w.heap.size := by omega
  have n1 : w.heap.size + 1 + 1 ≠ w.heap.size + 1 := by omega
  go_region_held (fun w' => w'.cell? ⟨w.heap.size, 0, none⟩ = some (.int .i64 a0) ∧ w'.cell? ⟨w.heap.size, 1, none⟩ = some (.int .i64 a1) ∧ w'.cell? ⟨w.heap.size, 2, none⟩ = some (.string a2) ∧ w'.cell? ⟨w.heap.size + 1, 0, none⟩ = some (.int .i64 a0) ∧ w'.cell? ⟨w.heap.size + 1, 1, none⟩ = some (.int .i64 b1) ∧ w'.cell? ⟨w.heap.size + 1, 2, none⟩ = some (.string b2)) (first | go_keep | (refine ⟨?_, ?_, ?_, ?_, ?_, ?_⟩ <;> (simp only [World.cell?_drew]; rw [World.cell?_setCell_far _ _ _ _ (by first | exact n0 | exact n1), World.cell?_setCell_far _ _ _ _ (by first | exact n0 | exact n1), World.cell?_setCell_far _ _ _ _ (by first | exact n0 | exact n1)]; assumption))) (fail)
  all_goals go_wp2_with fail
  all_goals refine tok_end w _ (w.heap.size + 2) ⟨a0, a1, a2⟩ false _ ?_ ?_ ?_ ?_
  · rfl
  · rfl
  · exact tok_put' (y := ⟨a0, a1, a2⟩) K3.out.1 ⟨_, _, _, rfl⟩
  · exact below_drew (((K3.out.2.setCell (by simp; omega) _).setCell (by simp; omega) _).setCell (by simp; omega) _)
set_option maxRecDepth 100000 in
theorem tok2_2 (a0 a1 : Int) (a2 : ByteArray) (b2 : ByteArray) (w : World) (h : ¬ a2.toList = b2.toList) : Calls Tryz.prog 69 #[.agg #[.int .i64 a0, .int .i64 a1, .string a2], .agg #[.int .i64 a0, .int .i64 a1, .string b2]] w fun e w' => e = .returned (.tuple #[.agg (tokC ⟨a0, a1, a2⟩), .bool false]) ∧ Below w.heap.size w w' := by
  have HX := Lib.hid (And.intro (Eq.refl (Tok.mk a0 a1 a2)) (Eq.refl (Tok.mk a0 a1 b2)))
  go_enter Tryz.func69, Tryz.ntmps69
  go_upto_region 1 with (fail)
  obtain ⟨W2, hW2⟩ : ∃ W2, W2 = ((w.alloc (.cells #[.int .i64 a0, .int .i64 a1, .string a2] 45)).alloc (.cells #[.int .i64 a0, .int .i64 a1, .string b2] 45)).alloc (.cells #[.int .i64 0, .int .i64 0, .string ⟨#[]⟩] 45) := ⟨_, rfl⟩
  have K := Lib.hid (show BlkIs W2 w.heap.size 45 (tokC ⟨a0, a1, a2⟩) ∧ BlkIs W2 (w.heap.size + 1) 45 (tokC ⟨a0, a1, b2⟩) ∧ BlkIs W2 (w.heap.size + 2) 45 #[.int .i64 0, .int .i64 0, .string ⟨#[]⟩] ∧ Below w.heap.size w W2 from by
    rw [hW2]
    exact ⟨((BlkIs.new _ _ _).alloc _).alloc _, (BlkIs.new2 _ _ _ _).alloc _, BlkIs.new3 _ _ _ _ _, (((Below.refl _ _).alloc (Nat.le_refl _) _).alloc (by simp) _).alloc (by simp; omega) _⟩)
  rw [← hW2]
  clear hW2
  obtain ⟨k1, k2, k3, hb⟩ := K.out
  have e0 : W2.cell? ⟨w.heap.size, 0, none⟩ = some (.int .i64 a0) := k1.cell 0
  have e1 : W2.cell? ⟨w.heap.size, 1, none⟩ = some (.int .i64 a1) := k1.cell 1
  have e2 : W2.cell? ⟨w.heap.size, 2, none⟩ = some (.string a2) := k1.cell 2
  have f0 : W2.cell? ⟨w.heap.size + 1, 0, none⟩ = some (.int .i64 a0) := k2.cell 0
  have f1 : W2.cell? ⟨w.heap.size + 1, 1, none⟩ = some (.int .i64 a1) := k2.cell 1
  have f2 : W2.cell? ⟨w.heap.size + 1, 2, none⟩ = some (.string b2) := k2.cell 2
  have g0 : W2.cell? ⟨w.heap.size + 2, 0, none⟩ = some (.int .i64 0) := k3.cell 0
  have g1 : W2.cell? ⟨w.heap.size + 2, 1, none⟩ = some (.int .i64 0) := k3.cell 1
  have g2 : W2.cell? ⟨w.heap.size + 2, 2, none⟩ = some (.string ⟨#[]⟩) := k3.cell 2
  have fr : ∀ i, W2.frozen? ⟨w.heap.size + 2, i, none⟩ = false := fun i => k3.free i
  have K3 := Lib.hid (And.intro K.out.2.2.1 K.out.2.2.2)
  clear k1 k2 k3 hb K
  have n0 : w.heap.size + 1 + 1 ≠ w.heap.size := by omega
  have n1 : w.heap.size + 1 + 1 ≠ w.heap.size + 1 := by omega
  go_region_held (fun w' => w'.cell? ⟨w.heap.size, 0, none⟩ = some (.int .i64 a0) ∧ w'.cell? ⟨w.heap.size, 1, none⟩ = some (.int .i64 a1) ∧ w'.cell? ⟨w.heap.size, 2, none⟩ = some (.string a2) ∧ w'.cell? ⟨w.heap.size + 1, 0, none⟩ = some (.int .i64 a0) ∧ w'.cell? ⟨w.heap.size + 1, 1, none⟩ = some (.int .i64 a1) ∧ w'.cell? ⟨w.heap.size + 1, 2, none⟩ = some (.string b2)) (first | go_keep | (refine ⟨?_, ?_, ?_, ?_, ?_, ?_⟩ <;> (simp only [World.cell?_drew]; rw [World.cell?_setCell_far _ _ _ _ (by first | exact n0 | exact n1), World.cell?_setCell_far _ _ _ _ (by first | exact n0 | exact n1), World.cell?_setCell_far _ _ _ _ (by first | exact n0 | exact n1)]; assumption))) (fail)
  all_goals go_wp2_with fail
  all_goals refine tok_end w _ (w.heap.size + 2) ⟨a0, a1, a2⟩ false _ ?_ ?_ ?_ ?_
  · rfl
  · rfl
  · exact tok_put' (y := ⟨a0, a1, a2⟩) K3.out.1 ⟨_, _, _, rfl⟩
  · exact below_drew (((K3.out.2.setCell (by simp; omega) _).setCell (by simp; omega) _).setCell (by simp; omega) _)
set_option maxRecDepth 100000 in
theorem tok2_3 (a0 a1 : Int) (a2 : ByteArray) (w : World) : Calls Tryz.prog 69 #[.agg #[.int .i64 a0, .int .i64 a1, .string a2], .agg #[.int .i64 a0, .int .i64 a1, .string a2]] w fun e w' => e = .returned (.tuple #[.agg (tokC ⟨a0, a1, a2⟩), .bool true]) ∧ Below w.heap.size w w' := by
  have HX := Lib.hid (And.intro (Eq.refl (Tok.mk a0 a1 a2)) (Eq.refl (Tok.mk a0 a1 a2)))
  go_enter Tryz.func69, Tryz.ntmps69
  go_upto_region 1 with (fail)
  obtain ⟨W2, hW2⟩ : ∃ W2, W2 = ((w.alloc (.cells #[.int .i64 a0, .int .i64 a1, .string a2] 45)).alloc (.cells #[.int .i64 a0, .int .i64 a1, .string a2] 45)).alloc (.cells #[.int .i64 0, .int .i64 0, .string ⟨#[]⟩] 45) := ⟨_, rfl⟩
  have K := Lib.hid (show BlkIs W2 w.heap.size 45 (tokC ⟨a0, a1, a2⟩) ∧ BlkIs W2 (w.heap.size + 1) 45 (tokC ⟨a0, a1, a2⟩) ∧ BlkIs W2 (w.heap.size + 2) 45 #[.int .i64 0, .int .i64 0, .string ⟨#[]⟩] ∧ Below w.heap.size w W2 from by
    rw [hW2]
    exact ⟨((BlkIs.new _ _ _).alloc _).alloc _, (BlkIs.new2 _ _ _ _).alloc _, BlkIs.new3 _ _ _ _ _, (((Below.refl _ _).alloc (Nat.le_refl _) _).alloc (by simp) _).alloc (by simp; omega) _⟩)
  rw [← hW2]
  clear hW2
  obtain ⟨k1, k2, k3, hb⟩ := K.out
  have e0 : W2.cell? ⟨w.heap.size, 0, none⟩ = some (.int .i64 a0) := k1.cell 0
  have e1 : W2.cell? ⟨w.heap.size, 1, none⟩ = some (.int .i64 a1) := k1.cell 1
  have e2 : W2.cell? ⟨w.heap.size, 2, none⟩ = some (.string a2) := k1.cell 2
  have f0 : W2.cell? ⟨w.heap.size + 1, 0, none⟩ = some (.int .i64 a0) := k2.cell 0
  have f1 : W2.cell? ⟨w.heap.size + 1, 1, none⟩ = some (.int .i64 a1) := k2.cell 1
  have f2 : W2.cell? ⟨w.heap.size + 1, 2, none⟩ = some (.string a2) := k2.cell 2
  have g0 : W2.cell? ⟨w.heap.size + 2, 0, none⟩ = some (.int .i64 0) := k3.cell 0
  have g1 : W2.cell? ⟨w.heap.size + 2, 1, none⟩ = some (.int .i64 0) := k3.cell 1
  have g2 : W2.cell? ⟨w.heap.size + 2, 2, none⟩ = some (.string ⟨#[]⟩) := k3.cell 2
  have fr : ∀ i, W2.frozen? ⟨w.heap.size + 2, i, none⟩ = false := fun i => k3.free i
  have K3 := Lib.hid (And.intro K.out.2.2.1 K.out.2.2.2)
  clear k1 k2 k3 hb K
  have n0 : w.heap.size + 1 + 1 ≠ w.heap.size := by omega
  have n1 : w.heap.size + 1 + 1 ≠ w.heap.size + 1 := by omega
  go_region_held (fun w' => w'.cell? ⟨w.heap.size, 0, none⟩ = some (.int .i64 a0) ∧ w'.cell? ⟨w.heap.size, 1, none⟩ = some (.int .i64 a1) ∧ w'.cell? ⟨w.heap.size, 2, none⟩ = some (.string a2) ∧ w'.cell? ⟨w.heap.size + 1, 0, none⟩ = some (.int .i64 a0) ∧ w'.cell? ⟨w.heap.size + 1, 1, none⟩ = some (.int .i64 a1) ∧ w'.cell? ⟨w.heap.size + 1, 2, none⟩ = some (.string a2)) (first | go_keep | (refine ⟨?_, ?_, ?_, ?_, ?_, ?_⟩ <;> (simp only [World.cell?_drew]; rw [World.cell?_setCell_far _ _ _ _ (by first | exact n0 | exact n1), World.cell?_setCell_far _ _ _ _ (by first | exact n0 | exact n1), World.cell?_setCell_far _ _ _ _ (by first | exact n0 | exact n1)]; assumption))) (fail)
  all_goals go_wp2_with fail
  all_goals refine tok_end w _ (w.heap.size + 2) ⟨a0, a1, a2⟩ true _ ?_ ?_ ?_ ?_
  · rfl
  · rfl
  · exact tok_put' (y := ⟨a0, a1, a2⟩) K3.out.1 ⟨_, _, _, rfl⟩
  · exact below_drew (((K3.out.2.setCell (by simp; omega) _).setCell (by simp; omega) _).setCell (by simp; omega) _)
theorem tokens2_any (x y : Tok) (w : World) : Calls Tryz.prog 69 #[.agg #[.int .i64 x.node, .int .i64 x.n, .string x.id], .agg #[.int .i64 y.node, .int .i64 y.n, .string y.id]] w fun e w' => e = .returned (.tuple #[.agg (tokC x), .bool (eqB x y)]) ∧ Below w.heap.size w w' := by
  obtain ⟨a0, a1, a2⟩ := x
  obtain ⟨b0, b1, b2⟩ := y
  dsimp only
  by_cases h0 : a0 = b0
  · subst h0
    by_cases h1 : a1 = b1
    · subst h1
      by_cases h2 : a2.toList = b2.toList
      · have h3 : a2 = b2 := bytes_eq.1 (by rw [h2]; exact beq_self_eq_true _)
        subst h3
        rw [eqB_yes rfl]
        exact tok2_3 a0 a1 a2 w
      · rw [eqB_no (fun h => h2 (by injection h with _ _ h; rw [h]))]
        exact tok2_2 a0 a1 a2 b2 w h2
    · rw [eqB_no (fun h => h1 (by injection h))]
      exact tok2_1 a0 a1 a2 b1 b2 w h1
  · rw [eqB_no (fun h => h0 (by injection h))]
    exact tok2_0 a0 a1 a2 b0 b1 b2 w h0
end Go.Proofs.YtbmknmjcoeinkaaGreat.Mg
