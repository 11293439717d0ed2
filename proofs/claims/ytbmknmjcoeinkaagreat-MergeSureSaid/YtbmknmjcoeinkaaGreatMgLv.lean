/- mark.Sure, mark.Live, walked: Mk20 to Mk24 in one (without Mk16), for layer 13. -/
import Derived.Test.YtbmknmjcoeinkaaGreatMk10
import Derived.Test.YtbmknmjcoeinkaaGreatOctet1
import Derived.Test.YtbmknmjcoeinkaaGreatMk2
import Derived.Test.YtbmknmjcoeinkaaGreatSlOps
import Derived.Deep.RegionHeld3
import Derived.Deep.RegionHeld
import Derived.Lib.SliceRun
import Derived.Test.YtbmknmjcoeinkaaGreatMk11
import Derived.Maps.Own
/- A Go map from tokens to bools, as it lies; Sure; the closure of Live. (Layer 12.) -/
namespace Go.Proofs.YtbmknmjcoeinkaaGreat.Mk
open Go.RowKit
theorem el_tok : ElemOk Tryz.prog 23 45 3 32 := ElemOk.mk' (z := .agg #[.int .i64 0, .int .i64 0, .string ⟨#[]⟩]) Tryz.underlying23 (by kernel_rfl) rfl
end Go.Proofs.YtbmknmjcoeinkaaGreat.Mk
namespace Go.Proofs.YtbmknmjcoeinkaaGreat.Mk
set_option linter.unusedVariables false
open Go.RowKit
/-- What a list of pairs says of a token: the first one counts; none: no. -/
noncomputable def look : List (Tok × Bool) → Tok → Bool
  | [], _ => false
  | p :: l, x => if eqB x p.1 = true then p.2 else look l x
theorem eqB_self {α : Type} (a : α) : eqB a a = true := eqB_yes rfl
/-- The pairs with one of them set anew, or one more. -/
noncomputable def setAt : List (Tok × Bool) → Tok → Bool → List (Tok × Bool)
  | [], x, v => [(x, v)]
  | p :: l, x, v => if eqB x p.1 = true then (x, v) :: l else p :: setAt l x v
theorem look_setAt (l : List (Tok × Bool)) (x : Tok) (v : Bool) (y : Tok) : look (setAt l x v) y = if eqB y x = true then v else look l y := by
  induction l with
  | nil => rfl
  | cons p l ih =>
    unfold setAt
    by_cases h1 : x = p.1
    · rw [if_pos (eqB_yes h1)]
      unfold look
      by_cases h : y = x
      · simp only [if_pos (eqB_yes h)]
      · have e1 : ¬ eqB y x = true := by rw [eqB_no h]; decide
        have e2 : ¬ eqB y p.1 = true := by rw [eqB_no (by rw [← h1]; exact h)]; decide
        simp only [if_neg e1, if_neg e2]
    · have e0 : ¬ eqB x p.1 = true := by rw [eqB_no h1]; decide
      rw [if_neg e0]
      unfold look
      rw [ih]
      by_cases h : y = x
      · have e1 : ¬ eqB y p.1 = true := by rw [h]; exact e0
        simp only [if_pos (eqB_yes h), if_neg e1]
      · have e1 : ¬ eqB y x = true := by rw [eqB_no h]; decide
        simp only [if_neg e1]
theorem equal_tok (x y : Tok) (w : World) : (Op.equal 45 (aTok x) (aTok y)).run Tryz.prog w = .ok (eqB x y) w := by
  have h := eql_tok x y w
  rw [run_eql_struct] at h
  show (Op.equalIn 10000 45 (.agg #[.int .i64 x.node, .int .i64 x.n, .string x.id]) (.agg #[.int .i64 y.node, .int .i64 y.n, .string y.id])).run Tryz.prog w = _
  revert h
  generalize (Op.equalIn 10000 45 (.agg #[.int .i64 x.node, .int .i64 x.n, .string x.id]) (.agg #[.int .i64 y.node, .int .i64 y.n, .string y.id])).run Tryz.prog w = r
  intro h
  cases r with
  | ok b w' =>
    simp only [Result.andThen_ok, Result.ok.injEq, Value.bool.injEq] at h
    rw [h.1, h.2]
  | halt x w' => cases h
def pv (p : Tok × Bool) : Value × Value := (aTok p.1, .bool p.2)
def ev (e : MapEntry) : Value × Value := (e.key, e.val)
theorem find_tok (x : Tok) (w : World) : ∀ (D : List (Tok × Bool)) (es : List MapEntry) (i : Nat), es.map ev = D.map pv →
    ((Instr.findAsking 45 (aTok x) es i).run Tryz.prog w = .ok none w ∧ look D x = false ∧ (∀ v, setAt D x v = D ++ [(x, v)])) ∨
    ∃ (j : Nat) (e : MapEntry) (b : Bool), (Instr.findAsking 45 (aTok x) es i).run Tryz.prog w = .ok (some (i + j, .bool b)) w ∧ look D x = b ∧ es[j]? = some e ∧ (e.key = aTok x ∧ e.val = .bool b) ∧ ∀ v, (es.set j { e with key := aTok x, val := .bool v }).map ev = (setAt D x v).map pv := by
  intro D
  induction D with
  | nil =>
    intro es i h
    cases es with
    | nil => exact .inl ⟨rfl, rfl, fun _ => rfl⟩
    | cons _ _ => cases h
  | cons p D ih =>
    intro es i h
    cases es with
    | nil => cases h
    | cons e es =>
      simp only [List.map_cons, List.cons.injEq] at h
      obtain ⟨h1, h2⟩ := h
      have hk : e.key = aTok p.1 := congrArg Prod.fst h1
      have hv : e.val = .bool p.2 := congrArg Prod.snd h1
      by_cases hx : x = p.1
      · refine .inr ⟨0, e, p.2, ?_, ?_, rfl, ⟨by rw [hk, hx], hv⟩, fun v => ?_⟩
        · unfold Instr.findAsking
          simp only [Sem.run_bind, hk, equal_tok, Result.andThen_ok, eqB_yes hx, if_true, hv]
          rfl
        · unfold look; rw [if_pos (eqB_yes hx)]
        · unfold setAt
          rw [if_pos (eqB_yes hx)]
          simp only [List.set_cons_zero, List.map_cons, h2]
          rfl
      · have hrun : (Instr.findAsking 45 (aTok x) (e :: es) i).run Tryz.prog w = (Instr.findAsking 45 (aTok x) es (i + 1)).run Tryz.prog w := by
          conv => lhs; unfold Instr.findAsking
          simp only [Sem.run_bind, hk, equal_tok, Result.andThen_ok, eqB_no hx, Bool.false_eq_true, if_false]
        rw [hrun]
        rcases ih es (i + 1) h2 with ⟨k1, k2, k3⟩ | ⟨j, e', b, k1, k2, k3, k4, k5⟩
        · refine .inl ⟨k1, ?_, fun v => ?_⟩
          · unfold look; rw [if_neg (by rw [eqB_no hx]; decide)]; exact k2
          · unfold setAt; rw [if_neg (by rw [eqB_no hx]; decide), k3]; rfl
        · refine .inr ⟨j + 1, e', b, ?_, ?_, by simpa using k3, k4, fun v => ?_⟩
          · rw [k1, show i + 1 + j = i + (j + 1) by omega]
          · unfold look; rw [if_neg (by rw [eqB_no hx]; decide)]; exact k2
          · unfold setAt
            rw [if_neg (by rw [eqB_no hx]; decide)]
            simp only [List.set_cons_succ, List.map_cons, k5 v, h1]
/-- Block b is a map that says f of tokens. -/
def TokMap (w : World) (b : Nat) (f : Tok → Bool) : Prop := ∃ es clock D, w.heap[b]? = some (.map es clock) ∧ es.toList.map ev = List.map pv D ∧ ∀ x, look D x = f x
theorem TokMap.lt {w : World} {b : Nat} {f : Tok → Bool} (h : TokMap w b f) : b < w.heap.size := by
  obtain ⟨es, c, D, h1, -, -⟩ := h
  exact (Array.getElem?_eq_some_iff.1 h1).1
theorem TokMap.below {w w' : World} {b B : Nat} {f : Tok → Bool} (h : TokMap w b f) (hb : Below B w w') (hB : b < B) : TokMap w' b f := by
  obtain ⟨es, c, D, h1, h2, h3⟩ := h
  exact ⟨es, c, D, by rw [hb.block b hB]; exact h1, h2, h3⟩
theorem check_tok (x : Tok) (w : World) (em : Bool) : (Instr.checkKey em 10000 45 (aTok x)).run Tryz.prog w = .ok () w := by
  have u3 := Tryz.underlying3
  have u9 := Tryz.underlying9
  have a3 := Tryz.isAgg3
  have z3 := Tryz.sizeOf3
  have a9 := Tryz.isAgg9
  have z9 := Tryz.sizeOf9
  have ut := Tryz.underlying45
  have hi : ∀ (n : Int) (w : World), (Instr.checkKey em 9999 3 (.int .i64 n)).run Tryz.prog w = .ok () w := fun n w => MapKept.run_checkKey u3 (show MapKept.IsKey (.int .i64) (.int .i64 n) from rfl) em 9998
  have hs : ∀ (n : ByteArray) (w : World), (Instr.checkKey em 9999 9 (.string n)).run Tryz.prog w = .ok () w := fun n w => MapKept.run_checkKey u9 (show MapKept.IsKey .string (.string n) from trivial) em 9998
  rw [show (10000 : Nat) = 9999 + 1 from rfl]
  unfold Instr.checkKey aTok
  simp only [Sem.run_bind, run_underlying ut, Result.andThen_ok]
  rw [← Array.forIn_toList]
  simp only [List.forIn_cons, List.forIn_nil]
  simp [Sem.run_bind, part, a3, a9, hi, hs, Result.andThen_ok]
theorem key_stays (x : Tok) (w : World) : (Instr.keyThatStays (aTok x) (aTok x)).run Tryz.prog w = .ok (aTok x) w := by
  have : Instr.sameBits 10000 (aTok x) (aTok x) = true := by
    unfold aTok
    rw [show (10000 : Nat) = 9999 + 1 from rfl]
    simp [Instr.sameBits, beq_toListBytes]
  unfold Instr.keyThatStays
  rw [this]
  rfl
theorem findKey_nil (x : Tok) (w : World) : (Instr.findKey 45 (aTok x) []).run Tryz.prog w = .ok none w := by
  unfold Instr.findKey
  simp only [Sem.run_bind, run_underlying Tryz.underlying45, Result.andThen_ok]
  rfl
theorem findKey_tok (x : Tok) (es : List MapEntry) (w : World) : (Instr.findKey 45 (aTok x) es).run Tryz.prog w = (Instr.findAsking 45 (aTok x) es).run Tryz.prog w ∨ es = [] := by
  cases es with
  | nil => exact .inr rfl
  | cons e l =>
    refine .inl ?_
    unfold Instr.findKey
    simp only [Sem.run_bind, run_underlying Tryz.underlying45, Result.andThen_ok]
    rfl
theorem TokMap.lookup {w : World} {b : Nat} {f : Tok → Bool} (h : TokMap w b f) (x : Tok) : (Instr.lookup 85 (.map (some b)) (aTok x) false).run Tryz.prog w = .ok (.bool (f x)) w := by
  obtain ⟨es, c, D, h1, h2, h3⟩ := h
  have hz : (zeroValue 4).run Tryz.prog w = .ok (.bool false) w := by kernel_rfl
  have hf : (∃ j, (Instr.findKey 45 (aTok x) es.toList).run Tryz.prog w = .ok (some (j, .bool (f x))) w) ∨ ((Instr.findKey 45 (aTok x) es.toList).run Tryz.prog w = .ok none w ∧ f x = false) := by
    rcases findKey_tok x es.toList w with hk | hk
    · rw [hk]
      rcases find_tok x w D es.toList 0 h2 with ⟨k1, k2, -⟩ | ⟨j, e, v, k1, k2, -⟩
      · exact .inr ⟨k1, by rw [← h3, k2]⟩
      · exact .inl ⟨0 + j, by rw [k1, ← h3, k2]⟩
    · rw [hk] at h2 ⊢
      cases D with
      | nil => exact .inr ⟨findKey_nil x w, by rw [← h3]; rfl⟩
      | cons _ _ => cases h2
  rcases hf with ⟨j, hj⟩ | ⟨hj, hfx⟩
  · simp [Instr.lookup, run_underlying Tryz.underlying85, MapKept.run_getObj_map h1, check_tok, hj, Result.andThen]
  · rw [hfx]
    simp [Instr.lookup, run_underlying Tryz.underlying85, MapKept.run_getObj_map h1, check_tok, hj, hz, Result.andThen]
theorem TokMap.update {w : World} {b : Nat} {f : Tok → Bool} (h : TokMap w b f) (x : Tok) (v : Bool) : ∃ o, (Instr.mapUpdate 85 (.map (some b)) (aTok x) (.bool v)).run Tryz.prog w = .ok () { w with heap := w.heap.setIfInBounds b o } ∧
    TokMap { w with heap := w.heap.setIfInBounds b o } b (fun y => if eqB y x = true then v else f y) := by
  have hlt := h.lt
  obtain ⟨es, c, D, h1, h2, h3⟩ := h
  have hf : (∃ j e, (Instr.findKey 45 (aTok x) es.toList).run Tryz.prog w = .ok (some (j, e.val)) w ∧ es.toList[j]? = some e ∧ e.key = aTok x ∧ (es.toList.set j { e with key := aTok x, val := .bool v }).map ev = (setAt D x v).map pv) ∨ ((Instr.findKey 45 (aTok x) es.toList).run Tryz.prog w = .ok none w ∧ setAt D x v = D ++ [(x, v)]) := by
    rcases findKey_tok x es.toList w with hk | hk
    · rw [hk]
      rcases find_tok x w D es.toList 0 h2 with ⟨k1, k2, k3⟩ | ⟨j, e, u, k1, k2, k3, k4, k5⟩
      · exact .inr ⟨k1, k3 v⟩
      · exact .inl ⟨j, e, by rw [k1, Nat.zero_add, k4.2], k3, k4.1, k5 v⟩
    · rw [hk] at h2 ⊢
      cases D with
      | nil => exact .inr ⟨findKey_nil x w, rfl⟩
      | cons _ _ => cases h2
  rcases hf with ⟨j, e, hj, he, hk, hs⟩ | ⟨hj, hs⟩
  · have he' : es[j]? = some e := by simpa using he
    refine ⟨_, by simp [Instr.mapUpdate, run_underlying Tryz.underlying85, MapKept.run_getObj_map h1, check_tok, hj, he', hk, key_stays, MapKept.run_setObj_map _ h1, Result.andThen]; rfl, es.modify j fun e => { key := aTok x, val := .bool v, born := e.born }, c, setAt D x v, by simp [hlt], ?_, fun y => ?_⟩
    · rw [Array.toList_modify, ← hs, Go.ChangeMaps.modify_eq_set _ _ _ _ he]
    · rw [look_setAt, h3]
  · refine ⟨_, by simp [Instr.mapUpdate, run_underlying Tryz.underlying85, MapKept.run_getObj_map h1, check_tok, hj, MapKept.run_setObj_map _ h1, Result.andThen]; rfl, es.push { key := aTok x, val := .bool v, born := c }, c + 1, setAt D x v, by simp [hlt], ?_, fun y => ?_⟩
    · simp [h2, hs, ev, pv]
    · rw [look_setAt, h3]
end Go.Proofs.YtbmknmjcoeinkaaGreat.Mk

/- mark.Sure, reliquaryref12.Sure, mark.Live's closure, walked. (Layer 12.) -/
namespace Go.Proofs.YtbmknmjcoeinkaaGreat.Mk
set_option linter.unusedVariables false
open Go.RowKit
open Oct (Moved)
def sureB (t : Tb) (n : Int) : Bool := decide (n < 2 * (t.acks.length : Int))
theorem sure_any (x : TbR) (n : Int) (w : World) (h : x.Reads w) (hf : x.t.acks.length ≤ 1000000) : Calls Tryz.prog 20 #[aTb x, .int .i64 n] w fun e w' => e = .returned (.bool (sureB x.t n)) ∧ Below w.heap.size w w' := by
  obtain ⟨⟨a, b, c, l1, l2⟩, cv, av⟩ := x
  obtain ⟨-, h2⟩ := h
  dsimp only at hf h2
  obtain ⟨ao, cap, rfl, h3, h4⟩ := h2.form
  obtain ⟨k, hk⟩ : ∃ k, k = l2.length := ⟨_, rfl⟩
  have hr : sureB ⟨a, b, c, l1, l2⟩ n = decide (n < 2 * (k : Int)) := by rw [hk]; rfl
  rw [hr]
  rw [← hk] at hf ⊢
  have hw : IntKind.i64.wrap (2 * (k : Int)) = 2 * (k : Int) := IntWalk.i64_in _ (by omega)
  clear h2 h3 h4 hk hr
  obtain ⟨q, hq⟩ : ∃ q, q = decide (n < 2 * (k : Int)) := ⟨_, rfl⟩
  rw [← hq]
  have HQ := Lib.hid hq
  have hq' := hq.symm
  clear hq
  unfold aTb
  go_enter Tryz.func20, Tryz.ntmps20
  go_wp2_with fail
  go_ret
  exact ⟨by first | rfl | rw [hq'], ((Below.refl _ _).alloc (Nat.le_refl _) _)⟩
theorem live1_any (x : Tok) (P b : Nat) (f : Tok → Bool) (w : World) (hm : TokMap w b f) (hP : BlkIs w P 85 #[.map (some b)]) : Calls Tryz.prog 59 #[aTok x, .pointer (some ⟨P, 0, none⟩)] w fun e w' => e = .returned (.bool (f x)) ∧ Below w.heap.size w w' := by
  obtain ⟨W1, hW1⟩ : ∃ W1, W1 = w.alloc (.cells #[.int .i64 x.node, .int .i64 x.n, .string x.id] 45) := ⟨_, rfl⟩
  have hb : Below w.heap.size w W1 := by rw [hW1]; exact (Below.refl _ _).alloc (Nat.le_refl _) _
  have k1 : BlkIs W1 w.heap.size 45 #[.int .i64 x.node, .int .i64 x.n, .string x.id] := by rw [hW1]; exact BlkIs.new _ _ _
  have k2 : BlkIs W1 P 85 #[.map (some b)] := BlkIs.below hP hb hP.lt
  have lk := (hm.below hb hm.lt).lookup x
  obtain ⟨q, hq⟩ : ∃ q, q = f x := ⟨_, rfl⟩
  rw [← hq] at lk ⊢
  obtain ⟨x0, x1, x2⟩ := x
  change (Instr.lookup 85 (.map (some b)) (.agg #[.int .i64 x0, .int .i64 x1, .string x2]) false).run Tryz.prog W1 = .ok (.bool q) W1 at lk
  dsimp only at hW1 k1
  have c0 : W1.cell? ⟨P, 0, none⟩ = some (.map (some b)) := k2.cell 0
  have d0 : W1.cell? ⟨w.heap.size, 0, none⟩ = some (.int .i64 x0) := k1.cell 0
  have d1 : W1.cell? ⟨w.heap.size, 1, none⟩ = some (.int .i64 x1) := k1.cell 1
  have d2 : W1.cell? ⟨w.heap.size, 2, none⟩ = some (.string x2) := k1.cell 2
  have HB := Lib.hid hb
  clear hq hb k1 k2 hm hP
  rw [hW1] at lk c0 d0 d1 d2 HB
  clear hW1
  unfold aTok
  go_enter Tryz.func59, Tryz.ntmps59
  go_wp2_with fail
  go_ret
  exact ⟨rfl, HB.out⟩
end Go.Proofs.YtbmknmjcoeinkaaGreat.Mk

/- slices.Clone and slices.DeleteFunc at tokens, walked, as Live calls them. (Layer 12.) -/
namespace Go.Proofs.YtbmknmjcoeinkaaGreat.Mk
set_option linter.unusedVariables false
open Go.RowKit Go.Lib
open Oct (Moved)
theorem TokMap.moved {w w' : World} {b g : Nat} {f : Tok → Bool} (h : TokMap w b f) (hm : Moved g w w') (hg : b ≠ g) : TokMap w' b f := by
  have hlt := h.lt
  obtain ⟨es, c, D, h1, h2, h3⟩ := h
  exact ⟨es, c, D, by rw [hm.block b hlt (by simpa using hg)]; exact h1, h2, h3⟩
/-- The tokens of a row that may be written. -/
def OwnT (w : World) (g off : Nat) (l : List Tok) : Prop := ∀ i (h : i < l.length), (w.cell? ⟨g, off + i * 3, none⟩ = some (.int .i64 l[i].node) ∧ w.cell? ⟨g, off + i * 3 + 1, none⟩ = some (.int .i64 l[i].n) ∧ w.cell? ⟨g, off + i * 3 + 2, none⟩ = some (.string l[i].id)) ∧
  w.frozen? ⟨g, off + i * 3, none⟩ = false ∧ w.frozen? ⟨g, off + i * 3 + 1, none⟩ = false ∧ w.frozen? ⟨g, off + i * 3 + 2, none⟩ = false
theorem OwnT.below {w w' : World} {g off : Nat} {l : List Tok} (h : OwnT w g off l) (hb : Below w.heap.size w w') (hg : g < w.heap.size) : OwnT w' g off l := fun i hi => by
  obtain ⟨⟨h1, h2, h3⟩, h4, h5, h6⟩ := h i hi
  exact ⟨⟨by rw [hb.cell hg]; exact h1, by rw [hb.cell hg]; exact h2, by rw [hb.cell hg]; exact h3⟩, by rw [hb.frozen hg]; exact h4, by rw [hb.frozen hg]; exact h5, by rw [hb.frozen hg]; exact h6⟩
theorem OwnT.of_sl {w : World} {base g off cap : Nat} {l : List Tok} (h : SlIs w base 45 3 (.slice (some ⟨g, off, none⟩) l.length cap) l.length (rowCells vTok l)) : OwnT w g off l := fun i hi => by
  obtain ⟨g', off', cap', hv, -, -, -, -, hc, hf⟩ := h.at_ (by omega)
  injection hv with e1 e2 e3
  injection e1 with e1
  injection e1 with e1 e4
  subst e1 e4
  have hl : (rowCells vTok l).length = l.length * 3 := rowCells_len (enc := vTok) (fun _ => rfl) l
  have g0 := rowCells_get (k := 3) (enc := vTok) (fun _ => rfl) l i hi 0 (by decide)
  have g1 := rowCells_get (k := 3) (enc := vTok) (fun _ => rfl) l i hi 1 (by decide)
  have g2 := rowCells_get (k := 3) (enc := vTok) (fun _ => rfl) l i hi 2 (by decide)
  refine ⟨⟨?_, ?_, ?_⟩, hf (i * 3) (by omega), ?_, ?_⟩
  · rw [hc (i * 3) (by omega)]; exact g0
  · rw [Nat.add_assoc, hc (i * 3 + 1) (by omega)]; exact g1
  · rw [Nat.add_assoc, hc (i * 3 + 2) (by omega)]; exact g2
  · rw [Nat.add_assoc]; exact hf _ (by omega)
  · rw [Nat.add_assoc]; exact hf _ (by omega)
theorem OwnT.row {w : World} {g off cap : Nat} {l : List Tok} (h : OwnT w g off l) (hg : g < w.heap.size) (m : Nat) (hm : m ≤ l.length) (hc : m ≤ cap) (hx : cap ≤ maxLen) : RowAt 3 vTok w (.slice (some ⟨g, off, none⟩) m cap) (l.take m) := by
  have hl : (l.take m).length = m := by rw [List.length_take]; omega
  refine ⟨_, cap, by rw [hl], by rw [hl]; exact hc, hx, fun hn => ⟨g, off, rfl, hg, fun i hi j u hu => ?_⟩⟩
  obtain ⟨⟨h1, h2, h3⟩, -⟩ := h i (by omega)
  rw [List.getElem_take] at hu
  match j, hu with
  | 0, hu => exact h1.trans hu
  | 1, hu => exact h2.trans hu
  | 2, hu => exact h3.trans hu
  | j + 3, hu => simp [vTok] at hu
theorem OwnT.put {w : World} {g off : Nat} {l : List Tok} (h : OwnT w g off l) (i : Nat) (hi : i < l.length) (x : Tok) :
    OwnT (((w.setCell ⟨g, off + i * 3, none⟩ (.int .i64 x.node)).setCell ⟨g, off + i * 3 + 1, none⟩ (.int .i64 x.n)).setCell ⟨g, off + i * 3 + 2, none⟩ (.string x.id)) g off (l.set i x) := fun j hj => by
  have hj' : j < l.length := by simpa using hj
  have hs : (l.set i x)[j] = if i = j then x else l[j] := List.getElem_set ..
  rw [hs]
  obtain ⟨⟨h1, h2, h3⟩, h4, h5, h6⟩ := h j hj'
  obtain ⟨⟨k1, k2, k3⟩, -, -, -⟩ := h i hi
  by_cases e : i = j
  · subst e
    rw [if_pos rfl]
    refine ⟨⟨?_, ?_, ?_⟩, by simpa using h4, by simpa using h5, by simpa using h6⟩
    · rw [World.cell?_setCell_other _ _ _ _ (by simp), World.cell?_setCell_other _ _ _ _ (by simp), World.cell?_setCell_same _ _ _ k1]
    · rw [World.cell?_setCell_other _ _ _ _ (by simp), World.cell?_setCell_same _ _ _ (by rw [World.cell?_setCell_other _ _ _ _ (by simp)]; exact k2)]
    · rw [World.cell?_setCell_same _ _ _ (by rw [World.cell?_setCell_other _ _ _ _ (by simp), World.cell?_setCell_other _ _ _ _ (by simp)]; exact k3)]
  · rw [if_neg e]
    have n1 : ∀ a c, a < 3 → c < 3 → off + j * 3 + a ≠ off + i * 3 + c := fun a c ha hc he => e (by omega)
    refine ⟨⟨?_, ?_, ?_⟩, by simpa using h4, by simpa using h5, by simpa using h6⟩
    · rw [World.cell?_setCell_other _ _ _ _ (by simp <;> omega), World.cell?_setCell_other _ _ _ _ (by simp <;> omega), World.cell?_setCell_other _ _ _ _ (by simp <;> omega)]; exact h1
    · rw [World.cell?_setCell_other _ _ _ _ (by simp <;> omega), World.cell?_setCell_other _ _ _ _ (by simp <;> omega), World.cell?_setCell_other _ _ _ _ (by simp <;> omega)]; exact h2
    · rw [World.cell?_setCell_other _ _ _ _ (by simp <;> omega), World.cell?_setCell_other _ _ _ _ (by simp <;> omega), World.cell?_setCell_other _ _ _ _ (by simp <;> omega)]; exact h3
/-- Where the going stands: i are kept of the first j. -/
def DelInv (p : Tok → Bool) (l : List Tok) (j i : Nat) (dk : List Tok) : Prop := dk.length = l.length ∧ (l.take j).filter (fun x => !p x) = dk.take i ∧ i ≤ j ∧ i ≤ l.length ∧ ∀ t (h : t < dk.length) (h' : t < l.length), j ≤ t → dk[t] = l[t]
theorem DelInv.skip {p : Tok → Bool} {l dk : List Tok} {j i : Nat} (h : DelInv p l j i dk) (hj : j < l.length) (hp : p l[j] = true) : DelInv p l (j + 1) i dk := by
  obtain ⟨h1, h2, h3, h4, h5⟩ := h
  refine ⟨h1, ?_, by omega, h4, fun t ht ht' hjt => h5 t ht ht' (by omega)⟩
  rw [List.take_add_one, List.filter_append, h2, List.getElem?_eq_getElem hj]
  simp [hp]
theorem DelInv.keep {p : Tok → Bool} {l dk : List Tok} {j i : Nat} (h : DelInv p l j i dk) (hj : j < l.length) (hi : i < j) (hp : p l[j] = false) : DelInv p l (j + 1) (i + 1) (dk.set i l[j]) := by
  obtain ⟨h1, h2, h3, h4, h5⟩ := h
  refine ⟨by simpa using h1, ?_, by omega, by omega, fun t ht ht' hjt => ?_⟩
  · rw [List.take_add_one (l := l), List.filter_append, h2, List.getElem?_eq_getElem hj, List.take_add_one, List.getElem?_set_self (by omega), List.take_set_of_le (Nat.le_refl i)]
    simp [hp]
  · rw [List.getElem_set_ne (by omega)]
    exact h5 t (by simpa using ht) ht' (by omega)
theorem DelInv.start {p : Tok → Bool} {l : List Tok} {k : Nat} (hk : k < l.length) (h : ∀ x ∈ l.take k, p x = false) (hp : p l[k] = true) : DelInv p l (k + 1) k l := by
  refine ⟨rfl, ?_, by omega, by omega, fun t ht ht' _ => rfl⟩
  rw [List.take_add_one, List.filter_append, List.getElem?_eq_getElem hk, List.filter_eq_self.2 (fun x hx => by simp [h x hx])]
  simp [hp]
theorem DelInv.fin {p : Tok → Bool} {l dk : List Tok} {i : Nat} (h : DelInv p l l.length i dk) : dk.take i = l.filter (fun x => !p x) := by
  rw [← h.2.1, List.take_length]
theorem run_clear_toks (w : World) (b o n c : Nat) (hn : 0 < n) (hc : ∀ j, j < n * 3 → (w.cell? ⟨b, o + j, none⟩).isSome = true) (hf : ∀ j, j < n * 3 → w.frozen? ⟨b, o + j, none⟩ = false) :
    ∃ zs : List Value, zs.length = n * 3 ∧ ∀ ty, (Builtin.clear_ #[23] ty #[.slice (some ⟨b, o, none⟩) n c]).run Tryz.prog w = .ok (.tuple #[]) (w.setCells b o zs) := by
  have hv : ∀ w, (zeroValue 45).run Tryz.prog w = .ok (.agg #[.int .i64 0, .int .i64 0, .string ⟨#[]⟩]) w := Tryz.zeroValue45
  have ht := Tryz.underlying23
  have hz : (Value.agg #[.int .i64 0, .int .i64 0, .string ⟨#[]⟩]).cells = #[.int .i64 0, .int .i64 0, .string ⟨#[]⟩] := rfl
  have hl : (Builtin.zeroCells #[.int .i64 0, .int .i64 0, .string ⟨#[]⟩] n).toList.length = n * 3 := by simp [Builtin.zeroCells]
  have h1 : ∀ v ∈ (Builtin.zeroCells #[.int .i64 0, .int .i64 0, .string ⟨#[]⟩] n).toList, v.oneCell' = true := by
    intro v hv
    simp only [Builtin.zeroCells, Array.toList_map, List.mem_map] at hv
    obtain ⟨i, _, rfl⟩ := hv
    have : i % 3 < 3 := Nat.mod_lt _ (by decide)
    show (#[Value.int .i64 0, .int .i64 0, .string ⟨#[]⟩][i % 3]!).oneCell' = true
    match i % 3, this with
    | 0, _ => rfl
    | 1, _ => rfl
    | 2, _ => rfl
  have hst := run_storeCells_cells (P := Tryz.prog) b o (Builtin.zeroCells #[.int .i64 0, .int .i64 0, .string ⟨#[]⟩] n).toList 0 w (by rw [hl]; simpa using hc) (by rw [hl]; simpa using hf) h1
  simp only [Nat.add_zero] at hst
  refine ⟨_, hl, fun ty => ?_⟩
  obtain ⟨m, rfl⟩ : ∃ m, n = m + 1 := ⟨n - 1, by omega⟩
  simp [Builtin.clear_, run_underlying ht, hv, hz, hst]
theorem moved_setCells (b : Nat) : ∀ (vs : List Value) (o : Nat) (w w0 : World), Moved b w0 w → Moved b w0 (w.setCells b o vs)
  | [], _, _, _, h => h
  | v :: r, o, w, w0, h => by
    rw [World.setCells]
    exact moved_setCells b r (o + 1) _ w0 (h.setCell rfl v)
/-- Live's closure tells what the map says. -/
theorem live1_tells (l : List Tok) (P b : Nat) (f : Tok → Bool) (w : World) (hm : TokMap w b f) (hP : BlkIs w P 85 #[.map (some b)]) : Tells 59 #[.pointer (some ⟨P, 0, none⟩)] aTok f l w :=
  ⟨enters_of Tryz.func59 (by kernel_rfl) rfl, fun x hx W hW => live1_any x P b f W (hm.below hW hm.lt) (BlkIs.below hP hW hP.lt)⟩
/-- What DeleteFunc hands back. -/
def DelOut (p : Tok → Bool) (l : List Tok) (base : Nat) (w : World) (e : Ending) (w' : World) : Prop := ∃ v', e = .returned v' ∧ RowAt 3 vTok w' v' (l.filter (fun x => !p x)) ∧ Below base w w' ∧ (0 < (l.filter (fun x => !p x)).length → ∀ b off n c, v' = .slice (some ⟨b, off, none⟩) n c → base ≤ b)
set_option maxRecDepth 100000 in
set_option maxHeartbeats 4000000 in
theorem del_tok (v : Value) (l : List Tok) (base P b : Nat) (f : Tok → Bool) (w : World) (h : SlIs w base 45 3 v l.length (rowCells vTok l)) (hm : TokMap w b f) (hP : BlkIs w P 85 #[.map (some b)]) (hPb : P < base) (hbb : b < base) (hn : l.length ≤ 1000000) (hbw : base ≤ w.heap.size) :
    Calls Tryz.prog 58 #[v, .func (.func 59) #[] #[.pointer (some ⟨P, 0, none⟩)]] w fun e w' => DelOut f l base w e w' := by
  have hrow := RowAt.of_sl (enc := vTok) (k := 3) (fun _ => rfl) h
  have IX := ix_tok v l _ _ f w hrow (live1_tells l P b f w hm hP) hn
  obtain ⟨ao, cap, rfl, hc1, hc2, hnil⟩ := h.form
  obtain ⟨n, hnn⟩ : ∃ n, n = l.length := ⟨_, rfl⟩
  rw [← hnn] at hn hc1 IX ⊢
  have H := Lib.hid (And.intro h (And.intro hm (And.intro hP (And.intro hrow (And.intro hPb (And.intro hbb hbw))))))
  have HNN := Lib.hid hnn
  have HIX := Lib.hid IX
  clear h hm hP hrow hPb hbb IX hnil hbw
  by_cases hall : ∀ x ∈ l, f x = false
  · have hq := idxOf_none hall
    have HIX := HIX.out
    rw [hq] at HIX
    have HIX := Lib.hid HIX
    have HAL := Lib.hid hall
    clear hq hall hnn
    go_enter Tryz.func58, Tryz.ntmps58
    go_wp2_with fail
    refine HIX.out.mono ?_
    rintro e w2 ⟨rfl, hb2⟩
    have HB2 := Lib.hid hb2
    clear hb2
    go_wp2_with fail
    go_ret
    refine ⟨.slice ao n cap, rfl, ?_, HB2.out.mono H.out.2.2.2.2.2.2, fun hn b off n' c hv => ?_⟩
    rotate_left
    · rw [List.filter_eq_self.2 (fun x hx => by rw [HAL.out x hx]; rfl)] at hn
      obtain ⟨g, off', cap', hv', hg, -⟩ := H.out.1.at_ hn
      injection hv' with i1 i2 i3
      injection hv with e1 e2 e3
      rw [i1] at e1
      injection e1 with e1
      injection e1 with e1 e4
      subst e1
      exact hg
    have hr := H.out.2.2.2.1.later HB2.out
    rw [← HNN.out] at hr
    rw [List.filter_eq_self.2 (fun x hx => by rw [HAL.out x hx]; rfl)]
    exact hr
  · obtain ⟨k, hk, hk1, hk2⟩ : ∃ (k : Nat) (hk : k < l.length), (∀ x ∈ l.take k, f x = false) ∧ f l[k] = true := by
      have hs : (l.findIdx? f).isSome = true := by
        rw [List.findIdx?_isSome]
        rw [List.any_eq_true]
        exact Classical.byContradiction fun hno => hall fun x hx => by
          rcases hf : f x with _ | _
          · rfl
          · exact absurd ⟨x, hx, hf⟩ hno
      obtain ⟨k, hk⟩ := Option.isSome_iff_exists.1 hs
      obtain ⟨h1, h2, h3⟩ := List.findIdx?_eq_some_iff_getElem.1 hk
      refine ⟨k, h1, fun x hx => ?_, h2⟩
      obtain ⟨j, hj, rfl⟩ := List.mem_take_iff_getElem.1 hx
      simpa using h3 j (by omega)
    have hq := idxOf_some hk hk1 hk2
    have HIX := HIX.out
    rw [hq] at HIX
    have HIX := Lib.hid HIX
    have hkn : k < n := by omega
    have HDI := Lib.hid (DelInv.start hk hk1 hk2)
    obtain ⟨g, off, cap', hv, hg, hlt, -, -, -, -⟩ := H.out.1.at_ (by omega)
    injection hv with e1 e2 e3
    subst e1
    clear e2 e3 cap' hq hk1 hk2 hk hall hnn
    have hO : OwnT w g off l := by
      have h := H.out.1
      rw [← HNN.out] at h
      rw [HNN.out] at h
      exact OwnT.of_sl h
    have HO := Lib.hid hO
    have HG := Lib.hid (And.intro hg hlt)
    have hw1 : IntKind.i64.wrap ((k : Int) + 1) = ((k + 1 : Nat) : Int) := IntWalk.i64_in _ (by omega)
    clear hO hg hlt
    go_enter Tryz.func58, Tryz.ntmps58
    go_wp2_with fail
    refine HIX.out.mono ?_
    rintro e w2 ⟨rfl, hb2⟩
    have HB2 := Lib.hid hb2
    have hkm : ((k : Int) == -1) = false := by
      rw [beq_eq_false_iff_ne]; omega
    clear hb2
    go_wp2_with fail
    go_loopw [5, 6] (fun si sj wr => ∃ (i j : Nat) (dk : List Tok), si = .int .i64 (i : Int) ∧ sj = .int .i64 (j : Int) ∧ i < j ∧ j ≤ n ∧ Hid (DelInv f l j i dk) ∧ Hid (OwnT wr g off dk ∧ Moved g w wr)) (fun _ j _ => n - (intOf j).toNat)
    case atStart => exact ⟨k, k + 1, l, rfl, by simp, by omega, hkn, HDI, Lib.hid ⟨HO.out.below HB2.out HG.out.2, Moved.of_below HB2.out⟩⟩
    case round =>
      obtain ⟨i, j, dk, rfl, rfl, hij, hjn, HD, HWr⟩ := hrel
      have hdl : dk.length = n := by have := HD.out.1; have := HNN.out; omega
      have HDL := Lib.hid hdl
      rcases Nat.lt_or_ge j n with hlt | hge
      · have ki : (j : Int) < n := by omega
        have hjd : j < dk.length := by omega
        obtain ⟨⟨d0, d1, d2⟩, -, -, -⟩ := HWr.out.1 j hjd
        obtain ⟨x, hx⟩ : ∃ x, x = dk[j] := ⟨_, rfl⟩
        rw [← hx] at d0 d1 d2
        have hxl : l[j]? = some x := by
          have hjl : j < l.length := by have := HNN.out; omega
          rw [hx, List.getElem?_eq_getElem hjl, HD.out.2.2.2.2 j hjd hjl (Nat.le_refl _)]
        obtain ⟨x0, x1, x2⟩ := x
        dsimp only at d0 d1 d2
        have HX := Lib.hid hxl
        clear hx hxl hdl
        go_wp2_with fail
        have hPb := H.out.2.2.2.2.1
        have hbb := H.out.2.2.2.2.2.1
        have hgb := HG.out.1
        refine (live1_any ⟨x0, x1, x2⟩ P b f _ ((H.out.2.1.moved HWr.out.2 (by omega)).below ((Below.refl _ _).alloc (Nat.le_refl _) _) (H.out.2.1.moved HWr.out.2 (by omega)).lt) (BlkIs.alloc (HWr.out.2.blk H.out.2.2.1 (by omega)) _)).mono ?_
        rintro e w5 ⟨rfl, hb5⟩
        have bk : BlkIs w5 wr.heap.size 45 #[.int .i64 x0, .int .i64 x1, .string x2] := BlkIs.below (BlkIs.new _ _ _) hb5 (by simp)
        have hbA : Below wr.heap.size wr w5 := ((Below.refl _ _).alloc (Nat.le_refl _) _).trans (hb5.mono (by simp))
        have hgw : g < wr.heap.size := Nat.lt_of_lt_of_le HG.out.2 HWr.out.2.size
        have hO5 := HWr.out.1.below hbA hgw
        have hM5 : Moved g w w5 := HWr.out.2.trans (Moved.of_below hbA)
        obtain ⟨⟨i0, i1, i2⟩, g0, g1, g2⟩ := hO5 i (by have := HDL.out; omega)
        have b0 : w5.cell? ⟨wr.heap.size, 0, none⟩ = some (.int .i64 x0) := bk.cell 0
        have b1 : w5.cell? ⟨wr.heap.size, 1, none⟩ = some (.int .i64 x1) := bk.cell 1
        have b2 : w5.cell? ⟨wr.heap.size, 2, none⟩ = some (.string x2) := bk.cell 2
        have iw : IntKind.i64.wrap ((i : Int) + 1) = ((i + 1 : Nat) : Int) := IntWalk.i64_in _ (by omega)
        have jw : IntKind.i64.wrap ((j : Int) + 1) = ((j + 1 : Nat) : Int) := IntWalk.i64_in _ (by omega)
        have kin : (i : Int) < n := by omega
        have H5 := Lib.hid (And.intro hO5 hM5)
        obtain ⟨y0, hy0⟩ : ∃ y, y = dk[i].node := ⟨_, rfl⟩
        obtain ⟨y1, hy1⟩ : ∃ y, y = dk[i].n := ⟨_, rfl⟩
        obtain ⟨y2, hy2⟩ : ∃ y, y = dk[i].id := ⟨_, rfl⟩
        rw [← hy0] at i0
        rw [← hy1] at i1
        rw [← hy2] at i2
        clear hb5 bk hbA hgw hO5 hM5 hPb hbb hgb d0 d1 d2 hy0 hy1 hy2
        obtain ⟨q, hq⟩ : ∃ q, q = f ⟨x0, x1, x2⟩ := ⟨_, rfl⟩
        rw [← hq]
        have HQ := Lib.hid hq
        clear hq
        cases q
        · go_wp2_with fail
          refine ⟨⟨i + 1, j + 1, dk.set i ⟨x0, x1, x2⟩, by simp, by simp, by omega, by omega, Lib.hid ?_, Lib.hid ⟨H5.out.1.put i (by have := HDL.out; omega) ⟨x0, x1, x2⟩, ?_⟩⟩, by simp [intOf]; omega⟩
          · have hjl : j < l.length := by have := HNN.out; omega
            have hx := HX.out
            rw [List.getElem?_eq_getElem hjl] at hx
            injection hx with hx
            rw [← hx]
            exact HD.out.keep hjl hij (by rw [hx]; exact HQ.out.symm)
          · exact ((H5.out.2.setCell (p := ⟨g, off + i * 3, none⟩) rfl _).setCell (p := ⟨g, off + i * 3 + 1, none⟩) rfl _).setCell (p := ⟨g, off + i * 3 + 2, none⟩) rfl _
        · go_wp2_with fail
          refine ⟨⟨i, j + 1, dk, rfl, by simp, by omega, by omega, Lib.hid ?_, Lib.hid H5.out⟩, by simp [intOf]; omega⟩
          have hjl : j < l.length := by have := HNN.out; omega
          have hx := HX.out
          rw [List.getElem?_eq_getElem hjl] at hx
          injection hx with hx
          exact HD.out.skip hjl (by rw [hx]; exact HQ.out.symm)
      · obtain rfl : n = j := by omega
        have hgw : g < wr.heap.size := Nat.lt_of_lt_of_le HG.out.2 HWr.out.2.size
        have hat : ∀ t, t < (n - i) * 3 → (wr.cell? ⟨g, off + i * 3 + t, none⟩).isSome = true ∧ wr.frozen? ⟨g, off + i * 3 + t, none⟩ = false := fun t ht => by
          obtain ⟨⟨e0, e1, e2⟩, f0, f1, f2⟩ := HWr.out.1 (i + t / 3) (by omega)
          rcases (by omega : t % 3 = 0 ∨ t % 3 = 1 ∨ t % 3 = 2) with hr | hr | hr
          · rw [show off + i * 3 + t = off + (i + t / 3) * 3 by omega]
            exact ⟨by rw [e0]; rfl, f0⟩
          · rw [show off + i * 3 + t = off + (i + t / 3) * 3 + 1 by omega]
            exact ⟨by rw [e1]; rfl, f1⟩
          · rw [show off + i * 3 + t = off + (i + t / 3) * 3 + 2 by omega]
            exact ⟨by rw [e2]; rfl, f2⟩
        obtain ⟨zs, hzl, hcl⟩ := run_clear_toks wr g (off + i * 3) (n - i) (cap - i) (by omega) (fun t ht => (hat t ht).1) (fun t ht => (hat t ht).2)
        have hki : (i : Int) ≤ n := by omega
        have hkc : (i : Int) ≤ cap := by omega
        have Hzl := Lib.hid hzl
        have Hgw := Lib.hid hgw
        clear hat hzl hdl hgw
        go_wp2_with fail
        go_ret
        have hfin := HD.out
        rw [HNN.out] at hfin
        have hr := HWr.out.1.row (cap := cap) Hgw.out i (by have := HDL.out; omega) (by omega) hc2
        rw [hfin.fin] at hr
        have hms := moved_setCells g zs (off + i * 3) wr w HWr.out.2
        refine ⟨.slice (some ⟨g, off, none⟩) i cap, rfl, ?_, (hms.below (Nat.le_of_lt HG.out.2)).mono HG.out.1, fun _ b off n' c hv => ?_⟩
        rotate_left
        · injection hv with e1 e2 e3
          injection e1 with e1
          injection e1 with e1 e4
          subst e1
          exact HG.out.1
        obtain ⟨ao, c, hv, h1, h2, h3⟩ := hr
        refine ⟨ao, c, hv, h1, h2, fun hn => ?_⟩
        obtain ⟨b', o', ha, hlt, hc⟩ := h3 hn
        subst ha
        injection hv with e1 e2 e3
        injection e1 with e1
        injection e1 with e1 e4
        subst e1 e4
        have hs := (moved_setCells g zs (off + i * 3) wr wr (Moved.refl _ _)).size
        refine ⟨g, off, rfl, Nat.lt_of_lt_of_le hlt hs, fun t ht j u hu => ?_⟩
        have hj : j < 3 := (List.getElem?_eq_some_iff.1 hu).1
        rw [World.cell?_setCells_out _ _ _ _ _ (fun _ _ => Or.inl (by show off + t * 3 + j < off + i * 3; omega))]
        exact hc t ht j u hu
end Go.Proofs.YtbmknmjcoeinkaaGreat.Mk

/- slices.Clone at tokens, and mark.Live, walked. (Layer 12.) -/
namespace Go.Proofs.YtbmknmjcoeinkaaGreat.Mk
set_option linter.unusedVariables false
open Go.RowKit Go.Lib
open Oct (Moved)
set_option maxRecDepth 100000 in
set_option maxHeartbeats 1000000 in
theorem clone_tok (v : Value) (l : List Tok) (w : World) (h : RowAt 3 vTok w v l) (hn : l.length ≤ 1000000) :
    Calls Tryz.prog 44 #[v] w fun e w' => ∃ v', e = .returned v' ∧ SlIs w' w.heap.size 45 3 v' l.length (rowCells vTok l) ∧ Below w.heap.size w w' := by
  obtain ⟨ao, cap, rfl, h1, h2, h3⟩ := h
  have hq := run_eql_slice_nil (P := Tryz.prog) w 23 45 ao l.length cap 0 0 Tryz.underlying23
  cases ao with
  | none =>
    have h0 : l.length = 0 := by
      rcases Nat.eq_zero_or_pos l.length with h | h
      · exact h
      · obtain ⟨b, off, ha, _⟩ := h3 h
        cases ha
    have hl : l = [] := List.eq_nil_of_length_eq_zero h0
    subst hl
    clear h1 h2 h3 h0 hn
    change (binOp .eql 23 (.slice none 0 cap) (.slice none 0 0)).run Tryz.prog w = .ok (.bool true) w at hq
    show Calls Tryz.prog 44 #[.slice none 0 cap] w fun e w' => ∃ v', e = .returned v' ∧ SlIs w' w.heap.size 45 3 v' 0 [] ∧ Below w.heap.size w w'
    go_enter Tryz.func44, Tryz.ntmps44
    go_wp2_with fail
    go_ret
    exact ⟨_, rfl, SlIs.nil_ _ _ _ _, Below.refl _ _⟩
  | some a =>
    obtain ⟨n, hnn⟩ : ∃ n, n = l.length := ⟨_, rfl⟩
    have hsrc : SrcIs Tryz.prog (w.alloc (.cells #[] 45)) 23 3 (.slice (some a) n cap) n (rowCells vTok l) := by
      have hl : (rowCells vTok l).length = n * 3 := by rw [hnn]; exact rowCells_len (enc := vTok) (fun _ => rfl) l
      refine SrcIs.cells Tryz.underlying23 _ 3 a n cap _ hl fun j u hu => ?_
      have hj : j < l.length * 3 := by rw [← hnn, ← hl]; exact (List.getElem?_eq_some_iff.1 hu).1
      obtain ⟨b, off, ha, hlt, hc⟩ := h3 (by omega)
      injection ha with ha
      subst ha
      have hg := rowCells_get (k := 3) (enc := vTok) (fun _ => rfl) l (j / 3) (by omega) (j % 3) (by omega)
      rw [show j / 3 * 3 + j % 3 = j by omega] at hg
      rw [hg] at hu
      have := hc (j / 3) (by omega) (j % 3) u hu
      rw [show off + j / 3 * 3 + j % 3 = off + j by omega] at this
      have h5 := cell?_alloc_some (.cells #[] 45) this
      have hadd : (Addr.mk b off none).add j = ⟨b, off + j, none⟩ := by
        unfold Addr.add
        split
        · next h0 => subst h0; rfl
        · rfl
      rw [hadd]
      exact h5
    have hone : ∀ u ∈ rowCells vTok l, u.oneCell' = true := by
      intro u hu
      obtain ⟨x, -, hx⟩ := List.mem_flatMap.1 hu
      simp only [vTok, List.mem_cons, List.not_mem_nil, or_false] at hx
      rcases hx with rfl | rfl | rfl <;> rfl
    have HS := Lib.hid hsrc
    have HO := Lib.hid hone
    rw [← hnn] at hn hq ⊢
    change (binOp .eql 23 (.slice (some a) n cap) (.slice none 0 0)).run Tryz.prog w = .ok (.bool false) w at hq
    clear hsrc hone h1 h2 h3 hnn
    go_enter Tryz.func44, Tryz.ntmps44
    go_wp2_with (refine wpList_append_sl rfl _ _ _ 23 (by rfl) el_tok (base := w.heap.size) (.slice (some ⟨w.heap.size, 0, none⟩) 0 0) 0 [] (by rfl) (SlIs.made (cs := #[]) (BlkIs.new _ _ _) (Nat.le_refl _) rfl (by decide)) _ n (rowCells vTok l) (by rfl) HS.out HO.out (by unfold maxLen; omega) (by omega) (by simp) ?_)
    intro v5 w5 hs5 hg5 hat5
    have hb5 : Below w.heap.size w w5 := ((Below.refl _ _).alloc (Nat.le_refl _) _).grown hg5 (by simp) (fun k hk => Nat.le_of_eq (by simpa [Value.ownBlock] using hk))
    have H5 := Lib.hid (And.intro hs5 hb5)
    obtain ⟨ao5, c5, rfl, -, -, -⟩ := hs5.form
    clear hs5 hg5 hat5 hb5
    go_wp2_with fail
    go_ret
    exact ⟨_, rfl, H5.out⟩
/-- Whether a sure tomb covers a token. -/
noncomputable def covB (ts : List Tb) (n : Int) (x : Tok) : Bool := ts.any fun t => sureB t n && t.cov.any fun y => eqB x y
/-- The tokens that no sure tomb covers. -/
noncomputable def liveL (m : Mks) (n : Int) : List Tok := m.toks.filter fun x => !covB m.tombs n x
theorem covB_snoc (ts : List Tb) (t : Tb) (n : Int) (x : Tok) : covB (ts ++ [t]) n x = (covB ts n x || (sureB t n && t.cov.any fun y => eqB x y)) := by
  unfold covB
  rw [List.any_append, List.any_cons, List.any_nil, Bool.or_false]
theorem TokMap.congr {w : World} {b : Nat} {f g : Tok → Bool} (h : TokMap w b f) (hfg : ∀ x, f x = g x) : TokMap w b g := by
  obtain ⟨es, c, D, h1, h2, h3⟩ := h
  exact ⟨es, c, D, h1, h2, fun x => (h3 x).trans (hfg x)⟩
theorem TokMap.fresh (w : World) : TokMap (w.alloc (.map #[] 0)) w.heap.size (fun _ => false) := ⟨#[], 0, [], heap_alloc_new w _, rfl, fun _ => rfl⟩
/-- What the map says within a tomb. -/
noncomputable def midF (ts : List Tb) (t : Tb) (n : Int) (j : Nat) (x : Tok) : Bool := covB ts n x || (sureB t n && (t.cov.take j).any fun y => eqB x y)
theorem midF_zero (ts : List Tb) (t : Tb) (n : Int) (x : Tok) : covB ts n x = midF ts t n 0 x := by
  unfold midF
  simp
theorem midF_step (ts : List Tb) (t : Tb) (n : Int) (j : Nat) (y : Tok) (hy : t.cov[j]? = some y) (x : Tok) : (if eqB x y = true then (midF ts t n j y || sureB t n) else midF ts t n j x) = midF ts t n (j + 1) x := by
  unfold midF
  rw [List.take_add_one, hy, List.any_append]
  by_cases h : x = y
  · subst h
    rw [if_pos (eqB_self x)]
    simp only [Option.toList_some, List.any_cons, List.any_nil, eqB_self, Bool.or_true, Bool.true_or, Bool.and_true]
    cases covB ts n x <;> cases sureB t n <;> simp
  · rw [if_neg (by rw [eqB_no h]; decide)]
    simp only [Option.toList_some, List.any_cons, List.any_nil, eqB_no h, Bool.or_false]
theorem midF_end (ts : List Tb) (t : Tb) (n : Int) (x : Tok) : midF ts t n t.cov.length x = covB (ts ++ [t]) n x := by
  rw [covB_snoc]
  unfold midF
  rw [List.take_length]
end Go.Proofs.YtbmknmjcoeinkaaGreat.Mk

/- mark.Live, walked. (Layer 12.) -/
namespace Go.Proofs.YtbmknmjcoeinkaaGreat.Mk
set_option linter.unusedVariables false
open Go.RowKit Go.Lib
open Oct (Moved)
theorem wpList_update_tok (w : World) {ops : Array Oper} {rest : List Oper} {o : Oper} {a : Act} {Q : Exit → Act → World → Prop} (hg : o.guard = none) (m x v : Operand) (hop : o.op = Op.mapUpdate 85 m x v)
    (b : Nat) (f : Tok → Bool) (hm : a.eval m = .map (some b)) (hown : TokMap w b f) (key : Tok) (val : Bool) (hx : a.eval x = aTok key) (hv : a.eval v = .bool val)
    (hK : ∀ o', TokMap { w with heap := w.heap.setIfInBounds b o' } b (fun y => if eqB y key = true then val else f y) → wpList Tryz.prog ops Q rest (a.put o.dst undef) { w with heap := w.heap.setIfInBounds b o' }) :
    wpList Tryz.prog ops Q (o :: rest) a w := by
  refine wpList_plain hg fun K' hK' => ?_
  obtain ⟨o', hrun, r1⟩ := hown.update key val
  unfold Oper.wp
  simp [execOp, hop, hm, hx, hv, hrun, Result.andThen]
  exact hK' _ _ (hK o' r1)
theorem below_map {B : Nat} {w0 w : World} (h : Below B w0 w) (b : Nat) (o : Obj) (hb : B ≤ b) : Below B w0 { w with heap := w.heap.setIfInBounds b o } :=
  ⟨h.os, h.tape, h.output, by simpa using h.size, fun k hk => by
    have : ({ w with heap := w.heap.setIfInBounds b o } : World).heap[k]? = w.heap[k]? := by
      show (w.heap.setIfInBounds b o)[k]? = _
      rw [Array.getElem?_setIfInBounds, if_neg (by omega)]
    rw [this]
    exact h.block k hk⟩
theorem blk_map {w : World} {g : Nat} {t : TypeId} {cs : Array Value} (h : BlkIs w g t cs) (b : Nat) (o : Obj) (hb : b ≠ g) : BlkIs { w with heap := w.heap.setIfInBounds b o } g t cs := by
  unfold BlkIs at *
  show (w.heap.setIfInBounds b o)[g]? = _
  rw [Array.getElem?_setIfInBounds, if_neg hb]
  exact h
theorem TokMap.ne_blk {w : World} {b g : Nat} {f : Tok → Bool} {t : TypeId} {cs : Array Value} (h : TokMap w b f) (hB : BlkIs w g t cs) : b ≠ g := fun e => by
  obtain ⟨es, c, D, h1, -, -⟩ := h
  subst e
  unfold BlkIs at hB
  rw [hB] at h1
  cases h1
/-- Where Live stands: what the map says. -/
def LiveSt (w : World) (P b : Nat) (cs : Array Value) (f : Tok → Bool) (wr : World) : Prop :=
  Below w.heap.size w wr ∧ BlkIs wr w.heap.size 26 cs ∧ BlkIs wr P 85 #[.map (some b)] ∧ TokMap wr b f
theorem LiveSt.later {w : World} {P b : Nat} {cs : Array Value} {f : Tok → Bool} {wr w' : World} (h : LiveSt w P b cs f wr) (hb : Below wr.heap.size wr w') : LiveSt w P b cs f w' :=
  ⟨h.1.trans (hb.mono h.1.size), BlkIs.below h.2.1 hb h.2.1.lt, BlkIs.below h.2.2.1 hb h.2.2.1.lt, h.2.2.2.below hb h.2.2.2.lt⟩
theorem LiveSt.update {w : World} {P b : Nat} {cs : Array Value} {f g : Tok → Bool} {wr : World} (h : LiveSt w P b cs f wr) (o : Obj) (hb : w.heap.size ≤ b) (hg : TokMap { wr with heap := wr.heap.setIfInBounds b o } b g) : LiveSt w P b cs g { wr with heap := wr.heap.setIfInBounds b o } :=
  ⟨below_map h.1 b o hb, blk_map h.2.1 b o (h.2.2.2.ne_blk h.2.1), blk_map h.2.2.1 b o (h.2.2.2.ne_blk h.2.2.1), hg⟩
theorem LiveSt.congr {w : World} {P b : Nat} {cs : Array Value} {f g : Tok → Bool} {wr : World} (h : LiveSt w P b cs f wr) (hfg : ∀ x, f x = g x) : LiveSt w P b cs g wr := ⟨h.1, h.2.1, h.2.2.1, h.2.2.2.congr hfg⟩
set_option maxRecDepth 100000 in
set_option maxHeartbeats 8000000 in
theorem live_any (m : MkR) (n : Int) (w : World) (h : m.Reads w) (hs : m.Small) : Calls Tryz.prog 19 #[aMk m, .int .i64 n] w fun e w' => ∃ v, e = .returned v ∧ RowAt 3 vTok w' v (liveL m.mk_ n) ∧ Below w.heap.size w w' ∧ (0 < (liveL m.mk_ n).length → ∀ b off n c, v = .slice (some ⟨b, off, none⟩) n c → w.heap.size ≤ b) := by
  obtain ⟨refs, toks, zs, rv, kv, bv⟩ := m
  obtain ⟨h1, h2, h3, h4⟩ := h
  obtain ⟨s1, s2, s3, s4⟩ := hs
  dsimp only at h1 h2 h3 h4 s1 s2 s3 s4
  show Calls Tryz.prog 19 #[.agg #[rv, kv, bv], .int .i64 n] w fun e w' => ∃ v, e = .returned v ∧ RowAt 3 vTok w' v (toks.filter fun x => !covB (zs.map (·.t)) n x) ∧ Below w.heap.size w w' ∧ (0 < (toks.filter fun x => !covB (zs.map (·.t)) n x).length → ∀ b off n c, v = .slice (some ⟨b, off, none⟩) n c → w.heap.size ≤ b)
  obtain ⟨o1, f1, hr1, -, -⟩ := h1.form
  obtain ⟨o2, f2, hr2, -, -⟩ := h2.form
  obtain ⟨o3, f3, hr3, -, -⟩ := h3.form
  obtain ⟨n1, hn1⟩ : ∃ k, k = refs.length := ⟨_, rfl⟩
  obtain ⟨n2, hn2⟩ : ∃ k, k = toks.length := ⟨_, rfl⟩
  obtain ⟨n3, hn3⟩ : ∃ k, k = zs.length := ⟨_, rfl⟩
  rw [← hn1] at hr1
  rw [← hn2] at hr2 s2
  rw [← hn3] at hr3 s3
  subst hr1 hr2 hr3
  obtain ⟨W1, hW1⟩ : ∃ W1, W1 = ((w.alloc (.cells #[.slice o1 n1 f1, .slice o2 n2 f2, .slice o3 n3 f3] 26)).alloc (.map #[] 0)).alloc (.cells #[.map (some (w.heap.size + 1))] 85) := ⟨_, rfl⟩
  have hb1 : Below w.heap.size w W1 := by rw [hW1]; exact (((Below.refl _ _).alloc (Nat.le_refl _) _).alloc (by simp) _).alloc (by simp; omega) _
  have k0 : BlkIs W1 w.heap.size 26 #[.slice o1 n1 f1, .slice o2 n2 f2, .slice o3 n3 f3] := by rw [hW1]; exact ((BlkIs.new _ _ _).alloc _).alloc _
  have k2 : BlkIs W1 (w.heap.size + 2) 85 #[.map (some (w.heap.size + 1))] := by
    rw [hW1]
    have := BlkIs.new ((w.alloc (.cells #[.slice o1 n1 f1, .slice o2 n2 f2, .slice o3 n3 f3] 26)).alloc (.map #[] 0)) 85 #[.map (some (w.heap.size + 1))]
    simpa using this
  have k1 : TokMap W1 (w.heap.size + 1) (fun _ => false) := by
    rw [hW1]
    have := TokMap.fresh (w.alloc (.cells #[.slice o1 n1 f1, .slice o2 n2 f2, .slice o3 n3 f3] 26))
    rw [show (w.alloc (.cells #[.slice o1 n1 f1, .slice o2 n2 f2, .slice o3 n3 f3] 26)).heap.size = w.heap.size + 1 by simp] at this
    exact this.below ((Below.refl _ _).alloc (Nat.le_refl _) _) this.lt
  have H := Lib.hid (And.intro h1 (And.intro h2 (And.intro h3 h4)))
  have HS := Lib.hid s4
  have HN := Lib.hid (And.intro hn1 (And.intro hn2 hn3))
  have HK := Lib.hid (And.intro hb1 (And.intro k0 (And.intro k2 k1)))
  have HW := Lib.hid hW1
  have d2 : W1.cell? ⟨w.heap.size, 2, none⟩ = some (.slice o3 n3 f3) := k0.cell 2
  have hmm := @run_makeMap Tryz.prog
  clear h1 h2 h3 h4 hn1 hn2 hn3 hW1 hb1 k0 k1 k2 s4
  go_enter Tryz.func19, Tryz.ntmps19
  go_wp2_with fail
  obtain ⟨P, hP⟩ : ∃ P, P = w.heap.size + 1 + 1 := ⟨_, rfl⟩
  obtain ⟨b, hb⟩ : ∃ b, b = w.heap.size + 1 := ⟨_, rfl⟩
  rw [← HW.out]
  have hPb : P = b + 1 := by omega
  rw [show w.heap.size + 1 + 1 = P from hP.symm, show w.heap.size + 1 = b from hb.symm]
  have HST := Lib.hid (show LiveSt w P b #[.slice o1 n1 f1, .slice o2 n2 f2, .slice o3 n3 f3] (fun x => covB [] n x) W1 from by
    have hk := HK.out
    rw [show w.heap.size + 2 = P by omega, show w.heap.size + 1 = b from hb.symm] at hk
    exact ⟨hk.1, hk.2.1, hk.2.2.1, hk.2.2.2⟩)
  have HPB := Lib.hid (show w.heap.size < b ∧ b < P from ⟨by omega, by omega⟩)
  clear HK HW hmm d2 hP hb hPb
  go_loopw [14] (fun s wr => ∃ k : Nat, s = .int .i64 (k : Int) ∧ k ≤ n3 ∧ Hid (LiveSt w P b #[.slice o1 n1 f1, .slice o2 n2 f2, .slice o3 n3 f3] (fun x => covB ((zs.map (·.t)).take k) n x) wr)) (fun i _ => n3 - (intOf i).toNat)
  case atStart => exact ⟨0, rfl, Nat.zero_le _, HST⟩
  case round =>
    obtain ⟨k, rfl, hkn, HL⟩ := hrel
    rcases Nat.lt_or_ge k n3 with hlt | hge
    · have ki : (k : Int) < n3 := by omega
      have kw : IntKind.i64.wrap ((k : Int) + 1) = ((k + 1 : Nat) : Int) := IntWalk.i64_in _ (by omega)
      have hkz : k < zs.length := by have := HN.out.2.2; omega
      have hL := HL.out
      obtain ⟨b3, off3, ha3, hlt3, hc3⟩ := (H.out.2.2.1.later hL.1).at_ (by omega)
      obtain ⟨x, hx⟩ : ∃ x, x = zs[k] := ⟨_, rfl⟩
      have hxz : x ∈ zs := by rw [hx]; exact List.getElem_mem hkz
      have HXR := Lib.hid (H.out.2.2.2 x hxz)
      have HXF := Lib.hid (HS.out x hxz)
      have hxr := HXR.out
      have e0 := hc3 k hkz 0 _ (by rw [← hx]; rfl)
      have e1 := hc3 k hkz 1 _ (by rw [← hx]; rfl)
      have e2 := hc3 k hkz 2 _ (by rw [← hx]; rfl)
      have e3 := hc3 k hkz 3 _ (by rw [← hx]; rfl)
      have e4 := hc3 k hkz 4 _ (by rw [← hx]; rfl)
      have hts : (zs.map (·.t))[k]? = some x.t := by rw [List.getElem?_map, List.getElem?_eq_getElem hkz, ← hx]; rfl
      have HTS := Lib.hid hts
      obtain ⟨⟨a0, a1, a2, lc, la⟩, cv, av⟩ := x
      dsimp only at e0 e1 e2 e3 e4
      obtain ⟨oc, fc, hcv, hcl, hcm⟩ := hxr.1.form
      obtain ⟨oa, fa, hav, -, -⟩ := hxr.2.form
      dsimp only at hcv hav hcl
      obtain ⟨nc, hnc⟩ : ∃ q, q = lc.length := ⟨_, rfl⟩
      obtain ⟨na, hna⟩ : ∃ q, q = la.length := ⟨_, rfl⟩
      rw [← hnc] at hcv
      rw [← hna] at hav
      subst hcv hav
      rw [show off3 + k * 5 + 0 = off3 + k * 5 from rfl] at e0
      subst ha3
      have hfc : nc ≤ 1000000 := by have := HXF.out.2; dsimp only at this; omega
      have HNC := Lib.hid (And.intro hnc hna)
      have HKZ := Lib.hid hkz
      clear hL hlt3 hc3 hx hxz hxr hts hcl hcm hnc hna hkz
      go_wp2_with fail
      obtain ⟨X1, hX1⟩ : ∃ X, X = wr.heap.size := ⟨_, rfl⟩
      obtain ⟨W2, hW2⟩ : ∃ W2, W2 = wr.alloc (.cells #[.int .i64 a0, .int .i64 a1, .string a2, .slice oc nc fc, .slice oa na fa] 43) := ⟨_, rfl⟩
      rw [← hX1, ← hW2]
      have HS2 := Lib.hid (show LiveSt w P b #[.slice o1 n1 f1, .slice o2 n2 f2, .slice (some ⟨b3, off3, none⟩) n3 f3] (fun y => midF ((zs.map (·.t)).take k) ⟨a0, a1, a2, lc, la⟩ n 0 y) W2 ∧ BlkIs W2 X1 43 #[.int .i64 a0, .int .i64 a1, .string a2, .slice oc nc fc, .slice oa na fa] from by
        refine ⟨LiveSt.congr (f := fun y => covB ((zs.map (·.t)).take k) n y) ?_ (fun y => midF_zero _ _ _ _), ?_⟩
        · exact HL.out.later (by rw [hW2]; exact (Below.refl _ _).alloc (Nat.le_refl _) _)
        · rw [hW2, hX1]; exact BlkIs.new _ _ _)
      clear hX1 hW2 e0 e1 e2 e3 e4
      clear HL
      go_loopw [21] (fun s w2 => ∃ j : Nat, s = .int .i64 (j : Int) ∧ j ≤ nc ∧ Hid (LiveSt w P b #[.slice o1 n1 f1, .slice o2 n2 f2, .slice (some ⟨b3, off3, none⟩) n3 f3] (fun y => midF ((zs.map (·.t)).take k) ⟨a0, a1, a2, lc, la⟩ n j y) w2 ∧ BlkIs w2 X1 43 #[.int .i64 a0, .int .i64 a1, .string a2, .slice oc nc fc, .slice oa na fa])) (fun i _ => nc - (intOf i).toNat)
      case atStart => exact ⟨0, rfl, Nat.zero_le _, HS2⟩
      case round =>
        clear HS2
        obtain ⟨j, rfl, hjn, HL2⟩ := hrel
        rcases Nat.lt_or_ge j nc with hlt2 | hge2
        · have ji : (j : Int) < nc := by omega
          have jw : IntKind.i64.wrap ((j : Int) + 1) = ((j + 1 : Nat) : Int) := IntWalk.i64_in _ (by omega)
          have hjl : j < lc.length := by have := HNC.out.1; omega
          obtain ⟨b4, off4, ha4, hlt4, hc4⟩ := (HXR.out.1.later HL2.out.1.1).at_ (by omega)
          dsimp only at hc4
          obtain ⟨y, hy⟩ : ∃ y, y = lc[j] := ⟨_, rfl⟩
          have g0 := hc4 j hjl 0 _ (by rw [← hy]; rfl)
          have g1 := hc4 j hjl 1 _ (by rw [← hy]; rfl)
          have g2 := hc4 j hjl 2 _ (by rw [← hy]; rfl)
          have HY := Lib.hid (show lc[j]? = some y by rw [List.getElem?_eq_getElem hjl, ← hy])
          obtain ⟨y0, y1, y2⟩ := y
          dsimp only at g0 g1 g2
          rw [show off4 + j * 3 + 0 = off4 + j * 3 from rfl] at g0
          subst ha4
          clear hlt4 hc4 hy hjl
          obtain ⟨W3, hW3⟩ : ∃ W3, W3 = wr.alloc (.cells #[.int .i64 y0, .int .i64 y1, .string y2] 45) := ⟨_, rfl⟩
          have hb3 : Below wr.heap.size wr W3 := by rw [hW3]; exact (Below.refl _ _).alloc (Nat.le_refl _) _
          have k3 : BlkIs W3 wr.heap.size 45 #[.int .i64 y0, .int .i64 y1, .string y2] := by rw [hW3]; exact BlkIs.new _ _ _
          have L3 := HL2.out.1.later hb3
          have t3 := BlkIs.below HL2.out.2 hb3 HL2.out.2.lt
          have u0 : ∀ X : LaterOf W3, X.w.cell? ⟨wr.heap.size, 0, none⟩ = some (.int .i64 y0) := fun X => (X.blk k3).cell 0
          have u1 : ∀ X : LaterOf W3, X.w.cell? ⟨wr.heap.size, 1, none⟩ = some (.int .i64 y1) := fun X => (X.blk k3).cell 1
          have u2 : ∀ X : LaterOf W3, X.w.cell? ⟨wr.heap.size, 2, none⟩ = some (.string y2) := fun X => (X.blk k3).cell 2
          have v0 : ∀ X : LaterOf W3, X.w.cell? ⟨X1, 0, none⟩ = some (.int .i64 a0) := fun X => (X.blk t3).cell 0
          have v1 : ∀ X : LaterOf W3, X.w.cell? ⟨X1, 1, none⟩ = some (.int .i64 a1) := fun X => (X.blk t3).cell 1
          have v2 : ∀ X : LaterOf W3, X.w.cell? ⟨X1, 2, none⟩ = some (.string a2) := fun X => (X.blk t3).cell 2
          have v3 : ∀ X : LaterOf W3, X.w.cell? ⟨X1, 3, none⟩ = some (.slice (some ⟨b4, off4, none⟩) nc fc) := fun X => (X.blk t3).cell 3
          have v4 : ∀ X : LaterOf W3, X.w.cell? ⟨X1, 4, none⟩ = some (.slice oa na fa) := fun X => (X.blk t3).cell 4
          have p0 : ∀ X : LaterOf W3, X.w.cell? ⟨P, 0, none⟩ = some (.map (some b)) := fun X => (X.blk L3.2.2.1).cell 0
          obtain ⟨q, hq⟩ : ∃ q, q = midF ((zs.map (·.t)).take k) ⟨a0, a1, a2, lc, la⟩ n j ⟨y0, y1, y2⟩ := ⟨_, rfl⟩
          obtain ⟨sb, hsb⟩ : ∃ sb, sb = sureB ⟨a0, a1, a2, lc, la⟩ n := ⟨_, rfl⟩
          have lk : ∀ X : LaterOf W3, (Instr.lookup 85 (.map (some b)) (.agg #[.int .i64 y0, .int .i64 y1, .string y2]) false).run Tryz.prog X.w = .ok (.bool q) X.w := fun X => by
            rw [hq]
            exact (L3.2.2.2.below X.h L3.2.2.2.lt).lookup ⟨y0, y1, y2⟩
          have T1 : ∀ X : LaterOf W3, Calls Tryz.prog 20 #[.agg #[.int .i64 a0, .int .i64 a1, .string a2, .slice (some ⟨b4, off4, none⟩) nc fc, .slice oa na fa], .int .i64 n] X.w fun e w' => e = .returned (.bool sb) ∧ Below X.w.heap.size X.w w' := fun X => by
            rw [hsb]
            exact sure_any ⟨⟨a0, a1, a2, lc, la⟩, .slice (some ⟨b4, off4, none⟩) nc fc, .slice oa na fa⟩ n X.w (HXR.out.later ((L3.1.trans (X.h.mono L3.1.size)))) HXF.out.1
          have T1 := Lib.hid T1
          have H3 := Lib.hid (And.intro L3 t3)
          have HW3 := Lib.hid hW3
          have HQ := Lib.hid hq
          have HSB := Lib.hid hsb
          clear hb3 k3 L3 t3 hq hsb hW3
          go_wp2_with fail
          rw [← HW3.out]
          refine wp_region_heads (fun w' => ∃ x : LaterOf W3, w' = x.w) 10 (by kernel_rfl) (by kernel_rfl) ⟨LaterOf.start W3, rfl⟩ ?_
          simp only [List.take_succ_cons, List.take_zero, List.drop_succ_cons, List.drop_zero]
          cases q
          · repeat (go_big_quiet_step (first | with_reducible exact LaterOf.call _ (T1.out _)))
            refine wpQuiet_nil ?_
            intro w4 hw4
            obtain ⟨X, rfl⟩ := hw4
            have HX := Lib.hid (And.intro (H3.out.1.later X.h) (BlkIs.below H3.out.2 X.h H3.out.2.lt))
            obtain ⟨w4, hx4⟩ := X
            clear u0 u1 u2 v0 v1 v2 v3 v4 p0 lk T1
            refine wpList_update_tok w4 rfl _ _ _ rfl b _ (by rfl) HX.out.1.2.2.2 ⟨y0, y1, y2⟩ sb (by rfl) (by rfl) ?_
            intro o' hT
            have hN : LiveSt w P b #[.slice o1 n1 f1, .slice o2 n2 f2, .slice (some ⟨b3, off3, none⟩) n3 f3] (fun y => midF ((zs.map (·.t)).take k) ⟨a0, a1, a2, lc, la⟩ n (j + 1) y) { w4 with heap := w4.heap.setIfInBounds b o' } :=
              LiveSt.congr (HX.out.1.update o' (Nat.le_of_lt HPB.out.1) hT) (fun y => by
                rw [← midF_step _ _ _ j ⟨y0, y1, y2⟩ HY.out y, ← HQ.out, ← HSB.out]
                rfl)
            have hT5 := blk_map HX.out.2 b o' (HX.out.1.2.2.2.ne_blk HX.out.2)
            obtain ⟨w5, hw5⟩ : ∃ w5 : World, w5 = { w4 with heap := w4.heap.setIfInBounds b o' } := ⟨_, rfl⟩
            rw [← hw5] at hN hT5 ⊢
            have HN5 := Lib.hid (And.intro hN hT5)
            clear hN hT5 hw5 hT
            go_wp2_with fail
            exact ⟨⟨j + 1, by simp, by omega, HN5⟩, by simp [intOf]; omega⟩
          · repeat (go_big_quiet_step (first | with_reducible exact LaterOf.call _ (T1.out _)))
            refine wpQuiet_nil ?_
            intro w4 hw4
            obtain ⟨X, rfl⟩ := hw4
            have HX := Lib.hid (And.intro (H3.out.1.later X.h) (BlkIs.below H3.out.2 X.h H3.out.2.lt))
            obtain ⟨w4, hx4⟩ := X
            clear u0 u1 u2 v0 v1 v2 v3 v4 p0 lk T1
            refine wpList_update_tok w4 rfl _ _ _ rfl b _ (by rfl) HX.out.1.2.2.2 ⟨y0, y1, y2⟩ true (by rfl) (by rfl) ?_
            intro o' hT
            have hN : LiveSt w P b #[.slice o1 n1 f1, .slice o2 n2 f2, .slice (some ⟨b3, off3, none⟩) n3 f3] (fun y => midF ((zs.map (·.t)).take k) ⟨a0, a1, a2, lc, la⟩ n (j + 1) y) { w4 with heap := w4.heap.setIfInBounds b o' } :=
              LiveSt.congr (HX.out.1.update o' (Nat.le_of_lt HPB.out.1) hT) (fun y => by
                rw [← midF_step _ _ _ j ⟨y0, y1, y2⟩ HY.out y, ← HQ.out, ← HSB.out]
                rfl)
            have hT5 := blk_map HX.out.2 b o' (HX.out.1.2.2.2.ne_blk HX.out.2)
            obtain ⟨w5, hw5⟩ : ∃ w5 : World, w5 = { w4 with heap := w4.heap.setIfInBounds b o' } := ⟨_, rfl⟩
            rw [← hw5] at hN hT5 ⊢
            have HN5 := Lib.hid (And.intro hN hT5)
            clear hN hT5 hw5 hT
            go_wp2_with fail
            exact ⟨⟨j + 1, by simp, by omega, HN5⟩, by simp [intOf]; omega⟩
        · have ji : decide (j < nc) = false := decide_eq_false (by omega)
          obtain rfl : nc = j := by omega
          go_wp2_with fail
          refine ⟨⟨k + 1, by simp, by omega, Lib.hid (HL2.out.1.congr fun y => ?_)⟩, by simp [intOf]; omega⟩
          rw [List.take_add_one, HTS.out, HNC.out.1]
          exact midF_end _ _ _ _
    · have ki : decide (k < n3) = false := decide_eq_false (by omega)
      obtain rfl : n3 = k := by omega
      have hL := HL.out
      have d1 : wr.cell? ⟨w.heap.size, 1, none⟩ = some (.slice o2 n2 f2) := hL.2.1.cell 1
      have HC := Lib.hid (clone_tok (.slice o2 n2 f2) toks wr (H.out.2.1.later hL.1) (by have := HN.out.2.1; omega))
      clear hL
      go_wp2_with fail
      refine HC.out.mono ?_
      rintro e w5 ⟨v5, rfl, hs5, hb5⟩
      have hL5 := HL.out.later hb5
      obtain ⟨ao5, c5, hv5, -, -, -⟩ := hs5.form
      have HDL := Lib.hid (del_tok v5 toks wr.heap.size P b (fun x => covB ((zs.map (·.t)).take n3) n x) w5 hs5 hL5.2.2.2 hL5.2.2.1 HL.out.2.2.1.lt HL.out.2.2.2.lt (by have := HN.out.2.1; omega) hb5.size)
      have HB5 := Lib.hid hL5.1
      have HBS := Lib.hid HL.out.1.size
      clear hs5 hb5 hL5 hv5 HC d1
      go_wp2_with fail
      refine HDL.out.mono ?_
      rintro e w6 ⟨v6, rfl, hr6, hb6, hge6⟩
      have H6 := Lib.hid (And.intro hr6 (And.intro (HB5.out.trans (hb6.mono HBS.out)) hge6))
      clear hr6 hb6 hge6
      go_wp2_with fail
      go_ret
      have hr6 := H6.out
      rw [List.take_of_length_le (by rw [List.length_map, ← HN.out.2.2]; exact Nat.le_refl _)] at hr6
      exact ⟨_, rfl, hr6.1, hr6.2.1, fun hn b off n' c hv => Nat.le_trans HBS.out (hr6.2.2 hn b off n' c hv)⟩
end Go.Proofs.YtbmknmjcoeinkaaGreat.Mk

