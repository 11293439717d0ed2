/- A Go map from tokens to bools, as it lies; Sure; the closure of Live. (Layer 12.) -/
import Derived.Test.YtngflbakmlddeaaGreatMk10
namespace Go.Proofs.YtngflbakmlddeaaGreat.Mk
set_option linter.unusedVariables false
open Go.RowKit
/-- What a list of pairs says of a token: the first one counts; none: no. -/
noncomputable def look : List (Tok × Bool) → Tok → Bool
  | [], _ => false
  | p :: l, x => if eqB x p.1 = true then p.2 else look l x
theorem eqB_self {α : Type} (a : α) : eqB a a = true := eqB_yes rfl
/-- The pairs with one of them set anew, or one more. -/
noncomputable def setAt : List (Tok × Bool) → Tok → Bool → List (Tok × Bool)
  | [], x, v => [(x, v)]
  | p :: l, x, v => if eqB x p.1 = true then (x, v) :: l else p :: setAt l x v
theorem look_setAt (l : List (Tok × Bool)) (x : Tok) (v : Bool) (y : Tok) : look (setAt l x v) y = if eqB y x = true then v else look l y := by
  induction l with
  | nil => rfl
  | cons p l ih =>
    unfold setAt
    by_cases h1 : x = p.1
    · rw [if_pos (eqB_yes h1)]
      unfold look
      by_cases h : y = x
      · simp only [if_pos (eqB_yes h)]
      · have e1 : ¬ eqB y x = true := by rw [eqB_no h]; decide
        have e2 : ¬ eqB y p.1 = true := by rw [eqB_no (by rw [← h1]; exact h)]; decide
        simp only [if_neg e1, if_neg e2]
    · have e0 : ¬ eqB x p.1 = true := by rw [eqB_no h1]; decide
      rw [if_neg e0]
      unfold look
      rw [ih]
      by_cases h : y = x
      · have e1 : ¬ eqB y p.1 = true := by rw [h]; exact e0
        simp only [if_pos (eqB_yes h), if_neg e1]
      · have e1 : ¬ eqB y x = true := by rw [eqB_no h]; decide
        simp only [if_neg e1]
theorem equal_tok (x y : Tok) (w : World) : (Op.equal 43 (aTok x) (aTok y)).run Tryz.prog w = .ok (eqB x y) w := by
  have h := eql_tok x y w
  rw [run_eql_struct] at h
  show (Op.equalIn 10000 43 (.agg #[.int .i64 x.node, .int .i64 x.n, .string x.id]) (.agg #[.int .i64 y.node, .int .i64 y.n, .string y.id])).run Tryz.prog w = _
  revert h
  generalize (Op.equalIn 10000 43 (.agg #[.int .i64 x.node, .int .i64 x.n, .string x.id]) (.agg #[.int .i64 y.node, .int .i64 y.n, .string y.id])).run Tryz.prog w = r
  intro h
  cases r with
  | ok b w' =>
    simp only [Result.andThen_ok, Result.ok.injEq, Value.bool.injEq] at h
    rw [h.1, h.2]
  | halt x w' => cases h
def pv (p : Tok × Bool) : Value × Value := (aTok p.1, .bool p.2)
def ev (e : MapEntry) : Value × Value := (e.key, e.val)
theorem find_tok (x : Tok) (w : World) : ∀ (D : List (Tok × Bool)) (es : List MapEntry) (i : Nat), es.map ev = D.map pv →
    ((Instr.findAsking 43 (aTok x) es i).run Tryz.prog w = .ok none w ∧ look D x = false ∧ (∀ v, setAt D x v = D ++ [(x, v)])) ∨
    ∃ (j : Nat) (e : MapEntry) (b : Bool), (Instr.findAsking 43 (aTok x) es i).run Tryz.prog w = .ok (some (i + j, .bool b)) w ∧ look D x = b ∧ es[j]? = some e ∧ (e.key = aTok x ∧ e.val = .bool b) ∧ ∀ v, (es.set j { e with key := aTok x, val := .bool v }).map ev = (setAt D x v).map pv := by
  intro D
  induction D with
  | nil =>
    intro es i h
    cases es with
    | nil => exact .inl ⟨rfl, rfl, fun _ => rfl⟩
    | cons _ _ => cases h
  | cons p D ih =>
    intro es i h
    cases es with
    | nil => cases h
    | cons e es =>
      simp only [List.map_cons, List.cons.injEq] at h
      obtain ⟨h1, h2⟩ := h
      have hk : e.key = aTok p.1 := congrArg Prod.fst h1
      have hv : e.val = .bool p.2 := congrArg Prod.snd h1
      by_cases hx : x = p.1
      · refine .inr ⟨0, e, p.2, ?_, ?_, rfl, ⟨by rw [hk, hx], hv⟩, fun v => ?_⟩
        · unfold Instr.findAsking
          simp only [Sem.run_bind, hk, equal_tok, Result.andThen_ok, eqB_yes hx, if_true, hv]
          rfl
        · unfold look; rw [if_pos (eqB_yes hx)]
        · unfold setAt
          rw [if_pos (eqB_yes hx)]
          simp only [List.set_cons_zero, List.map_cons, h2]
          rfl
      · have hrun : (Instr.findAsking 43 (aTok x) (e :: es) i).run Tryz.prog w = (Instr.findAsking 43 (aTok x) es (i + 1)).run Tryz.prog w := by
          conv => lhs; unfold Instr.findAsking
          simp only [Sem.run_bind, hk, equal_tok, Result.andThen_ok, eqB_no hx, Bool.false_eq_true, if_false]
        rw [hrun]
        rcases ih es (i + 1) h2 with ⟨k1, k2, k3⟩ | ⟨j, e', b, k1, k2, k3, k4, k5⟩
        · refine .inl ⟨k1, ?_, fun v => ?_⟩
          · unfold look; rw [if_neg (by rw [eqB_no hx]; decide)]; exact k2
          · unfold setAt; rw [if_neg (by rw [eqB_no hx]; decide), k3]; rfl
        · refine .inr ⟨j + 1, e', b, ?_, ?_, by simpa using k3, k4, fun v => ?_⟩
          · rw [k1, show i + 1 + j = i + (j + 1) by omega]
          · unfold look; rw [if_neg (by rw [eqB_no hx]; decide)]; exact k2
          · unfold setAt
            rw [if_neg (by rw [eqB_no hx]; decide)]
            simp only [List.set_cons_succ, List.map_cons, k5 v, h1]
/-- Block b is a map that says f of tokens. -/
def TokMap (w : World) (b : Nat) (f : Tok → Bool) : Prop := ∃ es clock D, w.heap[b]? = some (.map es clock) ∧ es.toList.map ev = List.map pv D ∧ ∀ x, look D x = f x
theorem TokMap.lt {w : World} {b : Nat} {f : Tok → Bool} (h : TokMap w b f) : b < w.heap.size := by
  obtain ⟨es, c, D, h1, -, -⟩ := h
  exact (Array.getElem?_eq_some_iff.1 h1).1
theorem TokMap.below {w w' : World} {b B : Nat} {f : Tok → Bool} (h : TokMap w b f) (hb : Below B w w') (hB : b < B) : TokMap w' b f := by
  obtain ⟨es, c, D, h1, h2, h3⟩ := h
  exact ⟨es, c, D, by rw [hb.block b hB]; exact h1, h2, h3⟩
theorem check_tok (x : Tok) (w : World) (em : Bool) : (Instr.checkKey em 10000 43 (aTok x)).run Tryz.prog w = .ok () w := by
  have u3 := Tryz.underlying3
  have u9 := Tryz.underlying9
  have a3 := Tryz.isAgg3
  have z3 := Tryz.sizeOf3
  have a9 := Tryz.isAgg9
  have z9 := Tryz.sizeOf9
  have ut := Tryz.underlying43
  have hi : ∀ (n : Int) (w : World), (Instr.checkKey em 9999 3 (.int .i64 n)).run Tryz.prog w = .ok () w := fun n w => MapKept.run_checkKey u3 (show MapKept.IsKey (.int .i64) (.int .i64 n) from rfl) em 9998
  have hs : ∀ (n : ByteArray) (w : World), (Instr.checkKey em 9999 9 (.string n)).run Tryz.prog w = .ok () w := fun n w => MapKept.run_checkKey u9 (show MapKept.IsKey .string (.string n) from trivial) em 9998
  rw [show (10000 : Nat) = 9999 + 1 from rfl]
  unfold Instr.checkKey aTok
  simp only [Sem.run_bind, run_underlying ut, Result.andThen_ok]
  rw [← Array.forIn_toList]
  simp only [List.forIn_cons, List.forIn_nil]
  simp [Sem.run_bind, part, a3, a9, hi, hs, Result.andThen_ok]
theorem key_stays (x : Tok) (w : World) : (Instr.keyThatStays (aTok x) (aTok x)).run Tryz.prog w = .ok (aTok x) w := by
  have : Instr.sameBits 10000 (aTok x) (aTok x) = true := by
    unfold aTok
    rw [show (10000 : Nat) = 9999 + 1 from rfl]
    simp [Instr.sameBits, beq_toListBytes]
  unfold Instr.keyThatStays
  rw [this]
  rfl
theorem findKey_nil (x : Tok) (w : World) : (Instr.findKey 43 (aTok x) []).run Tryz.prog w = .ok none w := by
  unfold Instr.findKey
  simp only [Sem.run_bind, run_underlying Tryz.underlying43, Result.andThen_ok]
  rfl
theorem findKey_tok (x : Tok) (es : List MapEntry) (w : World) : (Instr.findKey 43 (aTok x) es).run Tryz.prog w = (Instr.findAsking 43 (aTok x) es).run Tryz.prog w ∨ es = [] := by
  cases es with
  | nil => exact .inr rfl
  | cons e l =>
    refine .inl ?_
    unfold Instr.findKey
    simp only [Sem.run_bind, run_underlying Tryz.underlying43, Result.andThen_ok]
    rfl
theorem TokMap.lookup {w : World} {b : Nat} {f : Tok → Bool} (h : TokMap w b f) (x : Tok) : (Instr.lookup 102 (.map (some b)) (aTok x) false).run Tryz.prog w = .ok (.bool (f x)) w := by
  obtain ⟨es, c, D, h1, h2, h3⟩ := h
  have hz : (zeroValue 4).run Tryz.prog w = .ok (.bool false) w := by kernel_rfl
  have hf : (∃ j, (Instr.findKey 43 (aTok x) es.toList).run Tryz.prog w = .ok (some (j, .bool (f x))) w) ∨ ((Instr.findKey 43 (aTok x) es.toList).run Tryz.prog w = .ok none w ∧ f x = false) := by
    rcases findKey_tok x es.toList w with hk | hk
    · rw [hk]
      rcases find_tok x w D es.toList 0 h2 with ⟨k1, k2, -⟩ | ⟨j, e, v, k1, k2, -⟩
      · exact .inr ⟨k1, by rw [← h3, k2]⟩
      · exact .inl ⟨0 + j, by rw [k1, ← h3, k2]⟩
    · rw [hk] at h2 ⊢
      cases D with
      | nil => exact .inr ⟨findKey_nil x w, by rw [← h3]; rfl⟩
      | cons _ _ => cases h2
  rcases hf with ⟨j, hj⟩ | ⟨hj, hfx⟩
  · simp [Instr.lookup, run_underlying Tryz.underlying102, MapKept.run_getObj_map h1, check_tok, hj, Result.andThen]
  · rw [hfx]
    simp [Instr.lookup, run_underlying Tryz.underlying102, MapKept.run_getObj_map h1, check_tok, hj, hz, Result.andThen]
theorem TokMap.update {w : World} {b : Nat} {f : Tok → Bool} (h : TokMap w b f) (x : Tok) (v : Bool) : ∃ o, (Instr.mapUpdate 102 (.map (some b)) (aTok x) (.bool v)).run Tryz.prog w = .ok () { w with heap := w.heap.setIfInBounds b o } ∧
    TokMap { w with heap := w.heap.setIfInBounds b o } b (fun y => if eqB y x = true then v else f y) := by
  have hlt := h.lt
  obtain ⟨es, c, D, h1, h2, h3⟩ := h
  have hf : (∃ j e, (Instr.findKey 43 (aTok x) es.toList).run Tryz.prog w = .ok (some (j, e.val)) w ∧ es.toList[j]? = some e ∧ e.key = aTok x ∧ (es.toList.set j { e with key := aTok x, val := .bool v }).map ev = (setAt D x v).map pv) ∨ ((Instr.findKey 43 (aTok x) es.toList).run Tryz.prog w = .ok none w ∧ setAt D x v = D ++ [(x, v)]) := by
    rcases findKey_tok x es.toList w with hk | hk
    · rw [hk]
      rcases find_tok x w D es.toList 0 h2 with ⟨k1, k2, k3⟩ | ⟨j, e, u, k1, k2, k3, k4, k5⟩
      · exact .inr ⟨k1, k3 v⟩
      · exact .inl ⟨j, e, by rw [k1, Nat.zero_add, k4.2], k3, k4.1, k5 v⟩
    · rw [hk] at h2 ⊢
      cases D with
      | nil => exact .inr ⟨findKey_nil x w, rfl⟩
      | cons _ _ => cases h2
  rcases hf with ⟨j, e, hj, he, hk, hs⟩ | ⟨hj, hs⟩
  · have he' : es[j]? = some e := by simpa using he
    refine ⟨_, by simp [Instr.mapUpdate, run_underlying Tryz.underlying102, MapKept.run_getObj_map h1, check_tok, hj, he', hk, key_stays, MapKept.run_setObj_map _ h1, Result.andThen]; rfl, es.modify j fun e => { key := aTok x, val := .bool v, born := e.born }, c, setAt D x v, by simp [hlt], ?_, fun y => ?_⟩
    · rw [Array.toList_modify, ← hs, Go.ChangeMaps.modify_eq_set _ _ _ _ he]
    · rw [look_setAt, h3]
  · refine ⟨_, by simp [Instr.mapUpdate, run_underlying Tryz.underlying102, MapKept.run_getObj_map h1, check_tok, hj, MapKept.run_setObj_map _ h1, Result.andThen]; rfl, es.push { key := aTok x, val := .bool v, born := c }, c + 1, setAt D x v, by simp [hlt], ?_, fun y => ?_⟩
    · simp [h2, hs, ev, pv]
    · rw [look_setAt, h3]
end Go.Proofs.YtngflbakmlddeaaGreat.Mk
