/- A map with text keys that the call has made: its pairs in the order of their coming; looked up, written. No program is named. -/
import Derived.Maps.Own
import Derived.Maps.OwnOps
import Derived.Lib.Hide
namespace Go.Proofs.YthcgdpdijdmelaaGreat
set_option linter.unusedVariables false
open Go.RowKit Go.ChangeMaps Go.MapKept
/-- Where a key stands among pairs, and its value. -/
def findAt : List (ByteArray × Value) → ByteArray → Nat → Option (Nat × Value)
  | [], _, _ => none
  | (k', v) :: r, k, i => if k = k' then some (i, v) else findAt r k (i + 1)
def pairsOf (es : List MapEntry) : List (Value × Value) := es.map fun e => (e.key, e.val)
/-- Block g is a map of these pairs. -/
def SMap (w : World) (g : Nat) (m : List (ByteArray × Value)) : Prop := ∃ es clock, w.heap[g]? = some (.map es clock) ∧ pairsOf es.toList = m.map fun p => (Value.string p.1, p.2)
theorem findNow_pairs (k : ByteArray) : ∀ (es : List MapEntry) (m : List (ByteArray × Value)) (i : Nat), pairsOf es = m.map (fun p => (Value.string p.1, p.2)) → Instr.findNow .string (.string k) es i = some (findAt m k i)
  | [], [], _, _ => rfl
  | [], _ :: _, _, h => by cases h
  | _ :: _, [], _, h => by cases h
  | e :: es, (k', v) :: m, i, h => by
    simp only [pairsOf, List.map_cons, List.cons.injEq, Prod.mk.injEq] at h
    obtain ⟨⟨h1, h2⟩, h3⟩ := h
    have ih := findNow_pairs k es m (i + 1) h3
    unfold Instr.findNow findAt
    rw [h1]
    simp only [Instr.sameNow]
    by_cases hk : k = k'
    · subst hk
      have : (k == k) = true := (MapKept.bytes_beq k k).2 rfl
      rw [this, if_pos rfl, h2]
    · have : (k == k') = false := by
        cases hx : (k == k')
        · rfl
        · exact absurd ((MapKept.bytes_beq k k').1 hx) hk
      rw [this, if_neg hk]
      exact ih
section
variable {P : Program} {w : World} {t kt et : TypeId}
theorem run_findKey (hk : P.underlying kt = some .string) (k : ByteArray) (es : List MapEntry) (m : List (ByteArray × Value)) (h : pairsOf es = m.map fun p => (Value.string p.1, p.2)) :
    (Instr.findKey kt (.string k) es).run P w = .ok (findAt m k 0) w := by
  simp [Instr.findKey, run_underlying hk, findNow_pairs k es m 0 h]
theorem run_check (hk : P.underlying kt = some .string) (b : Bool) (k : ByteArray) : (Instr.checkKey b 10000 kt (.string k)).run P w = .ok () w := by
  show (Instr.checkKey b (9999 + 1) kt (.string k)).run P w = _
  unfold Instr.checkKey
  simp [run_underlying hk]
theorem run_stays (k : ByteArray) : (Instr.keyThatStays (.string k) (.string k)).run P w = .ok (.string k) w := by
  have h : Instr.sameBits 10000 (.string k) (.string k) = true := by
    show Instr.sameBits (9999 + 1) (.string k) (.string k) = true
    unfold Instr.sameBits
    exact (MapKept.bytes_beq k k).2 rfl
  simp [Instr.keyThatStays, h]
theorem run_lookup_smap (ht : P.underlying t = some (.map kt et)) (hk : P.underlying kt = some .string) {z : Value} (hz : (zeroValue et).run P w = .ok z w) {g : Nat} {m : List (ByteArray × Value)} (h : SMap w g m) (k : ByteArray) (c : Bool) :
    (Instr.lookup t (.map (some g)) (.string k) c).run P w = .ok (if c then .tuple #[((findAt m k 0).map (·.2)).getD z, .bool (findAt m k 0).isSome] else ((findAt m k 0).map (·.2)).getD z) w := by
  obtain ⟨es, clock, hb, hp⟩ := h
  have hf := run_findKey (P := P) (w := w) hk k es.toList m hp
  cases hx : findAt m k 0 with
  | none =>
    rw [hx] at hf
    cases c <;> simp [Instr.lookup, run_underlying ht, MapKept.run_getObj_map hb, run_check hk, hf, hz, Result.andThen]
  | some y =>
    rw [hx] at hf
    cases c <;> simp [Instr.lookup, run_underlying ht, MapKept.run_getObj_map hb, run_check hk, hf, Result.andThen]
/-- Pairs with a key's value: in its old place, or behind. -/
def putAt : List (ByteArray × Value) → ByteArray → Value → List (ByteArray × Value)
  | [], k, v => [(k, v)]
  | (k', u) :: r, k, v => if k = k' then (k, v) :: r else (k', u) :: putAt r k v
theorem findAt_none : ∀ (m : List (ByteArray × Value)) (k : ByteArray) (i : Nat) (v : Value), findAt m k i = none → putAt m k v = m ++ [(k, v)]
  | [], _, _, _, _ => rfl
  | (k', u) :: r, k, i, v, h => by
    unfold findAt at h
    split at h
    · cases h
    · next hk => rw [putAt, if_neg hk, findAt_none r k (i + 1) v h]; rfl
theorem findAt_some : ∀ (m : List (ByteArray × Value)) (k : ByteArray) (i j : Nat) (u v : Value), findAt m k i = some (j, u) → ∃ d, j = i + d ∧ m[d]? = some (k, u) ∧ putAt m k v = m.modify d (fun _ => (k, v))
  | (k', u') :: r, k, i, j, u, v, h => by
    unfold findAt at h
    split at h
    · next hk =>
      cases h
      subst hk
      exact ⟨0, rfl, rfl, by rw [putAt, if_pos rfl]; rfl⟩
    · next hk =>
      obtain ⟨d, h1, h2, h3⟩ := findAt_some r k (i + 1) j u v h
      exact ⟨d + 1, by omega, h2, by rw [putAt, if_neg hk, h3]; rfl⟩
theorem run_update_smap (ht : P.underlying t = some (.map kt et)) (hk : P.underlying kt = some .string) {g : Nat} {m : List (ByteArray × Value)} (h : SMap w g m) (k : ByteArray) (v : Value) :
    ∃ w', (Instr.mapUpdate t (.map (some g)) (.string k) v).run P w = .ok () w' ∧ SMap w' g (putAt m k v) ∧ w.grownBy w' (some g) := by
  obtain ⟨es, clock, hb, hp⟩ := h
  have hf := run_findKey (P := P) (w := w) hk k es.toList m hp
  have hg : g < w.heap.size := (Array.getElem?_eq_some_iff.1 hb).1
  cases hx : findAt m k 0 with
  | none =>
    rw [hx] at hf
    refine ⟨_, by simp [Instr.mapUpdate, run_underlying ht, MapKept.run_getObj_map hb, run_check hk, hf, MapKept.run_setObj_map _ hb, Result.andThen]; rfl, ?_, ?_⟩
    · refine ⟨es.push ⟨.string k, v, clock⟩, clock + 1, by simp [hg], ?_⟩
      rw [findAt_none m k 0 v hx]
      unfold pairsOf at hp ⊢
      simp [hp]
    · exact ⟨rfl, rfl, rfl, by simp, fun j hj hne => by
        have hne' : g ≠ j := fun e => hne (by rw [e])
        simp [hne']⟩
  | some y =>
    obtain ⟨j, u⟩ := y
    rw [hx] at hf
    obtain ⟨d, h1, h2, h3⟩ := findAt_some m k 0 j u v hx
    obtain rfl : j = d := by omega
    have hj : (pairsOf es.toList)[j]? = some (.string k, u) := by rw [hp, List.getElem?_map, h2]; rfl
    unfold pairsOf at hj
    rw [List.getElem?_map, Option.map_eq_some_iff] at hj
    obtain ⟨e0, he0, he1⟩ := hj
    have hkey : ((es[j]?).map (·.key)).getD (.string k) = .string k := by
      rw [show es[j]? = some e0 by rw [← he0]; simp]
      exact (Prod.mk.inj he1).1
    refine ⟨_, by simp [Instr.mapUpdate, run_underlying ht, MapKept.run_getObj_map hb, run_check hk, hf, hkey, run_stays, MapKept.run_setObj_map _ hb, Result.andThen]; rfl, ?_, ?_⟩
    · refine ⟨es.modify j (fun e => { e with key := .string k, val := v }), clock, by simp [hg], ?_⟩
      rw [h3]
      unfold pairsOf at hp ⊢
      rw [Array.toList_modify]
      apply List.ext_getElem?
      intro i
      have hi := congrArg (fun l => l[i]?) hp
      simp only [List.getElem?_map] at hi
      rw [List.getElem?_map, List.getElem?_modify, List.getElem?_map, List.getElem?_modify]
      by_cases e : j = i
      · subst e
        simp [he0, h2]
      · simp only [e, if_false]
        simpa using hi
    · exact ⟨rfl, rfl, rfl, by simp, fun j hj hne => by
        have hne' : g ≠ j := fun e => hne (by rw [e])
        simp [hne']⟩
/-- A map just made. -/
theorem SMap.new (w : World) (clock : Nat) : SMap (w.alloc (.map #[] clock)) w.heap.size [] := ⟨#[], clock, (MapKept.heap_alloc w _).1, rfl⟩
theorem SMap.below {w w' : World} {g B : Nat} {m : List (ByteArray × Value)} (h : SMap w g m) (hb : Below B w w') (hg : g < B) : SMap w' g m := by
  obtain ⟨es, clock, h1, h2⟩ := h
  exact ⟨es, clock, (hb.block g hg).trans h1, h2⟩
theorem SMap.lt {w : World} {g : Nat} {m : List (ByteArray × Value)} (h : SMap w g m) : g < w.heap.size := by
  obtain ⟨es, clock, h1, h2⟩ := h
  exact (Array.getElem?_eq_some_iff.1 h1).1
theorem SMap.grown {w w' : World} {g : Nat} {row : Option Nat} {m : List (ByteArray × Value)} (h : SMap w g m) (hg : w.grownBy w' row) (hne : some g ≠ row) : SMap w' g m := by
  obtain ⟨es, clock, h1, h2⟩ := h
  exact ⟨es, clock, (hg.block g (Array.getElem?_eq_some_iff.1 h1).1 hne).trans h1, h2⟩
theorem SMap.alloc {w : World} {g : Nat} {m : List (ByteArray × Value)} (h : SMap w g m) (o : Obj) : SMap (w.alloc o) g m := h.grown (World.grownBy_alloc w o none) (by simp)
/-- 'v, is := m[k]' at the operation. -/
theorem wpList_lookup_smap {ops : Array Oper} {rest : List Oper} {o : Oper} {a : Act} {Q : Exit → Act → World → Prop} (hgd : o.guard = none) (mo x : Operand) (c : Bool) (hop : o.op = Op.lookup t mo x c)
    (ht : P.underlying t = some (.map kt et)) (hk : P.underlying kt = some .string) {z : Value} (hz : (zeroValue et).run P w = .ok z w) {g : Nat} {m : List (ByteArray × Value)} (hm : a.eval mo = .map (some g)) (h : SMap w g m) (k : ByteArray) (hx : a.eval x = .string k)
    (hK : wpList P ops Q rest (a.put o.dst (if c then .tuple #[((findAt m k 0).map (·.2)).getD z, .bool (findAt m k 0).isSome] else ((findAt m k 0).map (·.2)).getD z)) w) : wpList P ops Q (o :: rest) a w := by
  refine wpList_plain hgd fun K' hK' => ?_
  have hrun := run_lookup_smap (P := P) ht hk hz h k c
  unfold Oper.wp
  simp [execOp, hop, hm, hx, hrun, Result.andThen]
  exact hK' _ _ (by simpa using hK)
/-- 'm[k] = v' at the operation. -/
theorem wpList_update_smap {ops : Array Oper} {rest : List Oper} {o : Oper} {a : Act} {Q : Exit → Act → World → Prop} (hgd : o.guard = none) (mo x vo : Operand) (hop : o.op = Op.mapUpdate t mo x vo)
    (ht : P.underlying t = some (.map kt et)) (hk : P.underlying kt = some .string) {g : Nat} {m : List (ByteArray × Value)} (hm : a.eval mo = .map (some g)) (h : SMap w g m) (k : ByteArray) (hx : a.eval x = .string k) (v : Value) (hv : a.eval vo = v)
    (hK : ∀ w', SMap w' g (putAt m k v) → w.grownBy w' (some g) → wpList P ops Q rest (a.put o.dst undef) w') : wpList P ops Q (o :: rest) a w := by
  refine wpList_plain hgd fun K' hK' => ?_
  obtain ⟨w', hrun, r1, r2⟩ := run_update_smap (P := P) ht hk h k v
  unfold Oper.wp
  simp [execOp, hop, hm, hx, hv, hrun, Result.andThen]
  exact hK' _ _ (hK w' r1 r2)
/-- What a look-up with the comma yields; without. -/
def lookT (m : List (ByteArray × Value)) (k : ByteArray) (z : Value) : Value := .tuple #[((findAt m k 0).map (·.2)).getD z, .bool (findAt m k 0).isSome]
def lookF (m : List (ByteArray × Value)) (k : ByteArray) (z : Value) : Value := ((findAt m k 0).map (·.2)).getD z
theorem lookT_none {m : List (ByteArray × Value)} {k : ByteArray} (z : Value) (h : findAt m k 0 = none) : lookT m k z = .tuple #[z, .bool false] := by unfold lookT; rw [h]; rfl
theorem lookT_some {m : List (ByteArray × Value)} {k : ByteArray} (z : Value) {i : Nat} {v : Value} (h : findAt m k 0 = some (i, v)) : lookT m k z = .tuple #[v, .bool true] := by unfold lookT; rw [h]; rfl
theorem lookF_none {m : List (ByteArray × Value)} {k : ByteArray} (z : Value) (h : findAt m k 0 = none) : lookF m k z = z := by unfold lookF; rw [h]; rfl
theorem lookF_some {m : List (ByteArray × Value)} {k : ByteArray} (z : Value) {i : Nat} {v : Value} (h : findAt m k 0 = some (i, v)) : lookF m k z = v := by unfold lookF; rw [h]; rfl
theorem wpList_lookup_ok {ops : Array Oper} {rest : List Oper} {o : Oper} {a : Act} {Q : Exit → Act → World → Prop} (hgd : o.guard = none) (mo x : Operand) (hop : o.op = Op.lookup t mo x true)
    (ht : P.underlying t = some (.map kt et)) (hk : P.underlying kt = some .string) {z : Value} (hz : (zeroValue et).run P w = .ok z w) {g : Nat} {m : List (ByteArray × Value)} (hm : a.eval mo = .map (some g)) (h : SMap w g m) (k : ByteArray) (hx : a.eval x = .string k)
    {v : Value} (hv : lookT m k z = v) (hK : wpList P ops Q rest (a.put o.dst v) w) : wpList P ops Q (o :: rest) a w :=
  wpList_lookup_smap hgd mo x true hop ht hk hz hm h k hx (by rw [if_pos rfl]; rw [← hv] at hK; exact hK)
theorem wpList_lookup_one {ops : Array Oper} {rest : List Oper} {o : Oper} {a : Act} {Q : Exit → Act → World → Prop} (hgd : o.guard = none) (mo x : Operand) (hop : o.op = Op.lookup t mo x false)
    (ht : P.underlying t = some (.map kt et)) (hk : P.underlying kt = some .string) {z : Value} (hz : (zeroValue et).run P w = .ok z w) {g : Nat} {m : List (ByteArray × Value)} (hm : a.eval mo = .map (some g)) (h : SMap w g m) (k : ByteArray) (hx : a.eval x = .string k)
    {v : Value} (hv : lookF m k z = v) (hK : wpList P ops Q rest (a.put o.dst v) w) : wpList P ops Q (o :: rest) a w :=
  wpList_lookup_smap hgd mo x false hop ht hk hz hm h k hx (by rw [if_neg (by decide)]; rw [← hv] at hK; exact hK)
/-- 'map[..]..{k: v}': the same as a write. -/
theorem wpList_insert_smap {ops : Array Oper} {rest : List Oper} {o : Oper} {a : Act} {Q : Exit → Act → World → Prop} (hgd : o.guard = none) (mo x vo : Operand) (hop : o.op = Op.insert t mo x vo)
    (ht : P.underlying t = some (.map kt et)) (hk : P.underlying kt = some .string) {g : Nat} {m : List (ByteArray × Value)} (hm : a.eval mo = .map (some g)) (h : SMap w g m) (k : ByteArray) (hx : a.eval x = .string k) (v : Value) (hv : a.eval vo = v)
    (hK : ∀ w', SMap w' g (putAt m k v) → w.grownBy w' (some g) → wpList P ops Q rest (a.put o.dst undef) w') : wpList P ops Q (o :: rest) a w := by
  refine wpList_plain hgd fun K' hK' => ?_
  obtain ⟨w', hrun, r1, r2⟩ := run_update_smap (P := P) ht hk h k v
  unfold Oper.wp
  simp [execOp, hop, hm, hx, hv, hrun, Result.andThen]
  exact hK' _ _ (hK w' r1 r2)
end
end Go.Proofs.YthcgdpdijdmelaaGreat
