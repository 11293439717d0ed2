/- A map with whole keys that the call has made: new keys laid, looked up, ranged over. No program is named. (Layer 19.) -/
import Derived.Maps.Own
import Derived.Maps.OwnOps
import Derived.Lib.Hide
import Derived.Below
import Derived.Laws.IdiomRangeMap
import Derived.Maps.RangeRun
namespace Go.Proofs.YtljenganlknhbaaGreat.IMap
set_option linter.unusedVariables false
set_option linter.unusedSimpArgs false
open Go.RowKit Go.ChangeMaps Go.MapKept
def entry (p : Int × Int) (i : Nat) : MapEntry := ⟨.int .i64 p.1, .int .i64 p.2, i⟩
def entries : List (Int × Int) → Nat → List MapEntry
  | [], _ => []
  | p :: l, i => entry p i :: entries l (i + 1)
theorem entries_snoc (p : Int × Int) : ∀ (m : List (Int × Int)) (i : Nat), entries (m ++ [p]) i = entries m i ++ [entry p (i + m.length)]
  | [], i => rfl
  | q :: m, i => by
    show entry q i :: entries (m ++ [p]) (i + 1) = entry q i :: (entries m (i + 1) ++ [entry p (i + (m.length + 1))])
    rw [entries_snoc p m (i + 1), Nat.add_assoc, Nat.add_comm 1 m.length]
theorem entries_length : ∀ (m : List (Int × Int)) (i : Nat), (entries m i).length = m.length
  | [], _ => rfl
  | p :: m, i => by rw [entries, List.length_cons, entries_length m, List.length_cons]
theorem entries_mem : ∀ {m : List (Int × Int)} {i : Nat} {e : MapEntry}, e ∈ entries m i → ∃ p ∈ m, ∃ j, i ≤ j ∧ j < i + m.length ∧ e = entry p j
  | p :: m, i, e, h => by
    rcases List.mem_cons.1 h with rfl | h
    · exact ⟨p, by simp, i, Nat.le_refl _, by simp, rfl⟩
    · obtain ⟨q, hq, j, h1, h2, h3⟩ := entries_mem h
      exact ⟨q, by simp [hq], j, by omega, by simp only [List.length_cons]; omega, h3⟩
theorem entries_of : ∀ {m : List (Int × Int)} (i : Nat) {p : Int × Int}, p ∈ m → ∃ e ∈ entries m i, ∃ j, e = entry p j
  | q :: m, i, p, h => by
    rcases List.mem_cons.1 h with rfl | h
    · exact ⟨_, List.mem_cons_self, i, rfl⟩
    · obtain ⟨e, he, j, hj⟩ := entries_of (i + 1) h
      exact ⟨e, List.mem_cons_of_mem _ he, j, hj⟩
theorem entries_nodup : ∀ (m : List (Int × Int)) (i : Nat), ((entries m i).map (·.born)).Nodup
  | [], _ => List.nodup_nil
  | p :: m, i => by
    refine List.nodup_cons.2 ⟨fun h => ?_, entries_nodup m (i + 1)⟩
    obtain ⟨e, he, hb⟩ := List.mem_map.1 h
    obtain ⟨q, _, j, h1, _, rfl⟩ := entries_mem he
    have : j = i := hb
    omega
/-- Block g is a map of these pairs, in the order of their coming. -/
def IMap (w : World) (g : Nat) (m : List (Int × Int)) : Prop := w.heap[g]? = some (.map (entries m 0).toArray m.length)
theorem IMap.lt {w : World} {g : Nat} {m : List (Int × Int)} (h : IMap w g m) : g < w.heap.size := (Array.getElem?_eq_some_iff.1 h).1
theorem IMap.new (w : World) : IMap (w.alloc (.map #[] 0)) w.heap.size [] := (MapKept.heap_alloc w _).1
theorem IMap.below {w w' : World} {g B : Nat} {m : List (Int × Int)} (h : IMap w g m) (hb : Below B w w') (hg : g < B) : IMap w' g m := (hb.block g hg).trans h
/-- Where a key stands. -/
def findI : List (Int × Int) → Int → Nat → Option (Nat × Value)
  | [], _, _ => none
  | p :: r, k, i => if p.1 = k then some (i, .int .i64 p.2) else findI r k (i + 1)
def getI : List (Int × Int) → Int → Int
  | [], _ => 0
  | p :: r, k => if p.1 = k then p.2 else getI r k
theorem findI_get : ∀ (m : List (Int × Int)) (k : Int) (i : Nat), ((findI m k i).map (·.2)).getD (.int .i64 0) = .int .i64 (getI m k)
  | [], _, _ => rfl
  | p :: r, k, i => by
    unfold findI getI
    split
    · rfl
    · exact findI_get r k (i + 1)
theorem findNow_i (k : Int) : ∀ (m : List (Int × Int)) (i j : Nat), Instr.findNow (.int .i64) (.int .i64 k) (entries m j) i = some (findI m k i)
  | [], _, _ => rfl
  | p :: m, i, j => by
    have ih := findNow_i k m (i + 1) (j + 1)
    unfold entries Instr.findNow findI
    by_cases hk : p.1 = k
    · simp [entry, Instr.sameNow, hk]
    · have h2 : (k == p.1) = false := by simpa using fun e : k = p.1 => hk e.symm
      simp [entry, Instr.sameNow, hk, ih, h2]
section
variable {P : Program} {w : World} {t kt et : TypeId}
theorem run_find (hk : P.underlying kt = some (.int .i64)) (k : Int) (m : List (Int × Int)) : (Instr.findKey kt (.int .i64 k) (entries m 0)).run P w = .ok (findI m k 0) w :=
  MapKept.run_findKey hk (findNow_i k m 0 0)
theorem run_check (hk : P.underlying kt = some (.int .i64)) (b : Bool) (k : Int) : (Instr.checkKey b 10000 kt (.int .i64 k)).run P w = .ok () w := by
  show (Instr.checkKey b (9999 + 1) kt (.int .i64 k)).run P w = _
  exact MapKept.run_checkKey hk (by simp [MapKept.IsKey]) b 9999
theorem run_put (ht : P.underlying t = some (.map kt et)) (hk : P.underlying kt = some (.int .i64)) {g : Nat} {m : List (Int × Int)} (h : IMap w g m) (k v : Int) (hn : findI m k 0 = none) :
    ∃ w', (Instr.mapUpdate t (.map (some g)) (.int .i64 k) (.int .i64 v)).run P w = .ok () w' ∧ IMap w' g (m ++ [(k, v)]) ∧ w.grownBy w' (some g) := by
  have hf := run_find (P := P) (w := w) hk k m
  have hg := h.lt
  unfold IMap at h
  rw [hn] at hf
  refine ⟨_, by simp [Instr.mapUpdate, run_underlying ht, MapKept.run_getObj_map h, run_check hk, hf, MapKept.run_setObj_map _ h, Result.andThen]; rfl, ?_, ?_⟩
  · unfold IMap
    have e1 : (entries m 0).toArray.push ⟨.int .i64 k, .int .i64 v, m.length⟩ = (entries (m ++ [(k, v)]) 0).toArray := by
      rw [entries_snoc]
      simp [entry]
    have e2 : (m ++ [(k, v)]).length = m.length + 1 := by simp
    rw [e2, ← e1]
    simp [hg]
  · exact ⟨rfl, rfl, rfl, by simp, fun j hj hne => by
      have hne' : g ≠ j := fun e => hne (by rw [e])
      simp [hne']⟩
theorem run_look (ht : P.underlying t = some (.map kt et)) (hk : P.underlying kt = some (.int .i64)) (hz : (zeroValue et).run P w = .ok (.int .i64 0) w) {g : Nat} {m : List (Int × Int)} (h : IMap w g m) (k : Int) :
    (Instr.lookup t (.map (some g)) (.int .i64 k) false).run P w = .ok (.int .i64 (getI m k)) w := by
  have hf := run_find (P := P) (w := w) hk k m
  have hgt := findI_get m k 0
  unfold IMap at h
  cases hx : findI m k 0 with
  | none =>
    rw [hx] at hf hgt
    simp at hgt
    simp [Instr.lookup, run_underlying ht, MapKept.run_getObj_map h, run_check hk, hf, hz, Result.andThen, hgt]
  | some y =>
    rw [hx] at hf hgt
    simp at hgt
    simp [Instr.lookup, run_underlying ht, MapKept.run_getObj_map h, run_check hk, hf, Result.andThen, hgt]
/-- 'map[..]..{k: v}' at the operation. -/
theorem wpList_insert_imap {ops : Array Oper} {rest : List Oper} {o : Oper} {a : Act} {Q : Exit → Act → World → Prop} (hgd : o.guard = none) (mo x vo : Operand) (hop : o.op = Op.insert t mo x vo)
    (ht : P.underlying t = some (.map kt et)) (hk : P.underlying kt = some (.int .i64)) {g : Nat} {m : List (Int × Int)} (hm : a.eval mo = .map (some g)) (h : IMap w g m) (k : Int) (hx : a.eval x = .int .i64 k) (v : Int) (hv : a.eval vo = .int .i64 v) (hn : findI m k 0 = none)
    (hK : ∀ w', IMap w' g (m ++ [(k, v)]) → w.grownBy w' (some g) → wpList P ops Q rest (a.put o.dst undef) w') : wpList P ops Q (o :: rest) a w := by
  refine wpList_plain hgd fun K' hK' => ?_
  obtain ⟨w', hrun, r1, r2⟩ := run_put (P := P) ht hk h k v hn
  unfold Oper.wp
  simp [execOp, hop, hm, hx, hv, hrun, Result.andThen]
  exact hK' _ _ (hK w' r1 r2)
/-- 'm[k]' at the operation. -/
theorem wpList_lookup_imap {ops : Array Oper} {rest : List Oper} {o : Oper} {a : Act} {Q : Exit → Act → World → Prop} (hgd : o.guard = none) (mo x : Operand) (hop : o.op = Op.lookup t mo x false)
    (ht : P.underlying t = some (.map kt et)) (hk : P.underlying kt = some (.int .i64)) (hz : (zeroValue et).run P w = .ok (.int .i64 0) w) {g : Nat} {m : List (Int × Int)} (hm : a.eval mo = .map (some g)) (h : IMap w g m) (k : Int) (hx : a.eval x = .int .i64 k)
    {v : Int} (hv : getI m k = v) (hK : wpList P ops Q rest (a.put o.dst (.int .i64 v)) w) : wpList P ops Q (o :: rest) a w := by
  refine wpList_plain hgd fun K' hK' => ?_
  have hrun := run_look (P := P) ht hk hz h k
  rw [hv] at hrun
  unfold Oper.wp
  simp [execOp, hop, hm, hx, hrun, Result.andThen]
  exact hK' _ _ (by simpa using hK)
end
/-- The iterator in block r over the map in block g; what it has handed out. -/
def It (w : World) (r g : Nat) (m : List (Int × Int)) (seen : Array Nat) : Prop := w.heap[r]? = some (.mapIter (some g) m.length seen m.length) ∧ IMap w g m
theorem It.seen_ {w : World} {r g : Nat} {m : List (Int × Int)} {seen : Array Nat} (h : It w r g m seen) : w.iterSeen r = seen := by
  unfold World.iterSeen
  rw [h.1]
theorem It.start {w : World} {g : Nat} {m : List (Int × Int)} (h : IMap w g m) : It (w.alloc (.mapIter (some g) m.length #[] m.length)) w.heap.size g m #[] :=
  ⟨heap_alloc_new w _, (heap_alloc_old w _ h.lt).trans h⟩
theorem run_range {P : Program} {w : World} {t kt et : TypeId} (ht : P.underlying t = some (.map kt et)) {g : Nat} {m : List (Int × Int)} (h : IMap w g m) :
    (Instr.range t (.map (some g))).run P w = .ok (.pointer (some ⟨w.heap.size, 0, none⟩)) (w.alloc (.mapIter (some g) m.length #[] m.length)) :=
  run_range_map w t kt et g _ _ ht h
/-- Of all that has been handed out this holds. -/
def DoneI (m : List (Int × Int)) (seen : Array Nat) (Q : Int × Int → Prop) : Prop := ∀ e ∈ entries m 0, seen.contains e.born = true → ∀ p j, e = entry p j → Q p
theorem DoneI.start (m : List (Int × Int)) (Q : Int × Int → Prop) : DoneI m #[] Q := fun e _ h => by simp at h
theorem entry_inj {p q : Int × Int} {i j : Nat} (h : entry p i = entry q j) : p = q := by
  unfold entry at h
  injection h with h1 h2 h3
  injection h1 with _ h1
  injection h2 with _ h2
  exact Prod.ext h1 h2
theorem DoneI.all {m : List (Int × Int)} {seen : Array Nat} {Q : Int × Int → Prop} (h : DoneI m seen Q) (h0 : (leftOf (entries m 0).toArray seen).size = 0) : ∀ p ∈ m, Q p := fun p hp => by
  obtain ⟨e, he, j, rfl⟩ := entries_of 0 hp
  exact h _ he (all_seen (entries m 0).toArray seen h0 _ (by simpa using he)) p j rfl
theorem It.next {P : Program} {w : World} {r g : Nat} {m : List (Int × Int)} {seen : Array Nat} (h : It w r g m seen) :
    ((leftOf (entries m 0).toArray seen).size = 0 ∧ ∀ ty, (Instr.next (.pointer (some ⟨r, 0, none⟩)) false ty).run P w = .ok (.tuple #[.bool false]) w) ∨
    ∃ p ∈ m, ∃ seen' w', It w' r g m seen' ∧ w.grownBy w' (some r) ∧ (∀ ty, (Instr.next (.pointer (some ⟨r, 0, none⟩)) false ty).run P w = .ok (.tuple #[.bool true, .int .i64 p.1, .int .i64 p.2]) w') ∧
      (Instr.entry (.pointer (some ⟨r, 0, none⟩))).run P w' = .ok (.tuple #[.int .i64 p.1, .int .i64 p.2]) w' ∧ (leftOf (entries m 0).toArray seen').size < (leftOf (entries m 0).toArray seen).size ∧ ∀ Q : Int × Int → Prop, Q p → DoneI m seen Q → DoneI m seen' Q := by
  have hold : ∀ x ∈ (entries m 0).toArray.toList, x.born < m.length := fun x hx => by
    obtain ⟨p, _, j, h1, h2, rfl⟩ := entries_mem (by simpa using hx)
    show j < _
    omega
  have law := run_next_at (P := P) w 0 r g m.length m.length seen (entries m 0).toArray m.length h.1 h.2 hold (Nat.le_refl _)
  have hne : r ≠ g := fun e => by
    have h1 := h.1
    rw [e, show w.heap[g]? = _ from h.2] at h1
    cases h1
  have hrl : r < w.heap.size := (Array.getElem?_eq_some_iff.1 h.1).1
  rcases law with ⟨h0, hrun⟩ | ⟨e, he, w1, hw1, hrun⟩
  · exact .inl ⟨h0, fun ty => hrun⟩
  · obtain ⟨he1, he2⟩ := mem_left he
    obtain ⟨p, hp, j, h1, h2, rfl⟩ := entries_mem (show e ∈ entries m 0 by simpa using he1)
    have hw1h : w1.heap = w.heap := by rcases hw1 with rfl | rfl <;> rfl
    have hw1g : w.grownBy w1 (some r) := by rcases hw1 with rfl | rfl <;> exact ⟨rfl, rfl, rfl, Nat.le_refl _, fun _ _ _ => rfl⟩
    have hset : ∀ o, (setBlock w1 r o).heap[r]? = some o := fun o => by
      show (w1.heap.setIfInBounds r o)[r]? = _
      rw [hw1h]
      simp [hrl]
    have hold2 : ∀ o k, k ≠ r → (setBlock w1 r o).heap[k]? = w.heap[k]? := fun o k hk => by
      show (w1.heap.setIfInBounds r o)[k]? = _
      rw [hw1h]
      have : r ≠ k := fun e => hk e.symm
      simp [this]
    refine .inr ⟨p, hp, seen.push j, _, ⟨hset _, (hold2 _ g (fun e => hne e.symm)).trans h.2⟩, ?_, fun ty => hrun, ?_, left_shrinks _ _ _ he, fun Q hq hd x hx hc q i hqi => ?_⟩
    · refine ⟨hw1g.os, hw1g.tape, hw1g.output, ?_, fun k hk hkr => hold2 _ k (fun e => hkr (by rw [e]))⟩
      show w.heap.size ≤ (w1.heap.setIfInBounds r _).size
      rw [hw1h]
      simp
    · exact run_entry_at _ r g m.length seen (entries m 0).toArray m.length (entry p j) (hset _) ((hold2 _ g (fun e => hne e.symm)).trans h.2) (by simpa using he1) (by simpa using entries_nodup m 0)
    · rw [contains_push] at hc
      rcases Bool.or_eq_true _ _ ▸ hc with hc | hc
      · exact hd x hx hc q i hqi
      · have : x = entry p j := born_inj (entries_nodup m 0) hx (by simpa using he1) (beq_iff_eq.1 hc)
        rw [this] at hqi
        rw [← entry_inj hqi]
        exact hq
end Go.Proofs.YtljenganlknhbaaGreat.IMap
