/- Several texts in one. (Layer 12.) -/
import Derived.Test.YtbmknmjcoeinkaaGreatMgA
import Derived.Test.YtbmknmjcoeinkaaGreatMk10
import Derived.Test.YtbmknmjcoeinkaaGreatOctet1
import Derived.ChangeMaps5
import Derived.Test.YtbmknmjcoeinkaaGreatSlOps
import Derived.Maps.Own
/- Go's maps from keys to numbers, as joined uses them. (Layer 13.) -/
namespace Go.Proofs.YtbmknmjcoeinkaaGreat.Mg
set_option linter.unusedVariables false
open Go.RowKit
open Mk (eqB eqB_yes eqB_no bytes_eq)
open Oct (Moved)
/-- What a map's walk asks of the keys' type. -/
structure KeyOk {κ : Type} (tk tm : TypeId) (kv : κ → Value) : Prop where
  inj : ∀ x y, kv x = kv y → x = y
  find : ∀ (w : World) (x : κ) (es : List MapEntry), (∀ e ∈ es, ∃ y, e.key = kv y) → ((Instr.findKey tk (kv x) es).run Tryz.prog w = .ok none w ∧ ∀ e ∈ es, e.key ≠ kv x) ∨ ∃ j e, (Instr.findKey tk (kv x) es).run Tryz.prog w = .ok (some (j, e.val)) w ∧ es[j]? = some e ∧ e.key = kv x
  check : ∀ (w : World) (x : κ) (em : Bool), (Instr.checkKey em 10000 tk (kv x)).run Tryz.prog w = .ok () w
  und : Tryz.prog.underlying tm = some (.map tk 3)
section
variable {κ : Type} {tk tm : TypeId} {kv : κ → Value}
/-- Block b is a map that says f of keys. -/
def KMap (kv : κ → Value) (w : World) (b : Nat) (f : κ → Option Int) : Prop := ∃ es clock, w.heap[b]? = some (.map es clock) ∧ (∀ e ∈ es.toList, ∃ y n, e.key = kv y ∧ e.val = .int .i64 n ∧ f y = some n) ∧ ∀ y n, f y = some n → ∃ e ∈ es.toList, e.key = kv y
theorem KMap.lt {w : World} {b : Nat} {f : κ → Option Int} (h : KMap kv w b f) : b < w.heap.size := by
  obtain ⟨es, c, h1, -⟩ := h
  exact (Array.getElem?_eq_some_iff.1 h1).1
theorem KMap.below {w w' : World} {b B : Nat} {f : κ → Option Int} (h : KMap kv w b f) (hb : Below B w w') (hB : b < B) : KMap kv w' b f := by
  obtain ⟨es, c, h1, h2⟩ := h
  exact ⟨es, c, by rw [hb.block b hB]; exact h1, h2⟩
theorem KMap.same {w w' : World} {b : Nat} {f : κ → Option Int} (h : KMap kv w b f) (hb : w'.heap[b]? = w.heap[b]?) : KMap kv w' b f := by
  obtain ⟨es, c, h1, h2⟩ := h
  exact ⟨es, c, by rw [hb]; exact h1, h2⟩
theorem KMap.congr {w : World} {b : Nat} {f g : κ → Option Int} (h : KMap kv w b f) (hfg : ∀ x, f x = g x) : KMap kv w b g := by
  have : f = g := funext hfg
  rwa [this] at h
theorem KMap.fresh (w : World) : KMap kv (w.alloc (.map #[] 0)) w.heap.size (fun _ => none) := ⟨#[], 0, heap_alloc_new w _, fun e he => by simp at he, fun y n h => by cases h⟩
theorem KMap.lookup_none (K : KeyOk tk tm kv) {w : World} {b : Nat} {f : κ → Option Int} (h : KMap kv w b f) (x : κ) (hx : f x = none) : (Instr.lookup tm (.map (some b)) (kv x) true).run Tryz.prog w = .ok (.tuple #[.int .i64 0, .bool false]) w := by
  obtain ⟨es, c, h1, h2, h3⟩ := h
  have hz : (zeroValue 3).run Tryz.prog w = .ok (.int .i64 0) w := by kernel_rfl
  rcases K.find w x es.toList (fun e he => by obtain ⟨y, n, hk, -⟩ := h2 e he; exact ⟨y, hk⟩) with ⟨hj, -⟩ | ⟨j, e, hj, he, hk⟩
  · simp [Instr.lookup, run_underlying K.und, MapKept.run_getObj_map h1, K.check, hj, hz, Result.andThen]
  · obtain ⟨y, n, hy, -, hf⟩ := h2 e (List.mem_of_getElem? he)
    rw [hk] at hy
    rw [K.inj _ _ hy, hf] at hx
    cases hx
set_option maxRecDepth 20000 in
theorem KMap.lookup_some (K : KeyOk tk tm kv) {w : World} {b : Nat} {f : κ → Option Int} (h : KMap kv w b f) (x : κ) (n : Int) (hx : f x = some n) : (Instr.lookup tm (.map (some b)) (kv x) true).run Tryz.prog w = .ok (.tuple #[.int .i64 n, .bool true]) w := by
  obtain ⟨es, c, h1, h2, h3⟩ := h
  rcases K.find w x es.toList (fun e he => by obtain ⟨y, n, hk, -⟩ := h2 e he; exact ⟨y, hk⟩) with ⟨-, hj⟩ | ⟨j, e, hj, he, hk⟩
  · obtain ⟨e, he, hk⟩ := h3 x n hx
    exact absurd hk (hj e he)
  · obtain ⟨y, m, hy, hv, hf⟩ := h2 e (List.mem_of_getElem? he)
    rw [hk] at hy
    rw [← K.inj _ _ hy, hx] at hf
    injection hf with hf
    rw [hv, ← hf] at hj
    simp [Instr.lookup, run_underlying K.und, MapKept.run_getObj_map h1, K.check, hj, Result.andThen]
/-- A key that is not there is laid down. -/
theorem KMap.update [DecidableEq κ] (K : KeyOk tk tm kv) {w : World} {b : Nat} {f : κ → Option Int} (h : KMap kv w b f) (x : κ) (n : Int) (hx : f x = none) : ∃ o, (Instr.mapUpdate tm (.map (some b)) (kv x) (.int .i64 n)).run Tryz.prog w = .ok () { w with heap := w.heap.setIfInBounds b o } ∧
    KMap kv { w with heap := w.heap.setIfInBounds b o } b (fun y => if y = x then some n else f y) := by
  have hlt := h.lt
  obtain ⟨es, c, h1, h2, h3⟩ := h
  rcases K.find w x es.toList (fun e he => by obtain ⟨y, n, hk, -⟩ := h2 e he; exact ⟨y, hk⟩) with ⟨hj, hno⟩ | ⟨j, e, hj, he, hk⟩
  · refine ⟨_, by simp [Instr.mapUpdate, run_underlying K.und, MapKept.run_getObj_map h1, K.check, hj, MapKept.run_setObj_map _ h1, Result.andThen]; rfl, es.push { key := kv x, val := .int .i64 n, born := c }, c + 1, by simp [hlt], fun e he => ?_, fun y m hy => ?_⟩
    · rw [Array.toList_push, List.mem_append, List.mem_singleton] at he
      rcases he with he | rfl
      · obtain ⟨y, m, hk, hv, hf⟩ := h2 e he
        refine ⟨y, m, hk, hv, ?_⟩
        show (if y = x then some n else f y) = some m
        rw [if_neg (fun e1 => hno e he (by rw [hk, e1]))]
        exact hf
      · exact ⟨x, n, rfl, rfl, if_pos rfl⟩
    · rw [Array.toList_push]
      by_cases hyx : y = x
      · exact ⟨_, List.mem_append.2 (.inr (List.mem_singleton.2 rfl)), by rw [hyx]⟩
      · replace hy : (if y = x then some n else f y) = some m := hy
        rw [if_neg hyx] at hy
        obtain ⟨e, he, hk⟩ := h3 y m hy
        exact ⟨e, List.mem_append.2 (.inl he), hk⟩
  · obtain ⟨y, m, hy, hv, hf⟩ := h2 e (List.mem_of_getElem? he)
    rw [hk] at hy
    rw [K.inj _ _ hy, hf] at hx
    cases hx
end
theorem find_str (x : ByteArray) : ∀ (es : List MapEntry) (i : Nat), (∀ e ∈ es, ∃ y, e.key = .string y) → (Instr.findNow .string (.string x) es i = some none ∧ ∀ e ∈ es, e.key ≠ .string x) ∨ ∃ j e, Instr.findNow .string (.string x) es i = some (some (i + j, e.val)) ∧ es[j]? = some e ∧ e.key = .string x
  | [], i, _ => .inl ⟨rfl, fun e he => by cases he⟩
  | e :: es, i, h => by
    obtain ⟨y, hy⟩ := h e List.mem_cons_self
    have hs : Instr.sameNow .string (.string x) e.key = some (x == y) := by rw [hy]; rfl
    by_cases hxy : x = y
    · refine .inr ⟨0, e, ?_, rfl, by rw [hy, hxy]⟩
      have : (x == y) = true := (MapKept.bytes_beq _ _).2 hxy
      unfold Instr.findNow
      rw [hs, this]
      rfl
    · have : (x == y) = false := by rw [← Bool.not_eq_true, MapKept.bytes_beq]; exact hxy
      rcases find_str x es (i + 1) (fun e he => h e (List.mem_cons_of_mem _ he)) with ⟨h1, h2⟩ | ⟨j, e', h1, h2, h3⟩
      · refine .inl ⟨?_, fun e1 he => ?_⟩
        · unfold Instr.findNow
          rw [hs, this]
          exact h1
        · rcases List.mem_cons.1 he with rfl | he
          · rw [hy]
            intro e2
            injection e2 with e2
            exact hxy e2.symm
          · exact h2 e1 he
      · refine .inr ⟨j + 1, e', ?_, h2, h3⟩
        unfold Instr.findNow
        rw [hs, this]
        show Instr.findNow .string (.string x) es (i + 1) = _
        rw [h1, show i + 1 + j = i + (j + 1) by omega]
theorem key_str : KeyOk 9 113 Value.string where
  inj x y h := by injection h
  find w x es h := by
    have hk : ∀ r, Instr.findNow .string (.string x) es 0 = some r → (Instr.findKey 9 (.string x) es).run Tryz.prog w = .ok r w := fun r hr => by
      unfold Instr.findKey
      simp only [Sem.run_bind, run_underlying Tryz.underlying9, Result.andThen_ok, hr]
      rfl
    rcases find_str x es 0 h with ⟨h1, h2⟩ | ⟨j, e, h1, h2, h3⟩
    · exact .inl ⟨hk _ h1, h2⟩
    · exact .inr ⟨0 + j, e, hk _ h1, by rw [Nat.zero_add]; exact h2, h3⟩
  check w x em := MapKept.run_checkKey Tryz.underlying9 (show MapKept.IsKey .string (.string x) from trivial) em 9999
  und := Tryz.underlying113
/-- A key of two numbers. -/
def kv2 (x : K2) : Value := .agg #[.int .i64 x.1, .int .i64 x.2]
theorem eql_key (x y : K2) (w : World) : (binOp .eql 65 (kv2 x) (kv2 y)).run Tryz.prog w = .ok (.bool (eqB x y)) w := by
  have u3 := Tryz.underlying3
  have a3 := Tryz.isAgg3
  have z3 := Tryz.sizeOf3
  have hS : Tryz.prog.underlying 65 = some (.struct (Tryz.prog.fieldsOf 65)) := by kernel_rfl
  have hp : Tryz.prog.stoodInHeld 65 = false := by kernel_rfl
  have hq : (x.1 == y.1 && x.2 == y.2) = eqB x y := by
    rw [Bool.eq_iff_iff, Mk.eqB_iff, Bool.and_eq_true, beq_iff_eq, beq_iff_eq]
    obtain ⟨a, b⟩ := x
    obtain ⟨d, e⟩ := y
    simp
  have HQ := Lib.hid hq
  clear hq
  unfold kv2
  rw [run_eql_struct, show (10000 : Nat) = 9999 + 1 from rfl, run_equalIn_agg w 9999 65 _ _ hS hp]
  simp only [Program.fieldsOf, Tryz.underlying65]
  go_simp
  rw [← HQ.out]
  by_cases h1 : x.1 = y.1 <;> by_cases h2 : x.2 = y.2 <;> simp [h1, h2]
theorem equal_key (x y : K2) (w : World) : (Op.equal 65 (kv2 x) (kv2 y)).run Tryz.prog w = .ok (eqB x y) w := by
  have h := eql_key x y w
  unfold kv2 at h ⊢
  rw [run_eql_struct] at h
  show (Op.equalIn 10000 65 (.agg #[.int .i64 x.1, .int .i64 x.2]) (.agg #[.int .i64 y.1, .int .i64 y.2])).run Tryz.prog w = _
  revert h
  generalize (Op.equalIn 10000 65 (.agg #[.int .i64 x.1, .int .i64 x.2]) (.agg #[.int .i64 y.1, .int .i64 y.2])).run Tryz.prog w = r
  intro h
  cases r with
  | ok b w' =>
    simp only [Result.andThen_ok, Result.ok.injEq, Value.bool.injEq] at h
    rw [h.1, h.2]
  | halt x w' => cases h
theorem ask_key (x : K2) (w : World) : ∀ (es : List MapEntry) (i : Nat), (∀ e ∈ es, ∃ y, e.key = kv2 y) → ((Instr.findAsking 65 (kv2 x) es i).run Tryz.prog w = .ok none w ∧ ∀ e ∈ es, e.key ≠ kv2 x) ∨ ∃ j e, (Instr.findAsking 65 (kv2 x) es i).run Tryz.prog w = .ok (some (i + j, e.val)) w ∧ es[j]? = some e ∧ e.key = kv2 x
  | [], i, _ => .inl ⟨rfl, fun e he => by cases he⟩
  | e :: es, i, h => by
    obtain ⟨y, hy⟩ := h e List.mem_cons_self
    by_cases hxy : x = y
    · refine .inr ⟨0, e, ?_, rfl, by rw [hy, hxy]⟩
      unfold Instr.findAsking
      simp only [Sem.run_bind, hy, equal_key, Result.andThen_ok, eqB_yes hxy, if_true]
      rfl
    · have hrun : (Instr.findAsking 65 (kv2 x) (e :: es) i).run Tryz.prog w = (Instr.findAsking 65 (kv2 x) es (i + 1)).run Tryz.prog w := by
        conv => lhs; unfold Instr.findAsking
        simp only [Sem.run_bind, hy, equal_key, Result.andThen_ok, eqB_no hxy, Bool.false_eq_true, if_false]
      rw [hrun]
      rcases ask_key x w es (i + 1) (fun e he => h e (List.mem_cons_of_mem _ he)) with ⟨h1, h2⟩ | ⟨j, e', h1, h2, h3⟩
      · refine .inl ⟨h1, fun e1 he => ?_⟩
        rcases List.mem_cons.1 he with rfl | he
        · rw [hy]
          intro e2
          refine hxy ?_
          unfold kv2 at e2
          simp at e2
          exact Prod.ext e2.1.symm e2.2.symm
        · exact h2 e1 he
      · exact .inr ⟨j + 1, e', by rw [h1, show i + 1 + j = i + (j + 1) by omega], h2, h3⟩
theorem key_key : KeyOk 65 117 kv2 where
  inj x y h := by
    unfold kv2 at h
    simp at h
    exact Prod.ext h.1 h.2
  find w x es h := by
    have hk : (Instr.findKey 65 (kv2 x) es).run Tryz.prog w = (Instr.findAsking 65 (kv2 x) es).run Tryz.prog w := by
      cases es with
      | nil =>
        unfold Instr.findKey
        simp only [Sem.run_bind, run_underlying Tryz.underlying65, Result.andThen_ok]
        rfl
      | cons e l =>
        unfold Instr.findKey
        simp only [Sem.run_bind, run_underlying Tryz.underlying65, Result.andThen_ok]
        rfl
    rw [hk]
    rcases ask_key x w es 0 h with ⟨h1, h2⟩ | ⟨j, e, h1, h2, h3⟩
    · exact .inl ⟨h1, h2⟩
    · exact .inr ⟨0 + j, e, h1, by rw [Nat.zero_add]; exact h2, h3⟩
  check w x em := by
    have u3 := Tryz.underlying3
    have a3 := Tryz.isAgg3
    have z3 := Tryz.sizeOf3
    have ut := Tryz.underlying65
    have hi : ∀ (n : Int) (w : World), (Instr.checkKey em 9999 3 (.int .i64 n)).run Tryz.prog w = .ok () w := fun n w => MapKept.run_checkKey u3 (show MapKept.IsKey (.int .i64) (.int .i64 n) from rfl) em 9998
    rw [show (10000 : Nat) = 9999 + 1 from rfl]
    unfold Instr.checkKey kv2
    simp only [Sem.run_bind, run_underlying ut, Result.andThen_ok]
    rw [← Array.forIn_toList]
    simp only [List.forIn_cons, List.forIn_nil]
    simp [Sem.run_bind, part, a3, hi, Result.andThen_ok]
  und := Tryz.underlying117
end Go.Proofs.YtbmknmjcoeinkaaGreat.Mg

/- Where joined stands: the map of places, the slice that grows. (Layer 13.) -/
namespace Go.Proofs.YtbmknmjcoeinkaaGreat.Mg
set_option linter.unusedVariables false
open Go.RowKit Go.Lib
open Oct (Moved)
open Set (El)
section
variable {κ : Type} [DecidableEq κ] {tk tm : TypeId} {kv : κ → Value}
theorem wpList_update_k (K : KeyOk tk tm kv) (w : World) {ops : Array Oper} {rest : List Oper} {o : Oper} {a : Act} {Q : Exit → Act → World → Prop} (hg : o.guard = none) (m x v : Operand) (hop : o.op = Op.mapUpdate tm m x v)
    (b : Nat) (f : κ → Option Int) (hm : a.eval m = .map (some b)) (hown : KMap kv w b f) (key : κ) (val : Int) (hx : a.eval x = kv key) (hv : a.eval v = .int .i64 val) (hno : f key = none)
    (hK : ∀ o', KMap kv { w with heap := w.heap.setIfInBounds b o' } b (fun y => if y = key then some val else f y) → wpList Tryz.prog ops Q rest (a.put o.dst undef) { w with heap := w.heap.setIfInBounds b o' }) :
    wpList Tryz.prog ops Q (o :: rest) a w := by
  refine wpList_plain hg fun K' hK' => ?_
  obtain ⟨o', hrun, r1⟩ := hown.update K key val hno
  unfold Oper.wp
  simp [execOp, hop, hm, hx, hv, hrun, Result.andThen]
  exact hK' _ _ (hK o' r1)
end
theorem moved_map (w : World) (b : Nat) (o : Obj) : Moved b w { w with heap := w.heap.setIfInBounds b o } :=
  ⟨rfl, rfl, rfl, by simp, fun k hk hne => by
    show (w.heap.setIfInBounds b o)[k]? = _
    rw [Array.getElem?_setIfInBounds, if_neg (fun e => hne (by rw [e]))]⟩
/-- A thing of a row, written over. -/
theorem SlIs.setRow {α : Type} {enc : α → List Value} {k : Nat} (hk : ∀ x, (enc x).length = k) (hk0 : 0 < k) {w : World} {base g off n cap : Nat} {e : TypeId} {l : List α} (h : SlIs w base e k (.slice (some ⟨g, off, none⟩) n cap) n (rowCells enc l)) (hn : n = l.length) (i : Nat) (hi : i < l.length) (z : α) :
    SlIs (w.setCells g (off + i * k) (enc z)) base e k (.slice (some ⟨g, off, none⟩) n cap) n (rowCells enc (l.set i z)) := by
  obtain ⟨h1, h2⟩ := h
  have hl := rowCells_len hk l
  have hl' : (rowCells enc (l.set i z)).length = l.length * k := by rw [rowCells_len hk, List.length_set]
  refine ⟨by rw [hl', hn], ?_⟩
  rcases h2 with ⟨hv, _⟩ | ⟨g', off', cap', cur, hv, hg, hr, hc, hm, hfit, hx⟩
  · cases hv
  · injection hv with e1 e2 e3
    injection e1 with e1
    injection e1 with e1 e4
    subst e1 e3 e4
    obtain ⟨cs', r1, r2, r3, r4⟩ := RowIs.puts (enc z) (off + i * k) w cur hr
    have hik : (i + 1) * k ≤ l.length * k := Nat.mul_le_mul_right k hi
    have hck : n * k ≤ cap * k := Nat.mul_le_mul_right k hc
    rw [Nat.add_mul, Nat.one_mul] at hik
    refine .inr ⟨g, off, cap, cs', rfl, hg, r1, hc, hm, by rw [r2]; exact hfit, fun j hj => ?_⟩
    rw [hl'] at hj
    have hd : j / k < l.length := Nat.div_lt_of_lt_mul (by rw [Nat.mul_comm]; exact hj)
    have hm2 : j % k < k := Nat.mod_lt _ hk0
    have hj2 : j / k * k + j % k = j := by rw [Nat.mul_comm]; exact Nat.div_add_mod j k
    have g1 := rowCells_get hk (l.set i z) (j / k) (by rw [List.length_set]; exact hd) (j % k) hm2
    rw [hj2, List.getElem_set] at g1
    by_cases hji : i = j / k
    · rw [if_pos hji] at g1
      rw [g1, ← r3 (j % k) (by rw [hk]; exact hm2) (by rw [hn] at hck; rw [← hji] at hj2; omega)]
      congr 1
      rw [← hji] at hj2
      omega
    · rw [if_neg hji] at g1
      rw [g1, r4 (off + j) (by
        rw [hk]
        rcases Nat.lt_or_ge (j / k) i with h3 | h3
        · have := Nat.mul_le_mul_right k (show j / k + 1 ≤ i from h3)
          rw [Nat.add_mul, Nat.one_mul] at this
          left; omega
        · have := Nat.mul_le_mul_right k (show i + 1 ≤ j / k by omega)
          rw [Nat.add_mul, Nat.one_mul] at this
          right; omega), hx j (by rw [hl]; exact hj)]
      have g2 := rowCells_get hk l (j / k) hd (j % k) hm2
      rw [hj2] at g2
      exact g2
/-- Where joined stands. -/
structure JSt {α κ : Type} (kv : κ → Value) (enc : α → List Value) (k : Nat) (e : TypeId) (w : World) (f : κ → Option Int) (v : Value) (o : List α) (wr : World) : Prop where
  below : Below w.heap.size w wr
  lt : w.heap.size < wr.heap.size
  map : KMap kv wr w.heap.size f
  sl : SlIs wr (w.heap.size + 1) e k v o.length (rowCells enc o)
section
variable {α κ : Type} {kv : κ → Value} {enc : α → List Value} {k : Nat} {e : TypeId} {w wr w' : World} {f g : κ → Option Int} {v v' : Value} {o o' : List α}
theorem JSt.later (h : JSt kv enc k e w f v o wr) (hb : Below wr.heap.size wr w') : JSt kv enc k e w f v o w' :=
  ⟨h.below.trans (hb.mono h.below.size), Nat.lt_of_lt_of_le h.lt hb.size, h.map.below hb h.lt, h.sl.later hb⟩
theorem JSt.update (h : JSt kv enc k e w f v o wr) (ob : Obj) (hm : KMap kv { wr with heap := wr.heap.setIfInBounds w.heap.size ob } w.heap.size g) : JSt kv enc k e w g v o { wr with heap := wr.heap.setIfInBounds w.heap.size ob } :=
  ⟨h.below.trans ((moved_map wr w.heap.size ob).below (Nat.le_of_lt h.lt)), by simpa using h.lt, hm, (moved_map wr w.heap.size ob).sl h.sl (Nat.lt_succ_self _)⟩
theorem JSt.congr (h : JSt kv enc k e w f v o wr) (hfg : ∀ x, f x = g x) : JSt kv enc k e w g v o wr := ⟨h.below, h.lt, h.map.congr hfg, h.sl⟩
theorem JSt.grown (h : JSt kv enc k e w f v o wr) (hg : wr.grownBy w' v.ownBlock) (hs : SlIs w' (w.heap.size + 1) e k v' o'.length (rowCells enc o')) : JSt kv enc k e w f v' o' w' := by
  have hne : ∀ j, v.ownBlock = some j → w.heap.size + 1 ≤ j := fun j hj => (h.sl.lt j hj).1
  refine ⟨h.below.grown hg h.below.size (fun j hj => Nat.le_of_succ_le (hne j hj)), Nat.lt_of_lt_of_le h.lt hg.size, h.map.same (hg.block _ h.lt (fun e => ?_)), hs⟩
  have := hne _ e.symm
  omega
theorem JSt.setRow (hk : ∀ x, (enc x).length = k) (hk0 : 0 < k) {b off n cap : Nat} (h : JSt kv enc k e w f (.slice (some ⟨b, off, none⟩) n cap) o wr) (hn : n = o.length) (i : Nat) (hi : i < o.length) (z : α) :
    JSt kv enc k e w f (.slice (some ⟨b, off, none⟩) n cap) (o.set i z) (wr.setCells b (off + i * k) (enc z)) :=
  h.grown (setCells_grown' _ _ _) (by
    rw [List.length_set, ← hn]
    exact SlIs.setRow hk hk0 (by have h1 := h.sl; rwa [← hn] at h1) hn i hi z)
end
end Go.Proofs.YtbmknmjcoeinkaaGreat.Mg

