/- Two Builders of the call's own side by side: what is written to one leaves the other; Len; String of an empty one. Conditions: within 2^47 bytes. -/
import Derived.Test.YtabgpleiobpeoaaBuilder
import Derived.Test.YtabgpleiobpeoaaSlice
import Derived.Test.YtabgpleiobpeoaaBase
import Derived.Lib.Builder
namespace Go.Proofs.Ytabgpleiobpeoaa.Bld
set_option linter.unusedVariables false
open Go.RowKit
set_option maxRecDepth 100000
/-- A Builder at b with the cells p and v, holding these bytes. -/
structure At1 (w : World) (B b : Nat) (p v : Value) (l : List UInt8) : Prop where
  le : B ≤ b
  blk : w.heap[b]? = some (.cells #[p, v] 48 (0, 0))
  own : w.ownsRow B 5 1 v l.length (Lib.byteCells l)
  ne : v.ownBlock ≠ some b
  ptr : p = .pointer none ∨ p = .pointer (some ⟨b, 0, none⟩)
theorem At1.at_ {w : World} {B b : Nat} {p v : Value} {l : List UInt8} (h : At1 w B b p v l) : Lib.BuilderAt 48 5 B b p (Lib.byteCells l) w :=
  ⟨h.le, v, h.blk, by rw [Lib.byteCells_length]; exact h.own, h.ne⟩
theorem At1.is {w : World} {B b : Nat} {p v : Value} {l : List UInt8} (h : At1 w B b p v l) : Is w B b l := by
  rcases h.ptr with rfl | rfl
  · exact Or.inl h.at_
  · exact Or.inr h.at_
theorem At1.lt {w : World} {B b : Nat} {p v : Value} {l : List UInt8} (h : At1 w B b p v l) : b < w.heap.size := (Array.getElem?_eq_some_iff.1 h.blk).1
theorem At1.new (w : World) : At1 (w.alloc (.cells #[.pointer none, .slice none 0 0] 48)) w.heap.size w.heap.size (.pointer none) (.slice none 0 0) [] where
  le := Nat.le_refl _
  blk := (BlkIs.new w _ _)
  own := World.ownsRow_nil _ _ _ _
  ne := by simp [Value.ownBlock]
  ptr := Or.inl rfl
theorem own_kept {w w' : World} {B : Nat} {e : TypeId} {v : Value} {n : Nat} {xs : List Value} (h : w.ownsRow B e 1 v n xs) (hb : ∀ k, k < w.heap.size → v.ownBlock = some k → w'.heap[k]? = w.heap[k]?) : w'.ownsRow B e 1 v n xs := by
  refine ⟨h.1, ?_⟩
  rcases h.2 with h0 | ⟨g, cap, cur, rfl, hg, hh, r⟩
  · exact Or.inl h0
  · refine Or.inr ⟨g, cap, cur, rfl, hg, ?_, r⟩
    rw [hb g (Array.getElem?_eq_some_iff.1 hh).1 rfl]
    exact hh
theorem own_lt {w : World} {B : Nat} {e : TypeId} {v : Value} {n : Nat} {xs : List Value} (h : w.ownsRow B e 1 v n xs) {k : Nat} (hk : v.ownBlock = some k) : k < w.heap.size := (h.lt k hk).2
/-- A Builder that lies apart from what was changed is as it was. -/
theorem At1.kept {w w' : World} {B b : Nat} {p v : Value} {l : List UInt8} (h : At1 w B b p v l) (hb : ∀ k, k < w.heap.size → (k = b ∨ v.ownBlock = some k) → w'.heap[k]? = w.heap[k]?) : At1 w' B b p v l where
  le := h.le
  blk := by rw [hb b h.lt (Or.inl rfl)]; exact h.blk
  own := own_kept h.own fun k hk hv => hb k hk (Or.inr hv)
  ne := h.ne
  ptr := h.ptr
theorem At1.later {w w' : World} {B b : Nat} {p v : Value} {l : List UInt8} (h : At1 w B b p v l) (hb : Below w.heap.size w w') : At1 w' B b p v l := h.kept fun k hk _ => hb.block k hk
theorem run_append_at (w : World) (B : Nat) (ty : TypeId) (i : TypeInfo) (hi : Try.prog.info? 5 = some i) (hz : i.zero = some (.int .u8 0)) (hsize : i.size = 1) (hby : i.bytes = 1)
    (v : Value) (n : Nat) (xs : List Value) (hown : w.ownsRow B 5 1 v n xs) (s : ByteArray) (h63 : n + s.size ≤ maxLen) (hbytes : n + s.size ≤ 140737488355328) (hbase : B ≤ w.heap.size) :
    ∃ v' w', (Builtin.append_ #[37, 9] ty #[v, .string s]).run Try.prog w = .ok v' w' ∧ w'.ownsRow B 5 1 v' (n + s.size) (xs ++ Lib.strCells s) ∧ w.grownBy w' v.ownBlock ∧ (v'.ownBlock = v.ownBlock ∨ v'.ownBlock = some w.heap.size) := by
  obtain ⟨v1, w1, r1, a1, a2, _⟩ := Lib.run_append_own_string (P := Try.prog) w B 37 9 ty 5 i Try.underlying37 Try.underlying9 hi hz hsize hby v n xs hown s h63 hbytes hbase
  obtain ⟨v2, w2, r2, _, _, b3⟩ := run_append_sl (P := Try.prog) w B 37 9 ty 5 i (.int .u8 0) 1 1 Try.underlying37 hi hz hsize hby rfl v n xs (SlIs.of_own hown) (.string s) s.size (Lib.strCells s) (SrcIs.string Try.underlying9 w s)
    (by rw [strCells_eq]; exact bcells_one _) h63 (by omega) hbase
  rw [r1] at r2
  injection r2 with e1 e2
  subst e1 e2
  exact ⟨v1, w1, r1, a1, a2, b3⟩
theorem wpList_append_at {w : World} {ops : Array Oper} {rest : List Oper} {o : Oper} {a : Act} {Q : Exit → Act → World → Prop} (hgd : o.guard = none) (sl x : Operand)
    (ho : o.op = .call { callee := .builtin .append, args := #[sl, x], argTypes := #[37, 9] })
    (B : Nat) (i : TypeInfo) (hi : Try.prog.info? 5 = some i) (hz : i.zero = some (.int .u8 0)) (hsize : i.size = 1) (hby : i.bytes = 1)
    (v : Value) (n : Nat) (xs : List Value) (hs : a.eval sl = v) (hown : w.ownsRow B 5 1 v n xs) (s : ByteArray) (hx : a.eval x = .string s)
    (h63 : n + s.size ≤ maxLen) (hbytes : n + s.size ≤ 140737488355328) (hbase : B ≤ w.heap.size)
    (h : ∀ v' w', w'.ownsRow B 5 1 v' (n + s.size) (xs ++ Lib.strCells s) → w.grownBy w' v.ownBlock → (v'.ownBlock = v.ownBlock ∨ v'.ownBlock = some w.heap.size) → wpList Try.prog ops Q rest (a.put o.dst v') w') : wpList Try.prog ops Q (o :: rest) a w := by
  refine wpList_plain hgd fun K hK => ?_
  obtain ⟨v', w', hr, h2, h3, h4⟩ := run_append_at w B o.type i hi hz hsize hby v n xs hown s h63 hbytes hbase
  unfold Oper.wp execOp
  simp only [ho, resolve, invoke, builtin, Sem.run_bind, Sem.run_pure, Result.andThen_ok, List.map_toArray, List.map_cons, List.map_nil, hs, hx, hr]
  exact hK _ _ (h v' w' h2 h3 h4)
theorem copyCheck_at (B b : Nat) (p v : Value) (l : List UInt8) (w : World) (h : At1 w B b p v l) :
    Calls Try.prog 45 #[.pointer (some ⟨b, 0, none⟩)] w fun e w' => e = .returned (.tuple #[]) ∧ At1 w' B b (.pointer (some ⟨b, 0, none⟩)) v l ∧ w.grownBy w' (some b) := by
  rcases h.ptr with hp | hp
  · subst hp
    have h1 := h.at_
    refine (copyCheck_fresh b w h1.cell0 h1.shape h1.frozen0).mono ?_
    rintro e w' ⟨rfl, rfl⟩
    have hbl : (w.setCell ⟨b, 0, none⟩ (.pointer (some ⟨b, 0, none⟩))).heap[b]? = some (.cells #[.pointer (some ⟨b, 0, none⟩), v] 48 (0, 0)) := by
      simp [World.setCell, Array.getElem?_modify, h.blk]
    refine ⟨rfl, ⟨h.le, hbl, own_kept h.own fun k hk hv => Below.heap_setCell _ _ _ _ (fun e => h.ne (by rw [hv, e])), h.ne, Or.inr rfl⟩, ⟨rfl, rfl, rfl, by simp [World.setCell], fun k _ hne => Below.heap_setCell _ _ _ _ (fun e => hne (by rw [e]))⟩⟩
  · subst hp
    refine (copyCheck_used b w h.at_.cell0).mono ?_
    rintro e w' ⟨rfl, rfl⟩
    exact ⟨rfl, h, ⟨rfl, rfl, rfl, Nat.le_refl _, fun _ _ _ => rfl⟩⟩
set_option maxHeartbeats 1000000 in
theorem writeString_at (B b : Nat) (p v : Value) (l : List UInt8) (s : ByteArray) (w : World) (h : At1 w B b p v l) (hlen : l.length + s.size ≤ 140737488355328) (hBw : B ≤ w.heap.size) :
    Calls Try.prog 21 #[.pointer (some ⟨b, 0, none⟩), .string s] w fun e w' => e = .returned (.tuple #[.int .i64 s.size, .nilIface]) ∧ (∃ v', At1 w' B b (.pointer (some ⟨b, 0, none⟩)) v' (l ++ s.data.toList) ∧ (v'.ownBlock = v.ownBlock ∨ ∃ g, v'.ownBlock = some g ∧ w.heap.size ≤ g)) ∧
      Below B w w' ∧ w.heap.size ≤ w'.heap.size ∧ ∀ k, k < w.heap.size → k ≠ b → v.ownBlock ≠ some k → w'.heap[k]? = w.heap[k]? := by
  obtain ⟨i0, hi, hz0, hz1, hz2⟩ := info_parts infoU8
  go_enter Try.func21, Try.ntmps21
  go_wp2_with fail
  refine (copyCheck_at B b p v l _ h).mono ?_
  rintro e w1 ⟨rfl, h1, hg1⟩
  have hw1 := hg1.size
  have c0 : w1.cell? ⟨b, 0, none⟩ = some (.pointer (some ⟨b, 0, none⟩)) := by rw [Lib.cell_of_heap h1.blk]; rfl
  have c1 : w1.cell? ⟨b, 1, none⟩ = some v := by rw [Lib.cell_of_heap h1.blk]; rfl
  go_wp2_with (at_builtin; refine wpList_append_at rfl _ _ rfl B i0 hi hz0 hz1 hz2 v l.length (Lib.byteCells l) rfl h1.own s rfl ?c3 ?c4 ?c5 ?_)
  case c3 => unfold maxLen; omega
  case c4 => omega
  case c5 => omega
  intro v' w2 hown' hgrow hat
  have hb2 : w2.heap[b]? = some (.cells #[.pointer (some ⟨b, 0, none⟩), v] 48 (0, 0)) := by
    rw [hgrow.block b h1.lt (fun e => h1.ne e.symm)]
    exact h1.blk
  have d0 : w2.cell? ⟨b, 0, none⟩ = some (.pointer (some ⟨b, 0, none⟩)) := by rw [Lib.cell_of_heap hb2]; rfl
  have d1 : w2.cell? ⟨b, 1, none⟩ = some v := by rw [Lib.cell_of_heap hb2]; rfl
  have f1 : w2.frozen? ⟨b, 1, none⟩ = false := Lib.frozen_of_heap hb2 1
  have hH := Lib.hid (And.intro hown' (And.intro hgrow hat))
  obtain ⟨ao, n', cap, rfl⟩ : ∃ ao n' cap, v' = .slice ao n' cap := by
    rcases hown'.2 with ⟨hv, _⟩ | ⟨g, cap, cur, hv, _⟩
    · exact ⟨_, _, _, hv⟩
    · exact ⟨_, _, _, hv⟩
  clear hown' hgrow hat
  go_wp2
  go_ret2
  have hat3 : Lib.BuilderAt 48 5 B b (.pointer (some ⟨b, 0, none⟩)) (Lib.byteCells l ++ Lib.strCells s) (w2.setCell ⟨b, 1, none⟩ (.slice ao n' cap)) :=
    Lib.BuilderAt.put (T := 48) (e := 5) h1.le hb2 (by simpa [Lib.strCells_length, Lib.byteCells_length] using hH.out.1) (by decide)
  refine ⟨rfl, ⟨.slice ao n' cap, ⟨h1.le, ?_, ?_, ?_, Or.inr rfl⟩, ?_⟩, ?_, ?_, fun k hk hkb hkv => ?_⟩
  · simp [World.setCell, Array.getElem?_modify, hb2]
  · rw [Lib.byteCells_append, ← Lib.strCells_eq, List.length_append, Array.length_toList]
    refine own_kept hH.out.1 fun k hk hv => Below.heap_setCell _ _ _ _ (fun e => ?_)
    rcases hH.out.2.2 with h2 | h2
    · rw [h2] at hv; exact h1.ne (by rw [hv, e])
    · rw [h2] at hv; have := h1.lt; injection hv with hv; have e2 : b = k := (by first | exact e | exact e.symm); omega
  · rcases hH.out.2.2 with h2 | h2
    · rw [h2]; exact h1.ne
    · rw [h2]; have := h1.lt; intro e; injection e with e; omega
  · rcases hH.out.2.2 with h2 | h2
    · exact Or.inl h2
    · exact Or.inr ⟨_, h2, hw1⟩
  · have hbl1 : Below B w w1 := ⟨hg1.os, hg1.tape, hg1.output, hg1.size, fun k hk => hg1.block k (by omega) (fun e => by injection e with e; have := h.le; omega)⟩
    exact (hbl1.grown hH.out.2.1 (by omega) (fun k hk => (h1.own.lt k hk).1)).setCell (p := ⟨b, 1, none⟩) h.le _
  · have := hH.out.2.1.size; simp [World.setCell]; omega
  · rw [Below.heap_setCell _ _ _ _ (fun e => hkb e), hH.out.2.1.block k (by omega) (fun e => hkv e.symm), hg1.block k hk (fun e => hkb (by injection e))]
/-- Two Builders. -/
def Two (w : World) (B b1 : Nat) (l1 : List UInt8) (b2 : Nat) (l2 : List UInt8) : Prop :=
  ∃ p1 v1 p2 v2, At1 w B b1 p1 v1 l1 ∧ At1 w B b2 p2 v2 l2 ∧ b1 ≠ b2 ∧ v1.ownBlock ≠ some b2 ∧ v2.ownBlock ≠ some b1 ∧ ∀ k, v1.ownBlock = some k → v2.ownBlock ≠ some k
theorem Two.later {w w' : World} {B b1 b2 : Nat} {l1 l2 : List UInt8} (h : Two w B b1 l1 b2 l2) (hb : Below w.heap.size w w') : Two w' B b1 l1 b2 l2 := by
  obtain ⟨p1, v1, p2, v2, h1, h2, r⟩ := h
  exact ⟨p1, v1, p2, v2, h1.later hb, h2.later hb, r⟩
theorem Two.first {w : World} {B b1 b2 : Nat} {l1 l2 : List UInt8} (h : Two w B b1 l1 b2 l2) : Is w B b1 l1 := by
  obtain ⟨p1, v1, p2, v2, h1, h2, r⟩ := h
  exact h1.is
theorem Two.second {w : World} {B b1 b2 : Nat} {l1 l2 : List UInt8} (h : Two w B b1 l1 b2 l2) : Is w B b2 l2 := by
  obtain ⟨p1, v1, p2, v2, h1, h2, r⟩ := h
  exact h2.is
theorem Two.swap {w : World} {B b1 b2 : Nat} {l1 l2 : List UInt8} (h : Two w B b1 l1 b2 l2) : Two w B b2 l2 b1 l1 := by
  obtain ⟨p1, v1, p2, v2, h1, h2, r1, r2, r3, r4⟩ := h
  exact ⟨p2, v2, p1, v1, h2, h1, Ne.symm r1, r3, r2, fun k hk hk' => r4 k hk' hk⟩
/-- Blocks of other types than a Builder's and bytes are as they were. -/
def Apart (w w' : World) : Prop := w.heap.size ≤ w'.heap.size ∧ ∀ (k : Nat) (cs : Array Value) (te : TypeId) (fr : Nat × Nat), w.heap[k]? = some (.cells cs te fr) → te ≠ 5 → te ≠ 48 → w'.heap[k]? = w.heap[k]?
theorem row_type {w : World} {B : Nat} {e : TypeId} {v : Value} {n : Nat} {xs : List Value} (h : w.ownsRow B e 1 v n xs) {k : Nat} (hk : v.ownBlock = some k) : ∃ cur fr, w.heap[k]? = some (.cells cur e fr) := by
  rcases h.2 with ⟨rfl, _⟩ | ⟨g, cap, cur, rfl, _, hh, _⟩
  · simp [Value.ownBlock] at hk
  · have : g = k := by simpa [Value.ownBlock] using hk
    subst this
    exact ⟨cur, (0, 0), hh⟩
theorem apart_of {w w' : World} {B b : Nat} {p v : Value} {l : List UInt8} (h : At1 w B b p v l) (hk : w.heap.size ≤ w'.heap.size ∧ ∀ k, k < w.heap.size → k ≠ b → v.ownBlock ≠ some k → w'.heap[k]? = w.heap[k]?) : Apart w w' := by
  refine ⟨hk.1, fun k cs te fr hc h1 h2 => hk.2 k (Array.getElem?_eq_some_iff.1 hc).1 (fun e => ?_) (fun e => ?_)⟩
  · subst e
    rw [h.blk] at hc
    injection hc with hc
    injection hc with _ e2 _
    exact h2 e2.symm
  · obtain ⟨cur, fr', hh⟩ := row_type h.own e
    rw [hh] at hc
    injection hc with hc
    injection hc with _ e2 _
    exact h1 e2.symm
theorem Apart.sl {w w' : World} (h : Apart w w') {base : Nat} {e : TypeId} {size n : Nat} {v : Value} {xs : List Value} (hs : SlIs w base e size v n xs) (h1 : e ≠ 5) (h2 : e ≠ 48) : SlIs w' base e size v n xs := by
  refine ⟨hs.1, ?_⟩
  rcases hs.2 with h0 | ⟨g, off, cap, cur, hv, hg, ⟨fr, hh, hf⟩, r⟩
  · exact Or.inl h0
  · exact Or.inr ⟨g, off, cap, cur, hv, hg, ⟨fr, (h.2 g _ _ _ hh h1 h2).trans hh, hf⟩, r⟩
theorem Apart.blk {w w' : World} (h : Apart w w') {g : Nat} {te : TypeId} {cs : Array Value} (hb : BlkIs w g te cs) (h1 : te ≠ 5) (h2 : te ≠ 48) : BlkIs w' g te cs := (h.2 g _ _ _ hb h1 h2).trans hb
/-- What grows another type's row leaves two Builders. -/
theorem Two.grown {w w' : World} {B b1 b2 : Nat} {l1 l2 : List UInt8} (h : Two w B b1 l1 b2 l2) {base : Nat} {e : TypeId} {size n : Nat} {v : Value} {xs : List Value} (hs : SlIs w base e size v n xs) (h1 : e ≠ 5) (h2 : e ≠ 48) (hg : w.grownBy w' v.ownBlock) : Two w' B b1 l1 b2 l2 := by
  obtain ⟨p1, v1, p2, v2, k1, k2, r⟩ := h
  have key : ∀ {b : Nat} {p u : Value} {l : List UInt8}, At1 w B b p u l → ∀ k, k < w.heap.size → (k = b ∨ u.ownBlock = some k) → w'.heap[k]? = w.heap[k]? := fun {b p u l} ha k hk hkk => by
    refine hg.block k hk fun e1 => ?_
    have hty : ∃ cur fr, w.heap[k]? = some (.cells cur e fr) := by
      rcases hs.2 with ⟨h0, _⟩ | ⟨g, off, cap, cur, hv, _, ⟨fr, hh, _⟩, _⟩
      · rw [h0] at e1; cases e1
      · rw [hv] at e1
        have : k = g := by simpa [Value.ownBlock] using e1
        exact ⟨cur, fr, by rw [this]; exact hh⟩
    obtain ⟨cur, fr, hc⟩ := hty
    rcases hkk with rfl | hkk
    · rw [ha.blk] at hc
      injection hc with hc
      injection hc with _ e2 _
      exact h2 e2.symm
    · obtain ⟨cur', fr', hh⟩ := row_type ha.own hkk
      rw [hh] at hc
      injection hc with hc
      injection hc with _ e2 _
      exact h1 e2.symm
  exact ⟨p1, v1, p2, v2, k1.kept (key k1), k2.kept (key k2), r⟩
theorem write_first (B b1 b2 : Nat) (l1 l2 : List UInt8) (s : ByteArray) (w : World) (h : Two w B b1 l1 b2 l2) (hlen : l1.length + s.size ≤ 140737488355328) (hBw : B ≤ w.heap.size) :
    Calls Try.prog 21 #[.pointer (some ⟨b1, 0, none⟩), .string s] w fun e w' => e = .returned (.tuple #[.int .i64 s.size, .nilIface]) ∧ Two w' B b1 (l1 ++ s.data.toList) b2 l2 ∧ Below B w w' ∧ Apart w w' := by
  obtain ⟨p1, v1, p2, v2, h1, h2, r1, r2, r3, r4⟩ := h
  refine (writeString_at B b1 p1 v1 l1 s w h1 hlen hBw).mono ?_
  rintro e w' ⟨rfl, ⟨v', k1, hv⟩, hb, hk⟩
  have hlt2 : ∀ k, v2.ownBlock = some k → k < w.heap.size := fun k hk => own_lt h2.own hk
  refine ⟨rfl, ⟨_, v', p2, v2, k1, h2.kept fun k hkl hkk => hk.2 k hkl ?_ ?_, r1, ?_, r3, ?_⟩, hb, apart_of h1 hk⟩
  · rcases hkk with rfl | hkk
    · exact Ne.symm r1
    · intro e; rw [e] at hkk; exact r3 hkk
  · rcases hkk with rfl | hkk
    · exact r2
    · intro e; exact r4 k e hkk
  · rcases hv with hv | ⟨g, hv, hg⟩
    · rw [hv]; exact r2
    · rw [hv]; intro e; injection e with e; have := h2.lt; omega
  · rcases hv with hv | ⟨g, hv, hg⟩
    · rw [hv]; exact r4
    · intro k e e2
      rw [hv] at e
      injection e with e
      have := hlt2 k e2
      omega
theorem write_second (B b1 b2 : Nat) (l1 l2 : List UInt8) (s : ByteArray) (w : World) (h : Two w B b1 l1 b2 l2) (hlen : l2.length + s.size ≤ 140737488355328) (hBw : B ≤ w.heap.size) :
    Calls Try.prog 21 #[.pointer (some ⟨b2, 0, none⟩), .string s] w fun e w' => e = .returned (.tuple #[.int .i64 s.size, .nilIface]) ∧ Two w' B b1 l1 b2 (l2 ++ s.data.toList) ∧ Below B w w' ∧ Apart w w' :=
  (write_first B b2 b1 l2 l1 s w h.swap hlen hBw).mono fun e w' ⟨h1, h2, h3⟩ => ⟨h1, h2.swap, h3⟩
theorem two_new (w : World) (W : World) (hW : W = (w.alloc (.cells #[.pointer none, .slice none 0 0] 48)).alloc (.cells #[.pointer none, .slice none 0 0] 48)) : Two W w.heap.size w.heap.size [] (w.heap.size + 1) [] := by
  subst hW
  refine ⟨.pointer none, .slice none 0 0, .pointer none, .slice none 0 0, (At1.new w).later ((Below.refl _ _).alloc (Nat.le_refl _) _), ⟨by omega, BlkIs.new2 _ _ _ _, World.ownsRow_nil _ _ _ _, by simp [Value.ownBlock], Or.inl rfl⟩, by omega, by simp [Value.ownBlock], by simp [Value.ownBlock], by simp [Value.ownBlock]⟩
/-- How many bytes a Builder holds. -/
theorem len_any (B b : Nat) (l : List UInt8) (w : World) (h : Is w B b l) : Calls Try.prog 23 #[.pointer (some ⟨b, 0, none⟩)] w fun e w' => e = .returned (.int .i64 l.length) ∧ w = w' := by
  obtain ⟨p, hB, v, hbk, hown, hne⟩ : ∃ p, Lib.BuilderAt 48 5 B b p (Lib.byteCells l) w := by
    rcases h with h | h
    · exact ⟨_, h⟩
    · exact ⟨_, h⟩
  rw [Lib.byteCells_length] at hown
  have c1 : w.cell? ⟨b, 1, none⟩ = some v := by rw [Lib.cell_of_heap hbk]; rfl
  obtain ⟨ao, cap, rfl⟩ : ∃ ao cap, v = .slice ao l.length cap := by
    rcases hown.2 with ⟨hv, h0⟩ | ⟨g, cap, cur, hv, _⟩
    · exact ⟨none, 0, by rw [hv, h0]⟩
    · exact ⟨_, _, hv⟩
  clear h hbk hown hne
  go_enter Try.func23, Try.ntmps23
  go_wp2_with fail
  go_ret
  exact ⟨rfl, rfl⟩
theorem freeze_other (w : World) (g n k : Nat) (h : g ≠ k) : (w.drew.freeze ⟨g, 0, none⟩ n).heap[k]? = w.heap[k]? := by
  unfold World.freeze
  split
  · rfl
  · show (w.heap.modify g _)[k]? = _
    rw [Array.getElem?_modify, if_neg h]
set_option maxHeartbeats 1000000 in
theorem string_frame_ne (B b : Nat) (p v : Value) (l : List UInt8) (w : World) (h : At1 w B b p v l) (h0 : l ≠ []) :
    Calls Try.prog 26 #[.pointer (some ⟨b, 0, none⟩)] w fun e w' => e = .returned (.string ⟨l.toArray⟩) ∧ Below B w w' ∧ ∀ k, v.ownBlock ≠ some k → w'.heap[k]? = w.heap[k]? := by
  obtain ⟨hB, hbk, hown, hne, hptr⟩ := h
  have hl0 : l.length ≠ 0 := by simpa using h0
  obtain ⟨g, cap, cur, rfl, hbg, hg, hnc, hcm, hcs, htake⟩ : ∃ g cap cur, v = .slice (some ⟨g, 0, none⟩) l.length cap ∧ B ≤ g ∧ w.heap[g]? = some (.cells cur 5 (0, 0)) ∧ l.length ≤ cap ∧ cap ≤ maxLen ∧ cur.size = cap * 1 ∧ cur.toList.take (l.length * 1) = Lib.byteCells l := by
    rcases hown.2 with ⟨_, hz⟩ | ⟨g, cap, cur, hv, r⟩
    · exact absurd hz hl0
    · exact ⟨g, cap, cur, hv, r⟩
  have c1 : w.drew.cell? ⟨b, 1, none⟩ = some (.slice (some ⟨g, 0, none⟩) l.length cap) := by
    have : w.drew.heap[b]? = some (.cells #[p, .slice (some ⟨g, 0, none⟩) l.length cap] 48 (0, 0)) := hbk
    rw [Lib.cell_of_heap this]; rfl
  have hSD : (Builtin.unsafeSliceData_ #[37] 83 #[.slice (some ⟨g, 0, none⟩) l.length cap]).run Try.prog w.drew = .ok (.pointer (some ⟨g, 0, none⟩)) w.drew :=
    Lib.run_unsafeSliceData_row _ _ _ _ _ _ (by omega)
  have hUS : (Builtin.unsafeString_ #[83, 3] 9 #[.pointer (some ⟨g, 0, none⟩), .int .i64 l.length]).run Try.prog w.drew = .ok (.string ⟨l.toArray⟩) (w.drew.freeze ⟨g, 0, none⟩ l.length) := by
    refine Lib.run_unsafeString_row w.drew 83 3 9 5 Try.underlying83 (by kernel_rfl) g cur.size (by have hg' : w.drew.heap[g]? = some (.cells cur 5 (0, 0)) := hg; simp [World.shape?, hg']) l h0 (by omega) (by unfold maxLen at hcm; omega) ?_
    intro j x hx
    exact hown.cells (g := g) rfl j (.int .u8 x.toNat) (by simp [Lib.byteCells, hx])
  go_enter Try.func26, Try.ntmps26
  go_wp2
  go_region
  all_goals (go_wp2; go_ret; exact ⟨rfl, Lib.below_freeze (Below.drew (Below.refl B w)) (p := ⟨g, 0, none⟩) hbg _, fun k hk => freeze_other w g _ k (fun e => hk (by simp [Value.ownBlock, e]))⟩)
set_option maxHeartbeats 1000000 in
theorem string_nil (B b : Nat) (w : World) (h : Is w B b []) :
    Calls Try.prog 26 #[.pointer (some ⟨b, 0, none⟩)] w fun e w' => e = .returned (.string ⟨#[]⟩) ∧ Below w.heap.size w w' := by
  obtain ⟨p, hB, v, hbk, hown, hne⟩ : ∃ p, Lib.BuilderAt 48 5 B b p (Lib.byteCells []) w := by
    rcases h with h | h
    · exact ⟨_, h⟩
    · exact ⟨_, h⟩
  obtain ⟨ao, cap, q, W2, rfl, hSD, hlat⟩ : ∃ ao cap q W2, v = .slice ao 0 cap ∧ (Builtin.unsafeSliceData_ #[37] 83 #[.slice ao 0 cap]).run Try.prog w.drew = .ok (.pointer q) W2 ∧ Below w.heap.size w W2 := by
    rcases hown.2 with ⟨hv, _⟩ | ⟨g, cap, cur, hv, hbg, hg, _⟩
    · exact ⟨none, 0, none, _, hv, Lib.run_unsafeSliceData_nil _ _ _ _ _, Below.drew (Below.refl _ w)⟩
    · by_cases hc : cap = 0
      · subst hc
        have hg' : w.drew.heap[g]? = some (.cells cur 5 (0, 0)) := hg
        have := Lib.run_unsafeSliceData_zero (P := Try.prog) w.drew #[37] 83 5 Try.underlying83 ⟨g, 0, none⟩ 0 (5, cur.size) (by simp [World.shape?, hg'])
        exact ⟨_, _, _, _, hv, this, (Below.drew (Below.refl w.heap.size w)).alloc (Nat.le_refl _) _⟩
      · exact ⟨_, _, _, _, hv, Lib.run_unsafeSliceData_row _ _ _ _ _ _ hc, Below.drew (Below.refl _ w)⟩
  have hbk' : w.drew.heap[b]? = some (.cells #[p, .slice ao 0 cap] 48 (0, 0)) := hbk
  have hlt : b < w.heap.size := (Array.getElem?_eq_some_iff.1 hbk).1
  have c1 : w.drew.cell? ⟨b, 1, none⟩ = some (.slice ao 0 cap) := by rw [Lib.cell_of_heap hbk']; rfl
  have c2 : W2.cell? ⟨b, 1, none⟩ = some (.slice ao 0 cap) := by rw [hlat.cell hlt]; exact c1
  have hUS : ∀ W : World, (Builtin.unsafeString_ #[83, 3] 9 #[.pointer q, .int .i64 0]).run Try.prog W = .ok (.string ⟨#[]⟩) W := fun W => Lib.run_unsafeString_none _ _ _ _ _
  have HB := Lib.hid hlat
  clear hlat hbk'
  clear h hbk hown hne
  go_enter Try.func26, Try.ntmps26
  go_wp2
  go_region
  all_goals (go_wp2; go_ret; exact ⟨rfl, HB.out⟩)
/-- The text of a Builder. -/
theorem string_all (B b : Nat) (l : List UInt8) (w : World) (h : Is w B b l) :
    Calls Try.prog 26 #[.pointer (some ⟨b, 0, none⟩)] w fun e w' => e = .returned (.string ⟨l.toArray⟩) ∧ Below B w w' := by
  by_cases h0 : l = []
  · subst h0
    have hB : B ≤ w.heap.size := by
      rcases h with h | h
      · have := h.1; have := Lib.BuilderAt.lt h; omega
      · have := h.1; have := Lib.BuilderAt.lt h; omega
    exact (string_nil B b w h).mono fun e w' ⟨h1, h2⟩ => ⟨h1, h2.mono hB⟩
  · exact string B b l w h h0
/-- The first Builder's text; the second is left. -/
theorem string_first (B b1 b2 : Nat) (l1 l2 : List UInt8) (w : World) (h : Two w B b1 l1 b2 l2) :
    Calls Try.prog 26 #[.pointer (some ⟨b1, 0, none⟩)] w fun e w' => e = .returned (.string ⟨l1.toArray⟩) ∧ Is w' B b2 l2 ∧ Below B w w' := by
  obtain ⟨p1, v1, p2, v2, h1, h2, r1, r2, r3, r4⟩ := h
  by_cases h0 : l1 = []
  · subst h0
    exact (string_nil B b1 w h1.is).mono fun e w' ⟨e1, e2⟩ => ⟨e1, (h2.later e2).is, e2.mono (by have := h1.le; have := h1.lt; omega)⟩
  · refine (string_frame_ne B b1 p1 v1 l1 w h1 h0).mono fun e w' ⟨e1, e2, e3⟩ => ⟨e1, (h2.kept fun k hk hkk => e3 k ?_).is, e2⟩
    rcases hkk with rfl | hkk
    · exact r2
    · intro e; exact r4 k e hkk
end Go.Proofs.Ytabgpleiobpeoaa.Bld
