/- What bytes decode to, as a plain record; object.Good of any object whose slices are known; the program's Decode walked. Condition: at most 2^18 bytes. -/
import Derived.Test.YtmdchfmcghiaeaaEnts
import Derived.Test.YtmdchfmcghiaeaaObj2
namespace Go.Proofs.Ytmdchfmcghiaeaa.Obj
open Go.RowKit
open Oct (Rd takeR textR val Moved)
/-- An object, plain: its kind, data, entries, tree, parents, height, note. -/
structure Plain where
  k : Int
  d : ByteArray
  ne : Nat
  nm : Nat → ByteArray
  kd : Nat → Int
  id : Nat → ByteArray
  t : ByteArray
  np : Nat
  f : Nat → ByteArray
  h : Int
  n : ByteArray
def none_ : Plain := ⟨0, ⟨#[]⟩, 0, fun _ => ⟨#[]⟩, fun _ => 0, fun _ => ⟨#[]⟩, ⟨#[]⟩, 0, fun _ => ⟨#[]⟩, 0, ⟨#[]⟩⟩
def Plain.good (o : Plain) : Bool :=
  if o.k = 1 then decide ((o.d.size : Int) ≤ 65536) else if o.k = 2 then treeOk o.ne o.nm o.kd o.id else if o.k = 3 then commitOk o.t o.np o.f o.h o.n else false
def EntsV (w : World) (v : Value) (o : Plain) : Prop := ∃ ao cap, v = .slice ao o.ne cap ∧ EntsAt w ao o.ne o.nm o.kd o.id
def StrsV (w : World) (v : Value) (o : Plain) : Prop := ∃ ao cap, v = .slice ao o.np cap ∧ StrsAt w ao o.np o.f
def StrsC (w : World) (v : Value) (o : Plain) : Prop := ∃ ao cap, v = .slice ao o.np cap ∧ o.np ≤ cap ∧ StrsAt w ao o.np o.f
theorem StrsC.strs {w : World} {v : Value} {o : Plain} (h : StrsC w v o) : StrsV w v o := by
  obtain ⟨ao, cap, hv, _, hs⟩ := h
  exact ⟨ao, cap, hv, hs⟩
theorem StrsC.later {w w' : World} {v : Value} {o : Plain} (h : StrsC w v o) (hb : Below w.heap.size w w') : StrsC w' v o := by
  obtain ⟨ao, cap, hv, hc, h1⟩ := h
  exact ⟨ao, cap, hv, hc, h1.later hb⟩
theorem EntsV.later {w w' : World} {v : Value} {o : Plain} (h : EntsV w v o) (hb : Below w.heap.size w w') : EntsV w' v o := by
  obtain ⟨ao, cap, hv, h1⟩ := h
  exact ⟨ao, cap, hv, h1.later hb⟩
theorem StrsV.later {w w' : World} {v : Value} {o : Plain} (h : StrsV w v o) (hb : Below w.heap.size w w') : StrsV w' v o := by
  obtain ⟨ao, cap, hv, h1⟩ := h
  exact ⟨ao, cap, hv, h1.later hb⟩
theorem good_commit3 (d : ByteArray) (es : Value) (t : ByteArray) (ps : Value) (h : Int) (n : ByteArray) (w : World) (g : Bool)
    (hg : ∀ w1 : World, Below w.heap.size w w1 → Calls Try.prog 62 #[obj 3 d es t ps h n] w1 fun e w' => e = .returned (.bool g) ∧ Below w1.heap.size w1 w') :
    Calls Try.prog 29 #[obj 3 d es t ps h n] w fun e w' => e = .returned (.bool g) ∧ Below w.heap.size w w' := by
  have hb0 := (Below.refl w.heap.size w).alloc (Nat.le_refl _) (.cells #[.int .i64 3, .string d, es, .string t, ps, .int .i64 h, .string n] 34)
  have Hg := Lib.hid (And.intro (hg _ hb0) hb0)
  clear hg hb0
  unfold obj at *
  go_enter Try.func29, Try.ntmps29
  go_wp2_with fail
  refine Hg.out.1.mono ?_
  rintro e w1 ⟨rfl, hb1⟩
  have hb := Hg.out.2.trans (hb1.mono Hg.out.2.size)
  clear hb1
  go_wp2_with fail
  go_ret
  exact ⟨rfl, hb⟩
theorem good_any (o : Plain) (es ps : Value) (w : World) (he : EntsV w es o) (hp : StrsV w ps o) (hn : o.ne ≤ 1000000) :
    Calls Try.prog 29 #[obj o.k o.d es o.t ps o.h o.n] w fun e w' => e = .returned (.bool o.good) ∧ Below w.heap.size w w' := by
  obtain ⟨k, d, ne, nm, kd, id, t, np, f, h, n⟩ := o
  obtain ⟨ao, cap, rfl, he⟩ := he
  obtain ⟨ap, cp, rfl, hp⟩ := hp
  simp only [Plain.good] at *
  by_cases h1 : k = 1
  · subst h1
    rw [if_pos rfl]
    exact good_blob d _ t _ h n w
  rw [if_neg h1]
  by_cases h2 : k = 2
  · subst h2
    rw [if_pos rfl]
    exact good_tree d _ t _ h n w _ fun w1 hb => tree_any ao ne cap nm kd id w1 (he.later hb) hn
  rw [if_neg h2]
  by_cases h3 : k = 3
  · subst h3
    rw [if_pos rfl]
    exact good_commit3 d _ t _ h n w _ fun w1 hb => good_commit 3 d _ t ap np cp f h n w1 (hp.later hb)
  rw [if_neg h3]
  exact good_odd k d _ t _ h n w h1 h2 h3
/-- The bytes behind the first. -/
def rest (s : ByteArray) : ByteArray := s.extract 1 s.size
def first (s : ByteArray) : Int := kindOf s
/-- Where a tree's Reader stands: its number, and the state behind it. -/
def treeQ (s : ByteArray) : ByteArray × ByteArray × Bool := takeR (rest s) false 4
def treeN (s : ByteArray) : Nat := val (treeQ s).1.data.toList
def treeEnd (s : ByteArray) : ByteArray × Bool := entsEnd (treeQ s).2 (treeN s)
def asTree (s : ByteArray) : Plain := { none_ with k := 2, ne := treeN s, nm := entN (treeQ s).2, kd := entK (treeQ s).2, id := entI (treeQ s).2 }
/-- A commit's: its tree, the number of parents, the state behind them, height, note. -/
def comT (s : ByteArray) : ByteArray × ByteArray × Bool := takeR (rest s) false 32
def comQ (s : ByteArray) : ByteArray × ByteArray × Bool := takeR (comT s).2.1 (comT s).2.2 4
def comN (s : ByteArray) : Nat := val (comQ s).1.data.toList
def comP (s : ByteArray) : ByteArray × Bool := parsEnd (comQ s).2 (comN s)
def comH (s : ByteArray) : ByteArray × ByteArray × Bool := takeR (comP s).1 (comP s).2 4
def comNote (s : ByteArray) : ByteArray × ByteArray × Bool := textR (comH s).2.1 (comH s).2.2 1000
def comEnd (s : ByteArray) : ByteArray × Bool := (comNote s).2
def asCommit (s : ByteArray) : Plain := { none_ with k := 3, t := (comT s).1, np := comN s, f := parT (comQ s).2, h := (val (comH s).1.data.toList : Nat), n := (comNote s).1 }
def asBlob (s : ByteArray) : Plain := { none_ with k := 1, d := rest s }
/-- Whether a state is whole: nothing left, and not bad. -/
def whole (e : ByteArray × Bool) : Bool := !e.2 && decide (e.1.size = 0)
/-- The object of bytes, or none. -/
def dec (s : ByteArray) : Option Plain :=
  if s.size = 0 then none
  else if first s = 1 then (if (asBlob s).good then some (asBlob s) else none)
  else if first s = 2 then (if whole (treeEnd s) && (asTree s).good then some (asTree s) else none)
  else if first s = 3 then (if whole (comEnd s) && (asCommit s).good then some (asCommit s) else none)
  else none
/-- What Decode hands back: the object, or the empty one with ErrForm. -/
def DecOut (w : World) (s : ByteArray) (e : Ending) : Prop :=
  ∃ es ps, EntsV w es ((dec s).getD none_) ∧ StrsC w ps ((dec s).getD none_) ∧
    e = .returned (.tuple #[obj ((dec s).getD none_).k ((dec s).getD none_).d es ((dec s).getD none_).t ps ((dec s).getD none_).h ((dec s).getD none_).n, .int .i64 (if (dec s).isSome then 0 else 4)])
theorem entsV_nil (w : World) (o : Plain) (h : o.ne = 0) : EntsV w (.slice none 0 0) o := ⟨none, 0, by rw [h], by rw [h]; decide, fun hn => by omega⟩
theorem strsV_nil (w : World) (o : Plain) (h : o.np = 0) : StrsV w (.slice none 0 0) o := ⟨none, 0, by rw [h], by rw [h]; decide, fun hn => by omega⟩
theorem strsC_nil (w : World) (o : Plain) (h : o.np = 0) : StrsC w (.slice none 0 0) o := ⟨none, 0, by rw [h], by omega, by rw [h]; decide, fun hn => by omega⟩
theorem decOut_none (w : World) (s : ByteArray) (h : dec s = none) : DecOut w s (.returned (.tuple #[obj 0 ⟨#[]⟩ (.slice none 0 0) ⟨#[]⟩ (.slice none 0 0) 0 ⟨#[]⟩, .int .i64 4])) :=
  ⟨_, _, entsV_nil w _ (by rw [h]; rfl), strsC_nil w _ (by rw [h]; rfl), by rw [h]; rfl⟩
end Go.Proofs.Ytmdchfmcghiaeaa.Obj
