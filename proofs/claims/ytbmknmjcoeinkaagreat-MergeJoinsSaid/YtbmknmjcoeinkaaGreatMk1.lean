/- Marks as they lie in memory; what a function value tells of things. No program is walked. (Layer 12.) -/
import Derived.Test.YtbmknmjcoeinkaaGreatMk0
import Derived.Test.YtbmknmjcoeinkaaGreatRowAt
import Derived.Test.YtbmknmjcoeinkaaGreatChecked
namespace Go.Proofs.YtbmknmjcoeinkaaGreat.Mk
set_option linter.unusedVariables false
open Go.RowKit
def vTok (x : Tok) : List Value := [.int .i64 x.node, .int .i64 x.n, .string x.id]
def vRf (x : Rf) : List Value := [.string x.name, .string x.id, .int .i64 x.h]
def vInt (n : Int) : List Value := [.int .i64 n]
/-- A tomb as it lies. -/
structure TbR where
  t : Tb
  cv : Value
  av : Value
def vTb (x : TbR) : List Value := [.int .i64 x.t.node, .int .i64 x.t.n, .string x.t.id, x.cv, x.av]
def aTok (x : Tok) : Value := .agg #[.int .i64 x.node, .int .i64 x.n, .string x.id]
def aRf (x : Rf) : Value := .agg #[.string x.name, .string x.id, .int .i64 x.h]
def aInt (n : Int) : Value := .int .i64 n
def aTb (x : TbR) : Value := .agg #[.int .i64 x.t.node, .int .i64 x.t.n, .string x.t.id, x.cv, x.av]
/-- The lists that a tomb holds, short enough and readable. -/
def TbR.Reads (w : World) (x : TbR) : Prop := RowAt 3 vTok w x.cv x.t.cov ∧ RowAt 1 vInt w x.av x.t.acks
theorem TbR.Reads.later {w w' : World} {x : TbR} (h : x.Reads w) (hb : Below w.heap.size w w') : x.Reads w' := ⟨h.1.later hb, h.2.later hb⟩
/-- A row of tombs, with all that they hold. -/
def TombsAt (w : World) (v : Value) (zs : List TbR) : Prop := RowAt 5 vTb w v zs ∧ ∀ z ∈ zs, z.Reads w
theorem TombsAt.later {w w' : World} {v : Value} {zs : List TbR} (h : TombsAt w v zs) (hb : Below w.heap.size w w') : TombsAt w' v zs := ⟨h.1.later hb, fun z hz => (h.2 z hz).later hb⟩
/-- What marks are, as they lie. -/
structure MkR where
  refs : List Rf
  toks : List Tok
  tombs : List TbR
  rv : Value
  kv : Value
  bv : Value
def MkR.mk_ (m : MkR) : Mks := ⟨m.refs, m.toks, m.tombs.map (·.t)⟩
def aMk (m : MkR) : Value := .agg #[m.rv, m.kv, m.bv]
def MkR.Reads (w : World) (m : MkR) : Prop := RowAt 3 vRf w m.rv m.refs ∧ RowAt 3 vTok w m.kv m.toks ∧ TombsAt w m.bv m.tombs
theorem MkR.Reads.later {w w' : World} {m : MkR} (h : m.Reads w) (hb : Below w.heap.size w w') : m.Reads w' := ⟨h.1.later hb, h.2.1.later hb, h.2.2.later hb⟩
def fnv (g : Nat) (lb : Array Value) : Value := .func (.func g) #[] lb
/-- A function value, called with one of these things in a later world, tells p of it; it may lay blocks. -/
def Tells {α : Type} (g : Nat) (lb : Array Value) (enc : α → Value) (p : α → Bool) (l : List α) (w : World) : Prop :=
  (∀ args w, (callFunc g args).run Tryz.prog w = .ok (.enter g args) w) ∧ ∀ x ∈ l, ∀ W, Below w.heap.size w W → Calls Tryz.prog g (#[enc x] ++ lb) W fun e w' => e = .returned (.bool (p x)) ∧ Below W.heap.size W w'
theorem Tells.later {α : Type} {g : Nat} {lb : Array Value} {enc : α → Value} {p : α → Bool} {l : List α} {w w' : World} (h : Tells g lb enc p l w) (hb : Below w.heap.size w w') : Tells g lb enc p l w' :=
  ⟨h.1, fun x hx W hW => h.2 x hx W (hb.trans (hW.mono hb.size))⟩
/-- The same, of two of them. -/
def Tells2 {α : Type} (g : Nat) (lb : Array Value) (enc : α → Value) (p : α → α → Bool) (l : List α) (w : World) : Prop :=
  (∀ args w, (callFunc g args).run Tryz.prog w = .ok (.enter g args) w) ∧ ∀ x ∈ l, ∀ y ∈ l, ∀ W, Below w.heap.size w W → Calls Tryz.prog g (#[enc x, enc y] ++ lb) W fun e w' => e = .returned (.bool (p x y)) ∧ Below W.heap.size W w'
/-- Where the first of them stands. -/
def idxOf {α : Type} (p : α → Bool) (l : List α) : Int := match l.findIdx? p with
  | some i => (i : Int)
  | none => -1
theorem idxOf_none {α : Type} {p : α → Bool} {l : List α} (h : ∀ x ∈ l, p x = false) : idxOf p l = -1 := by
  unfold idxOf
  rw [List.findIdx?_eq_none_iff.2 (fun x hx => by simpa using h x hx)]
theorem idxOf_some {α : Type} {p : α → Bool} {l : List α} {k : Nat} (hk : k < l.length) (h : ∀ x ∈ l.take k, p x = false) (hp : p l[k] = true) : idxOf p l = (k : Int) := by
  unfold idxOf
  rw [show l.findIdx? p = some k from List.findIdx?_eq_some_iff_getElem.2 ⟨hk, hp, fun j hj => by
    have := h l[j] (List.mem_take_iff_getElem.2 ⟨j, by omega, rfl⟩)
    simp [this]⟩]
theorem idxOf_any {α : Type} (p : α → Bool) (l : List α) : decide ((0 : Int) ≤ idxOf p l) = l.any p := by
  unfold idxOf
  cases h : l.findIdx? p with
  | none =>
    have := List.findIdx?_eq_none_iff.1 h
    rw [show l.any p = false from by rw [List.any_eq_false]; intro x hx; simpa using this x hx]
    rfl
  | some i =>
    obtain ⟨hi, hp, _⟩ := List.findIdx?_eq_some_iff_getElem.1 h
    rw [show l.any p = true from List.any_eq_true.2 ⟨l[i], List.getElem_mem hi, hp⟩]
    simp
theorem take_snoc' {α : Type} {l : List α} {k : Nat} (h : k < l.length) : l.take (k + 1) = l.take k ++ [l[k]] := List.take_succ_eq_append_getElem h
end Go.Proofs.YtbmknmjcoeinkaaGreat.Mk
