/- Several texts in one. (Layer 19.) -/
import Derived.Test.YtljenganlknhbaaGreatPkB
import Derived.Test.YtljenganlknhbaaGreatPath
import Derived.Test.YtljenganlknhbaaGreatPkA
import Derived.Test.YtljenganlknhbaaGreatChecked
/- Marks, plain: what they are, which can be, their bytes, and that these are read back. No program is walked. (Layer 12.) -/
namespace Go.Proofs.YtljenganlknhbaaGreat.Mk
set_option linter.unusedVariables false
open Oct
open Go.Proofs.YtljenganlknhbaaGreat.Path (nameOk)
structure Tok where
  node : Int
  n : Int
  id : ByteArray
structure Rf where
  name : ByteArray
  id : ByteArray
  h : Int
structure Tb where
  node : Int
  n : Int
  id : ByteArray
  cov : List Tok
  acks : List Int
structure Mks where
  refs : List Rf
  toks : List Tok
  tombs : List Tb
instance : Inhabited Tok := ⟨⟨0, 0, ⟨#[]⟩⟩⟩
instance : Inhabited Rf := ⟨⟨⟨#[]⟩, ⟨#[]⟩, 0⟩⟩
instance : Inhabited Tb := ⟨⟨0, 0, ⟨#[]⟩, [], []⟩⟩
def Mks.empty : Mks := ⟨[], [], []⟩
/-- Each stands behind the one ahead of it. -/
def riseB {α : Type} (p : α → α → Bool) : List α → Bool
  | [] => true
  | [_] => true
  | a :: b :: l => p a b && riseB p (b :: l)
theorem riseB_iff {α : Type} (p : α → α → Bool) : ∀ (l : List α), riseB p l = true ↔ ∀ i (h : i + 1 < l.length), p l[i] l[i + 1] = true
  | [] => by simp [riseB]
  | [_] => by simp [riseB]
  | a :: b :: l => by
    rw [riseB, Bool.and_eq_true, riseB_iff p (b :: l)]
    constructor
    · rintro ⟨h1, h2⟩ i hi
      cases i with
      | zero => exact h1
      | succ i => exact h2 i (by simpa using hi)
    · intro h
      exact ⟨h 0 (by simp), fun i hi => h (i + 1) (by simpa using hi)⟩
theorem riseB_pairwise {α : Type} {p : α → α → Bool} (ht : ∀ a b c, p a b = true → p b c = true → p a c = true) : ∀ {l : List α}, riseB p l = true ↔ l.Pairwise fun a b => p a b = true
  | [] => by simp [riseB]
  | [_] => by simp [riseB]
  | a :: b :: l => by
    rw [riseB, Bool.and_eq_true, riseB_pairwise ht, List.pairwise_cons (a := a)]
    constructor
    · rintro ⟨h1, h2⟩
      refine ⟨fun c hc => ?_, h2⟩
      rcases List.mem_cons.1 hc with rfl | hc
      · exact h1
      · exact ht a b c h1 ((List.pairwise_cons.1 h2).1 c hc)
    · rintro ⟨h1, h2⟩
      exact ⟨h1 b (by simp), h2⟩
def thingB (x : Tok) : Bool := decide (1 ≤ x.node ∧ x.node ≤ 7 ∧ 1 ≤ x.n ∧ x.n ≤ 1073741824 ∧ x.id.size = 32)
def aheadB (a b : Tok) : Bool := decide (a.node < b.node ∨ a.node = b.node ∧ a.n < b.n)
def tokensB (l : List Tok) : Bool := decide (l.length ≤ 256) && l.all thingB && riseB aheadB l
def thingOf (t : Tb) : Tok := ⟨t.node, t.n, t.id⟩
def isNodeB (n : Int) : Bool := decide (1 ≤ n ∧ n ≤ 7)
def ltB (a b : Int) : Bool := decide (a < b)
def sameId (t : Tb) (x : Tok) : Bool := x.id.toList == t.id.toList
def tombB (t : Tb) : Bool := thingB (thingOf t) && tokensB t.cov && t.cov.all (sameId t) && t.acks.all isNodeB && riseB ltB t.acks
def refB (r : Rf) : Bool := nameOk r.name && decide (r.id.size = 32 ∧ 0 ≤ r.h ∧ r.h ≤ 1073741824)
def nameLt (a b : Rf) : Bool := decide (a.name.data.toList < b.name.data.toList)
def tombLt (a b : Tb) : Bool := aheadB (thingOf a) (thingOf b)
def refsB (l : List Rf) : Bool := decide (l.length ≤ 64) && l.all refB && riseB nameLt l
def tombsB (l : List Tb) : Bool := decide (l.length ≤ 64) && l.all tombB && riseB tombLt l
def goodB (m : Mks) : Bool := refsB m.refs && tombsB m.tombs && tokensB m.toks
theorem aheadB_trans (a b c : Tok) (h : aheadB a b = true) (k : aheadB b c = true) : aheadB a c = true := by
  unfold aheadB at *
  simp only [decide_eq_true_eq] at *
  omega
theorem tombLt_trans (a b c : Tb) (h : tombLt a b = true) (k : tombLt b c = true) : tombLt a c = true := aheadB_trans _ _ _ h k
theorem ltB_trans (a b c : Int) (h : ltB a b = true) (k : ltB b c = true) : ltB a c = true := by
  unfold ltB at *
  simp only [decide_eq_true_eq] at *
  omega
theorem nameLt_trans (a b c : Rf) (h : nameLt a b = true) (k : nameLt b c = true) : nameLt a c = true := by
  unfold nameLt at *
  simp only [decide_eq_true_eq] at *
  exact List.lt_trans h k
-- the bytes
def enRf (r : Rf) : ByteArray := enText r.name ++ r.id ++ enNum r.h
def enTok (x : Tok) : ByteArray := enNum x.node ++ enNum x.n ++ x.id
def enCov (x : Tok) : ByteArray := enNum x.node ++ enNum x.n
def enTb (t : Tb) : ByteArray := (enNum t.node ++ enNum t.n ++ t.id) ++ (enMany enCov t.cov ++ enMany enNum t.acks)
def enMk (m : Mks) : ByteArray := enMany enRf m.refs ++ enMany enTok m.toks ++ enMany enTb m.tombs
-- the readers
def rRf (s : RS) : Rf × RS := (⟨(rText 255 s).1, (rTake 32 (rText 255 s).2).1, (rNum (rTake 32 (rText 255 s).2).2).1⟩, (rNum (rTake 32 (rText 255 s).2).2).2)
def rTok (s : RS) : Tok × RS := (⟨(rNum s).1, (rNum (rNum s).2).1, (rTake 32 (rNum (rNum s).2).2).1⟩, (rTake 32 (rNum (rNum s).2).2).2)
def rCov (id : ByteArray) (s : RS) : Tok × RS := (⟨(rNum s).1, (rNum (rNum s).2).1, id⟩, (rNum (rNum s).2).2)
def rTb (s : RS) : Tb × RS :=
  (⟨(rTok s).1.node, (rTok s).1.n, (rTok s).1.id, (rMany (rCov (rTok s).1.id) 256 (rTok s).2).1, (rMany rNum 7 (rMany (rCov (rTok s).1.id) 256 (rTok s).2).2).1⟩, (rMany rNum 7 (rMany (rCov (rTok s).1.id) 256 (rTok s).2).2).2)
def rMk (s : RS) : Mks × RS :=
  (⟨(rMany rRf 64 s).1, (rMany rTok 256 (rMany rRf 64 s).2).1, (rMany rTb 64 (rMany rTok 256 (rMany rRf 64 s).2).2).1⟩, (rMany rTb 64 (rMany rTok 256 (rMany rRf 64 s).2).2).2)
def dec (s : ByteArray) : Option Mks := if (rMk (s, false)).2.2 = false ∧ (rMk (s, false)).2.1.size = 0 ∧ goodB (rMk (s, false)).1 = true then some (rMk (s, false)).1 else none
-- what can be read back
def okN (n : Int) : Prop := 0 ≤ n ∧ n < 4294967296
def okRf (r : Rf) : Prop := r.name.size ≤ 255 ∧ r.id.size = 32 ∧ okN r.h
def okTok (x : Tok) : Prop := okN x.node ∧ okN x.n ∧ x.id.size = 32
def okTb (t : Tb) : Prop := okTok (thingOf t) ∧ (t.cov.length ≤ 256 ∧ ∀ x ∈ t.cov, okN x.node ∧ okN x.n ∧ x.id = t.id) ∧ t.acks.length ≤ 7 ∧ ∀ n ∈ t.acks, okN n
def okMk (m : Mks) : Prop := (m.refs.length ≤ 64 ∧ ∀ x ∈ m.refs, okRf x) ∧ (m.toks.length ≤ 256 ∧ ∀ x ∈ m.toks, okTok x) ∧ m.tombs.length ≤ 64 ∧ ∀ x ∈ m.tombs, okTb x
theorem codec_n : Codec rNum enNum okN := codec_num
theorem codec_rf : Codec rRf enRf okRf :=
  ((codec_text 255 (by decide)).seq ((codec_take 32).seq codec_n)).map (fun p : ByteArray × ByteArray × Int => (⟨p.1, p.2.1, p.2.2⟩ : Rf)) (fun r : Rf => (r.name, r.id, r.h)) (fun s => rfl)
    (fun x hx => ⟨⟨hx.1, hx.2.1, hx.2.2⟩, by unfold enRf; rw [ByteArray.append_assoc]⟩) (fun r hr => ⟨⟨hr.1, hr.2.1, hr.2.2⟩, rfl⟩)
theorem codec_tok : Codec rTok enTok okTok :=
  (codec_n.seq (codec_n.seq (codec_take 32))).map (fun p : Int × Int × ByteArray => (⟨p.1, p.2.1, p.2.2⟩ : Tok)) (fun r : Tok => (r.node, r.n, r.id)) (fun s => rfl)
    (fun x hx => ⟨⟨hx.1, hx.2.1, hx.2.2⟩, by unfold enTok; rw [ByteArray.append_assoc]⟩) (fun r hr => ⟨⟨hr.1, hr.2.1, hr.2.2⟩, rfl⟩)
theorem codec_cov (id : ByteArray) : Codec (rCov id) enCov (fun x => okN x.node ∧ okN x.n ∧ x.id = id) :=
  (codec_n.seq codec_n).map (fun p : Int × Int => (⟨p.1, p.2, id⟩ : Tok)) (fun r : Tok => (r.node, r.n)) (fun s => rfl)
    (fun x hx => ⟨⟨hx.1, hx.2, rfl⟩, rfl⟩) (fun r hr => ⟨⟨hr.1, hr.2.1⟩, by rw [← hr.2.2]⟩)
theorem codec_tb : Codec rTb enTb okTb where
  back s hs := by
    unfold rTb at hs ⊢
    simp only at hs ⊢
    obtain ⟨h1, h2, h3⟩ := (codec_many codec_n 7 (by decide)).back _ hs
    obtain ⟨h4, h5, h6⟩ := (codec_many (codec_cov (rTok s).1.id) 256 (by decide)).back _ h1
    obtain ⟨h7, h8, h9⟩ := codec_tok.back _ h4
    refine ⟨h7, ⟨h8, h5, h2⟩, ?_⟩
    show s.1 = ((enTok (rTok s).1) ++ (enMany enCov _ ++ enMany enNum _)) ++ _
    have e : (rMany rNum (((7 : Nat)) : Int)) = rMany rNum 7 := rfl
    rw [ByteArray.append_assoc, ByteArray.append_assoc]
    refine h9.trans (congrArg (enTok (rTok s).1 ++ ·) ?_)
    refine h6.trans (congrArg (enMany enCov _ ++ ·) ?_)
    exact h3
  app t r ht := by
    obtain ⟨h1, h2, h3⟩ := ht
    have e1 : rTok (enTb t ++ r, false) = (thingOf t, (enMany enCov t.cov ++ (enMany enNum t.acks ++ r)), false) := by
      have := codec_tok.app (thingOf t) (enMany enCov t.cov ++ (enMany enNum t.acks ++ r)) h1
      rw [← this]
      unfold enTb enTok thingOf
      simp only [ByteArray.append_assoc]
    have e2 : rMany (rCov t.id) 256 ((enMany enCov t.cov ++ (enMany enNum t.acks ++ r)), false) = (t.cov, enMany enNum t.acks ++ r, false) := (codec_many (codec_cov t.id) 256 (by decide)).app _ _ h2
    have e3 : rMany rNum 7 (enMany enNum t.acks ++ r, false) = (t.acks, r, false) := (codec_many codec_n 7 (by decide)).app _ _ h3
    unfold rTb
    simp only [e1]
    show (Tb.mk t.node t.n t.id (rMany (rCov t.id) 256 _).1 _, _) = _
    have e4 : (thingOf t).id = t.id := rfl
    simp only [e4, e2, e3]
theorem codec_mk : Codec rMk enMk okMk :=
  ((codec_many codec_rf 64 (by decide)).seq ((codec_many codec_tok 256 (by decide)).seq (codec_many codec_tb 64 (by decide)))).map (fun p : List Rf × List Tok × List Tb => (⟨p.1, p.2.1, p.2.2⟩ : Mks)) (fun r : Mks => (r.refs, r.toks, r.tombs)) (fun s => rfl)
    (fun x hx => ⟨⟨hx.1, hx.2.1, hx.2.2⟩, by unfold enMk; rw [ByteArray.append_assoc]⟩) (fun r hr => ⟨⟨hr.1, hr.2.1, hr.2.2⟩, rfl⟩)
theorem ok_tok {x : Tok} (h : thingB x = true) : okTok x := by
  unfold thingB at h
  simp only [decide_eq_true_eq] at h
  exact ⟨⟨by omega, by omega⟩, ⟨by omega, by omega⟩, h.2.2.2.2⟩
theorem tokensB_at {l : List Tok} (h : tokensB l = true) : l.length ≤ 256 ∧ (∀ x ∈ l, thingB x = true) ∧ riseB aheadB l = true := by
  unfold tokensB at h
  simp only [Bool.and_eq_true, decide_eq_true_eq, List.all_eq_true] at h
  exact ⟨h.1.1, h.1.2, h.2⟩
theorem tombB_at {t : Tb} (h : tombB t = true) : thingB (thingOf t) = true ∧ tokensB t.cov = true ∧ (∀ x ∈ t.cov, x.id = t.id) ∧ (∀ n ∈ t.acks, 1 ≤ n ∧ n ≤ 7) ∧ riseB ltB t.acks = true := by
  unfold tombB at h
  simp only [Bool.and_eq_true, List.all_eq_true] at h
  refine ⟨h.1.1.1.1, h.1.1.1.2, fun x hx => ?_, fun n hn => ?_, h.2⟩
  · have := h.1.1.2 x hx
    unfold sameId at this
    rw [beq_iff_eq, ByteArray.toList_eq, ByteArray.toList_eq] at this
    apply ByteArray.ext
    apply Array.ext'
    exact this
  · have := h.1.2 n hn
    unfold isNodeB at this
    simpa using this
/-- Rising numbers from 1 to 7 are seven at most. -/
theorem acks_few : ∀ (l : List Int) (k : Int), k ≤ 7 → (∀ n ∈ l, k < n ∧ n ≤ 7) → l.Pairwise (fun a b => ltB a b = true) → (l.length : Int) ≤ 7 - k
  | [], k, hk, _, _ => by simp; omega
  | a :: l, k, hk, h, hp => by
    obtain ⟨h1, h2⟩ := List.pairwise_cons.1 hp
    have ha := h a (by simp)
    have := acks_few l a ha.2 (fun n hn => ⟨by have := h1 n hn; unfold ltB at this; simpa using this, (h n (by simp [hn])).2⟩) h2
    simp only [List.length_cons]
    omega
theorem ok_tb {t : Tb} (h : tombB t = true) : okTb t := by
  obtain ⟨h1, h2, h3, h4, h5⟩ := tombB_at h
  obtain ⟨h6, h7, _⟩ := tokensB_at h2
  refine ⟨ok_tok h1, ⟨h6, fun x hx => ⟨(ok_tok (h7 x hx)).1, (ok_tok (h7 x hx)).2.1, h3 x hx⟩⟩, ?_, fun n hn => ⟨by have := h4 n hn; omega, by have := h4 n hn; omega⟩⟩
  have := acks_few t.acks 0 (by omega) (fun n hn => by have := h4 n hn; omega) ((riseB_pairwise ltB_trans).1 h5)
  omega
theorem ok_rf {r : Rf} (h : refB r = true) : okRf r := by
  unfold refB at h
  simp only [Bool.and_eq_true, decide_eq_true_eq] at h
  have hn := h.1
  unfold nameOk at hn
  simp only [Bool.and_eq_true, decide_eq_true_eq] at hn
  exact ⟨by omega, h.2.1, by omega, by omega⟩
theorem goodB_at {m : Mks} (h : goodB m = true) : (m.refs.length ≤ 64 ∧ (∀ x ∈ m.refs, refB x = true) ∧ riseB nameLt m.refs = true) ∧ (m.tombs.length ≤ 64 ∧ (∀ x ∈ m.tombs, tombB x = true) ∧ riseB tombLt m.tombs = true) ∧ tokensB m.toks = true := by
  unfold goodB refsB tombsB at h
  simp only [Bool.and_eq_true, decide_eq_true_eq, List.all_eq_true] at h
  exact ⟨⟨h.1.1.1.1, h.1.1.1.2, h.1.1.2⟩, ⟨h.1.2.1.1, h.1.2.1.2, h.1.2.2⟩, h.2⟩
theorem ok_mk {m : Mks} (h : goodB m = true) : okMk m := by
  obtain ⟨⟨a, b, _⟩, ⟨c, d, _⟩, e⟩ := goodB_at h
  obtain ⟨f, g, _⟩ := tokensB_at e
  exact ⟨⟨a, fun x hx => ok_rf (b x hx)⟩, ⟨f, fun x hx => ok_tok (g x hx)⟩, c, fun x hx => ok_tb (d x hx)⟩
theorem dec_some {s : ByteArray} {m : Mks} (h : dec s = some m) : goodB m = true ∧ enMk m = s := by
  unfold dec at h
  split at h
  · next hc =>
    injection h with h
    subst h
    obtain ⟨_, _, h3⟩ := codec_mk.back _ hc.1
    refine ⟨hc.2.2, ?_⟩
    have h4 : (rMk (s, false)).2.1 = ⟨#[]⟩ := by
      have := hc.2.1
      apply ByteArray.ext
      apply Array.ext'
      have h5 : (rMk (s, false)).2.1.data.toList.length = 0 := this
      exact List.length_eq_zero_iff.1 h5
    rw [h4, app_nil] at h3
    exact h3.symm
  · cases h
theorem dec_enc {m : Mks} (h : goodB m = true) : dec (enMk m) = some m := by
  have := codec_mk.app m ⟨#[]⟩ (ok_mk h)
  rw [app_nil] at this
  unfold dec
  rw [this]
  exact if_pos ⟨rfl, rfl, h⟩
theorem enc_inj {m m' : Mks} (h : goodB m = true) (h' : goodB m' = true) (e : enMk m = enMk m') : m = m' := by
  have := dec_enc h
  rw [e, dec_enc h'] at this
  injection this with this
  exact this.symm
theorem dec_more {m : Mks} (h : goodB m = true) {q : ByteArray} (hq : 0 < q.size) : dec (enMk m ++ q) = none := by
  have := codec_mk.app m q (ok_mk h)
  unfold dec
  rw [this]
  exact if_neg fun hc => by have := hc.2.1; simp only at this; omega
theorem dec_cut {m : Mks} (h : goodB m = true) {p q : ByteArray} (hq : 0 < q.size) (e : enMk m = p ++ q) : dec p = none := by
  cases hd : dec p with
  | none => rfl
  | some m' =>
    obtain ⟨h1, h2⟩ := dec_some hd
    have := dec_more h1 hq
    rw [h2, ← e, dec_enc h] at this
    cases this
end Go.Proofs.YtljenganlknhbaaGreat.Mk

/- Marks as they lie in memory; what a function value tells of things. No program is walked. (Layer 12.) -/
namespace Go.Proofs.YtljenganlknhbaaGreat.Mk
set_option linter.unusedVariables false
open Go.RowKit
def vTok (x : Tok) : List Value := [.int .i64 x.node, .int .i64 x.n, .string x.id]
def vRf (x : Rf) : List Value := [.string x.name, .string x.id, .int .i64 x.h]
def vInt (n : Int) : List Value := [.int .i64 n]
/-- A tomb as it lies. -/
structure TbR where
  t : Tb
  cv : Value
  av : Value
def vTb (x : TbR) : List Value := [.int .i64 x.t.node, .int .i64 x.t.n, .string x.t.id, x.cv, x.av]
def aTok (x : Tok) : Value := .agg #[.int .i64 x.node, .int .i64 x.n, .string x.id]
def aRf (x : Rf) : Value := .agg #[.string x.name, .string x.id, .int .i64 x.h]
def aInt (n : Int) : Value := .int .i64 n
def aTb (x : TbR) : Value := .agg #[.int .i64 x.t.node, .int .i64 x.t.n, .string x.t.id, x.cv, x.av]
/-- The lists that a tomb holds, short enough and readable. -/
def TbR.Reads (w : World) (x : TbR) : Prop := RowAt 3 vTok w x.cv x.t.cov ∧ RowAt 1 vInt w x.av x.t.acks
theorem TbR.Reads.later {w w' : World} {x : TbR} (h : x.Reads w) (hb : Below w.heap.size w w') : x.Reads w' := ⟨h.1.later hb, h.2.later hb⟩
/-- A row of tombs, with all that they hold. -/
def TombsAt (w : World) (v : Value) (zs : List TbR) : Prop := RowAt 5 vTb w v zs ∧ ∀ z ∈ zs, z.Reads w
theorem TombsAt.later {w w' : World} {v : Value} {zs : List TbR} (h : TombsAt w v zs) (hb : Below w.heap.size w w') : TombsAt w' v zs := ⟨h.1.later hb, fun z hz => (h.2 z hz).later hb⟩
/-- What marks are, as they lie. -/
structure MkR where
  refs : List Rf
  toks : List Tok
  tombs : List TbR
  rv : Value
  kv : Value
  bv : Value
def MkR.mk_ (m : MkR) : Mks := ⟨m.refs, m.toks, m.tombs.map (·.t)⟩
def aMk (m : MkR) : Value := .agg #[m.rv, m.kv, m.bv]
def MkR.Reads (w : World) (m : MkR) : Prop := RowAt 3 vRf w m.rv m.refs ∧ RowAt 3 vTok w m.kv m.toks ∧ TombsAt w m.bv m.tombs
theorem MkR.Reads.later {w w' : World} {m : MkR} (h : m.Reads w) (hb : Below w.heap.size w w') : m.Reads w' := ⟨h.1.later hb, h.2.1.later hb, h.2.2.later hb⟩
def fnv (g : Nat) (lb : Array Value) : Value := .func (.func g) #[] lb
/-- A function value, called with one of these things in a later world, tells p of it; it may lay blocks. -/
def Tells {α : Type} (g : Nat) (lb : Array Value) (enc : α → Value) (p : α → Bool) (l : List α) (w : World) : Prop :=
  (∀ args w, (callFunc g args).run Tryz.prog w = .ok (.enter g args) w) ∧ ∀ x ∈ l, ∀ W, Below w.heap.size w W → Calls Tryz.prog g (#[enc x] ++ lb) W fun e w' => e = .returned (.bool (p x)) ∧ Below W.heap.size W w'
theorem Tells.later {α : Type} {g : Nat} {lb : Array Value} {enc : α → Value} {p : α → Bool} {l : List α} {w w' : World} (h : Tells g lb enc p l w) (hb : Below w.heap.size w w') : Tells g lb enc p l w' :=
  ⟨h.1, fun x hx W hW => h.2 x hx W (hb.trans (hW.mono hb.size))⟩
/-- The same, of two of them. -/
def Tells2 {α : Type} (g : Nat) (lb : Array Value) (enc : α → Value) (p : α → α → Bool) (l : List α) (w : World) : Prop :=
  (∀ args w, (callFunc g args).run Tryz.prog w = .ok (.enter g args) w) ∧ ∀ x ∈ l, ∀ y ∈ l, ∀ W, Below w.heap.size w W → Calls Tryz.prog g (#[enc x, enc y] ++ lb) W fun e w' => e = .returned (.bool (p x y)) ∧ Below W.heap.size W w'
/-- Where the first of them stands. -/
def idxOf {α : Type} (p : α → Bool) (l : List α) : Int := match l.findIdx? p with
  | some i => (i : Int)
  | none => -1
theorem idxOf_none {α : Type} {p : α → Bool} {l : List α} (h : ∀ x ∈ l, p x = false) : idxOf p l = -1 := by
  unfold idxOf
  rw [List.findIdx?_eq_none_iff.2 (fun x hx => by simpa using h x hx)]
theorem idxOf_some {α : Type} {p : α → Bool} {l : List α} {k : Nat} (hk : k < l.length) (h : ∀ x ∈ l.take k, p x = false) (hp : p l[k] = true) : idxOf p l = (k : Int) := by
  unfold idxOf
  rw [show l.findIdx? p = some k from List.findIdx?_eq_some_iff_getElem.2 ⟨hk, hp, fun j hj => by
    have := h l[j] (List.mem_take_iff_getElem.2 ⟨j, by omega, rfl⟩)
    simp [this]⟩]
theorem idxOf_any {α : Type} (p : α → Bool) (l : List α) : decide ((0 : Int) ≤ idxOf p l) = l.any p := by
  unfold idxOf
  cases h : l.findIdx? p with
  | none =>
    have := List.findIdx?_eq_none_iff.1 h
    rw [show l.any p = false from by rw [List.any_eq_false]; intro x hx; simpa using this x hx]
    rfl
  | some i =>
    obtain ⟨hi, hp, _⟩ := List.findIdx?_eq_some_iff_getElem.1 h
    rw [show l.any p = true from List.any_eq_true.2 ⟨l[i], List.getElem_mem hi, hp⟩]
    simp
theorem take_snoc' {α : Type} {l : List α} {k : Nat} (h : k < l.length) : l.take (k + 1) = l.take k ++ [l[k]] := List.take_succ_eq_append_getElem h
end Go.Proofs.YtljenganlknhbaaGreat.Mk

