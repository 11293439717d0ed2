/- A range over a function: what an iterator promises (IterOf), and the law of the statement over it. Nothing is asked of the program. -/
import Derived.RangeFuncFrom
import Derived.RangeFuncLeaves
import Derived.RangeFuncRecord
import Derived.RangeFuncBound
import Derived.RangeFuncCalls
import Derived.CallsIn
namespace Go.Proofs.YtjkhmjklmclpoaaGreat
open Go.RowKit
/-- Blocks from B0 on, below B, lie as they lay. -/
def KeepsMid (B0 B : Nat) (W W' : World) : Prop := W.heap.size ≤ W'.heap.size ∧ ∀ k, B0 ≤ k → k < B → W'.heap[k]? = W.heap[k]?
theorem KeepsMid.refl (B0 B : Nat) (W : World) : KeepsMid B0 B W W := ⟨Nat.le_refl _, fun _ _ _ => rfl⟩
theorem KeepsMid.trans {B0 B : Nat} {X Y Z : World} (h : KeepsMid B0 B X Y) (k : KeepsMid B0 B Y Z) : KeepsMid B0 B X Z :=
  ⟨Nat.le_trans h.1 k.1, fun i h1 h2 => (k.2 i h1 h2).trans (h.2 i h1 h2)⟩
theorem KeepsMid.mono {B0 B B0' B' : Nat} {X Y : World} (h : KeepsMid B0 B X Y) (h0 : B0 ≤ B0') (h1 : B' ≤ B) : KeepsMid B0' B' X Y :=
  ⟨h.1, fun i a b => h.2 i (Nat.le_trans h0 a) (Nat.lt_of_lt_of_le b h1)⟩
theorem KeepsMid.grown {B0 B : Nat} {X Y : World} {row : Option Nat} (h : X.grownBy Y row) (hB : B ≤ X.heap.size) (hr : ∀ r, row = some r → r < B0 ∨ B ≤ r) : KeepsMid B0 B X Y :=
  ⟨h.size, fun k a b => h.block k (Nat.lt_of_lt_of_le b hB) (fun e => by have := hr k e.symm; omega)⟩
theorem KeepsMid.below {B0 B : Nat} {X Y : World} (h : Below X.heap.size X Y) (hB : B ≤ X.heap.size) : KeepsMid B0 B X Y := ⟨h.size, fun k _ b => h.block k (Nat.lt_of_lt_of_le b hB)⟩
theorem KeepsMid.putObj {B0 B l : Nat} (W : World) (o : Obj) (h : l < B0 ∨ B ≤ l) : KeepsMid B0 B W (W.putObj l o) :=
  ⟨by simp, fun k a b => World.putObj_heap_other (by omega)⟩
theorem KeepsMid.setCell {B0 B : Nat} {X Y : World} (h : KeepsMid B0 B X Y) {p : Addr} (hp : p.block < B0 ∨ B ≤ p.block) (v : Value) : KeepsMid B0 B X (Y.setCell p v) :=
  h.trans ⟨by simp, fun k a b => Below.heap_setCell Y p v k (by omega)⟩
theorem KeepsMid.cell {B0 B : Nat} {X Y : World} (h : KeepsMid B0 B X Y) {k o : Nat} (h0 : B0 ≤ k) (h1 : k < B) : Y.cell? ⟨k, o, none⟩ = X.cell? ⟨k, o, none⟩ := by
  unfold World.cell?
  simp only [h.2 k h0 h1]
theorem grown_trans {X Y Z : World} (h : X.grownBy Y none) (k : Y.grownBy Z none) : X.grownBy Z none :=
  ⟨k.os.trans h.os, k.tape.trans h.tape, k.output.trans h.output, Nat.le_trans h.size k.size, fun i hi hne => (k.block i (Nat.lt_of_lt_of_le hi h.size) (by simp)).trans (h.block i hi hne)⟩
theorem grown_refl (X : World) : X.grownBy X none := ⟨rfl, rfl, rfl, Nat.le_refl _, fun _ _ _ => rfl⟩
theorem grown_of_below {X Y : World} (h : Below X.heap.size X Y) : X.grownBy Y none := ⟨h.os, h.tape, h.output, h.size, fun k hk _ => h.block k hk⟩
theorem below_of_grown {X Y : World} (h : X.grownBy Y none) : Below X.heap.size X Y := ⟨h.os, h.tape, h.output, h.size, fun k hk => h.block k hk (by simp)⟩
/-- WHAT AN ITERATOR PROMISES: called with the yield of whatever loop, in whatever later world, it hands over just xs, one by one, unless it is stopped. B: where the caller's own new blocks begin, once the first has come. -/
def IterOf {α : Type} (P : Program) (g : Nat) (lb : Array Value) (encs : α → Array Value) (xs : List α) (w : World) : Prop :=
  ∀ (n l : Nat) (J : Nat → List α → World → Prop) (Jx : List α → World → Prop) (W : World), Below w.heap.size w W →
    (∀ B, OwnFrom W.heap.size (J B)) → OwnFrom W.heap.size Jx → (∀ W2, W.grownBy W2 none → J W2.heap.size [] W2) →
    (∀ B pre x W1, W.heap.size ≤ B → B ≤ W1.heap.size → J B pre W1 → pre ++ [x] <+: xs → YieldAt Fence.wide (n - 1) P l (encs x) W1 fun e W' =>
      (e = .returned (.bool true) ∧ J B (pre ++ [x]) W' ∧ KeepsMid W.heap.size B W1 W') ∨ (e = .returned (.bool false) ∧ Jx (pre ++ [x]) W' ∧ KeepsMid W.heap.size B W1 W')) →
    CallsIn Fence.wide n P g (#[.func (.yield l) #[] #[]] ++ lb) W fun e W' => (∃ v, e = .returned v) ∧ ((∃ B, W.heap.size ≤ B ∧ J B xs W') ∨ (∃ pre, pre <+: xs ∧ Jx pre W'))
theorem IterOf.later {α : Type} {P : Program} {g : Nat} {lb : Array Value} {encs : α → Array Value} {xs : List α} {w w' : World} (h : IterOf P g lb encs xs w) (hb : Below w.heap.size w w') : IterOf P g lb encs xs w' :=
  fun n l J Jx W hW => h n l J Jx W (hb.trans (hW.mono hb.size))
theorem roundIn_wide {n m : Nat} {P : Program} {l l' : Nat} {f : FuncId} {tmps : Array Value} {assign body : Code} {w : World} {R : Ending → World → Prop} (h : RoundIn Fence.wide n P l f tmps assign body w R) : RoundIn (Fence.wide.inRound l') m P l f tmps assign body w R :=
  ⟨trivial, fun c cs _ => h.2 c cs (room_wide _)⟩
/-- How a round's body may be left. -/
def iterPost {α : Type} (B0 B : Nat) (I : Nat → List α → World → Prop) (Ix : Code → List α → World → Prop) (xs : List α) (W : World) : Exit → Act → World → Prop
  | .normal, _, W' => KeepsMid B0 B W W' ∧ I B xs W'
  | .ret, _, W' => KeepsMid B0 B W W' ∧ Ix .ret xs W'
  | .exit id, _, W' => KeepsMid B0 B W W' ∧ Ix (.exit id) xs W'
  | .goto t, _, W' => KeepsMid B0 B W W' ∧ Ix (.goto t) xs W'
  | .panic _, _, _ => False
  | .outgrown, _, _ => False
/-- THE STATEMENT. Ax: behind the assignment to the loop's left sides. -/
theorem wp_iter {α : Type} {P : Program} {n : Nat} {g : Operand} {ps : Array Tmp} {assign body : Code} {Q : Exit → Act → World → Prop} {a : Act} {w : World} {gf : Nat} {lb : Array Value}
    (hg : a.eval g = .func (.func gf) #[] lb) (eg : ∀ args w, (callFunc gf args).run P w = .ok (.enter gf args) w)
    {encs : α → Array Value} {xs : List α} {w0 : World} (hit : IterOf P gf lb encs xs w0) (hb0 : Below w0.heap.size w0 w) (hps : ∀ x, (encs x).size = ps.size)
    (I : Nat → List α → World → Prop) (Ix : Code → List α → World → Prop) (Ax : Nat → List α → α → Act → World → Prop)
    (hI : ∀ B, OwnFrom w.heap.size (I B)) (hIx : ∀ c, OwnFrom w.heap.size (Ix c)) (hAx : ∀ B pre x a', OwnFrom w.heap.size (fun (_ : Unit) W => Ax B pre x a' W))
    (h0 : ∀ W2, w.grownBy W2 none → I W2.heap.size [] W2)
    (hassign : ∀ (l B : Nat) (pre : List α) (x : α) (W : World), w.heap.size ≤ B → B ≤ W.heap.size → I B pre W → pre ++ [x] <+: xs →
      assign.wpIn (Fence.wide.inRound l) (n - 1 - 1) P (Exit.then (fun a' W' => KeepsMid w.heap.size B W W' ∧ Ax B pre x a' W') (fun _ _ _ => False)) { tmps := (ps.zip (encs x)).foldl (fun t (p, v) => t.setIfInBounds p v) a.tmps, defers := [] } W)
    (hbody : ∀ (l B : Nat) (pre : List α) (x : α) (a' : Act) (W : World), w.heap.size ≤ B → B ≤ W.heap.size → Ax B pre x a' W → pre ++ [x] <+: xs → body.wpIn (Fence.wide.inRound l) (n - 1 - 1) P (iterPost w.heap.size B I Ix (pre ++ [x]) W) a' W)
    (hdone : ∀ (D B : Nat) (W : World), w.heap.size ≤ D → w.heap.size ≤ B → I B xs W → W.heap[D]? = some (.deferred (some [])) → Q .normal { a with defers := { target := .collected D, args := #[] } :: a.defers } W)
    (hstop : ∀ (D : Nat) (c : Code) (pre : List α) (W : World), w.heap.size ≤ D → pre <+: xs → Ix c pre W → W.heap[D]? = some (.deferred (some [])) → c.wpIn Fence.wide n P Q { a with defers := { target := .collected D, args := #[] } :: a.defers } W) :
    (Code.rangeFunc g ps assign body).wpIn Fence.wide n P Q a w := by
  refine wpIn_rangeFunc ?_
  intro fn hfn
  show ∃ (l : Nat) (mark : List Deferred) (w₁ : World) (d : Deferred) (w₁' : World) (f : FuncId) (args : Array Value) (w₂ : World), (Instr.enterLoop fn a.tmps ps assign body none).run P w = .ok (l, mark) w₁ ∧ _
  obtain ⟨rec, hrec⟩ : ∃ rec : LoopState → Option Code → Loop, rec = fun st pe => { state := st, pending := pe, fn, tmps := a.tmps, params := ps, assign, body, defers := w.heap.size } := ⟨_, rfl⟩
  obtain ⟨W1, hW1⟩ : ∃ W1, (w.alloc (.deferred (some []))).alloc (.loop (rec .ready none)) = W1 := ⟨_, rfl⟩
  have hz1 : W1.heap.size = w.heap.size + 2 := by rw [← hW1]; simp
  have hL1 : W1.heap[w.heap.size + 1]? = some (.loop (rec .ready none)) := by
    rw [← hW1]; have := World.alloc_heap_new (w.alloc (.deferred (some []))) (.loop (rec .ready none)); rwa [World.size_alloc] at this
  have hK1 : W1.heap[w.heap.size]? = some (.deferred (some [])) := by
    rw [← hW1]; exact (Below.heap_alloc _ _ _ (by simp)).trans (World.alloc_heap_new w _)
  have hb1 : Below w.heap.size w W1 := by rw [← hW1]; exact ((Below.refl _ w).alloc (Nat.le_refl _) _).alloc (by simp) _
  refine ⟨w.heap.size + 1, [{ target := .collected w.heap.size, args := #[] }], W1, { target := .fn (.func gf) lb, args := #[.func (.yield (w.heap.size + 1)) #[] #[]] }, W1, gf,
    #[.func (.yield (w.heap.size + 1)) #[] #[]] ++ lb, W1, ?_, ?_, ?_, ?_, fun h => by simp [Fence.wide] at h, ?_⟩
  · rw [← hW1, hrec]; exact run_enterLoop_outer _ _ _ _ _
  · simp only [resolve, hg]
    simp [go_sem]
  · intro f' _; trivial
  · simp [invoke, go_sem, eg]
  have keep : ∀ {A B : World} {row : Option Nat} {o : Obj} {k : Nat}, A.grownBy B row → (∀ r, row = some r → W1.heap.size ≤ r ∧ ∃ o : Obj, A.heap[r]? = some o ∧ o.isCells = false) → k < w.heap.size + 2 → A.heap[k]? = some o → B.heap[k]? = some o :=
    fun hg' hr hk ho => (hg'.block _ (Array.getElem?_eq_some_iff.1 ho).1 (fun e => by have := (hr _ e.symm).1; omega)).trans ho
  have wide : ∀ {A : World} {row : Option Nat}, (∀ r, row = some r → W1.heap.size ≤ r ∧ ∃ o : Obj, A.heap[r]? = some o ∧ o.isCells = false) → (∀ r, row = some r → w.heap.size ≤ r ∧ ∃ o : Obj, A.heap[r]? = some o ∧ o.isCells = false) :=
    fun hr r e => ⟨by have := (hr r e).1; omega, (hr r e).2⟩
  refine (hit (n - 1) (w.heap.size + 1)
    (fun B pre W => I B pre W ∧ W.heap[w.heap.size + 1]? = some (.loop (rec .ready none)) ∧ W.heap[w.heap.size]? = some (.deferred (some [])))
    (fun pre W => ∃ c, Ix c pre W ∧ W.heap[w.heap.size + 1]? = some (.loop (rec .done (some c))) ∧ W.heap[w.heap.size]? = some (.deferred (some [])))
    W1 (hb0.trans (hb1.mono hb0.size))
    (fun B s X Y row hs hg' hr => ⟨hI B s X Y row hs.1 hg' (wide hr), keep hg' hr (by omega) hs.2.1, keep hg' hr (by omega) hs.2.2⟩)
    (fun s X Y row hs hg' hr => by
      obtain ⟨c, hc, hl, hk⟩ := hs
      exact ⟨c, hIx c s X Y row hc hg' (wide hr), keep hg' hr (by omega) hl, keep hg' hr (by omega) hk⟩)
    (fun W2 hg2 => ⟨h0 W2 (grown_trans (grown_of_below hb1) hg2), keep hg2 (fun r e => by cases e) (by omega) hL1, keep hg2 (fun r e => by cases e) (by omega) hK1⟩)
    ?_).mono ?_
  · rintro B pre x W hB1 hB2 ⟨hi, hl, hk⟩ hpre
    have hy := run_yield (P := P) (args := encs x) hl (by rw [hrec]; exact hps x)
    rw [hrec] at hy
    refine ⟨fn, _, assign, body, hy, roundIn_of_wpIn (F := Fence.wide) trivial (wpIn_mono (hassign _ B pre x W (by omega) hB2 hi hpre) ?_)⟩
    rintro e a' W' hp
    cases e with
    | normal =>
      obtain ⟨hk2, hax⟩ := hp
      have hl' : W'.heap[w.heap.size + 1]? = some (.loop (rec .ready none)) := (hk2.2 _ (by omega) (by omega)).trans hl
      have hd' : W'.heap[w.heap.size]? = some (.deferred (some [])) := (hk2.2 _ (by omega) (by omega)).trans hk
      have hlt : w.heap.size + 1 < W'.heap.size := (Array.getElem?_eq_some_iff.1 hl').1
      refine ⟨_, run_beginRound hl' (by rw [hrec]), ?_⟩
      have hl2 : (W'.putObj (w.heap.size + 1) (.loop { rec .ready none with state := .busy })).heap[w.heap.size + 1]? = some (.loop { rec .ready none with state := .busy }) := World.putObj_heap_same hlt
      have hd2 : (W'.putObj (w.heap.size + 1) (.loop { rec .ready none with state := .busy })).heap[w.heap.size]? = some (.deferred (some [])) := (World.putObj_heap_other (by omega)).trans hd'
      have hz2 : B ≤ (W'.putObj (w.heap.size + 1) (.loop { rec .ready none with state := .busy })).heap.size := by simp; exact Nat.le_trans hB2 hk2.1
      have km2 : KeepsMid W1.heap.size B W (W'.putObj (w.heap.size + 1) (.loop { rec .ready none with state := .busy })) := (hk2.mono (by omega) (Nat.le_refl _)).trans (KeepsMid.putObj _ _ (Or.inl (by omega)))
      refine wpIn_mono (hbody _ B pre x a' _ (by omega) hz2 ((hAx B pre x a').putObj (s := ()) _ hax (by omega) hl' rfl) hpre) ?_
      have fin : ∀ (jump : Option Code) (W3 : World), KeepsMid w.heap.size B (W'.putObj (w.heap.size + 1) (.loop { rec .ready none with state := .busy })) W3 →
          (Instr.endRound (w.heap.size + 1) jump).run P W3 = .ok (.bool jump.isNone) (W3.putObj (w.heap.size + 1) (.loop (rec (if jump.isNone then .ready else .done) jump))) ∧
          W3.heap[w.heap.size + 1]? = some (.loop { rec .ready none with state := .busy }) ∧
          (W3.putObj (w.heap.size + 1) (.loop (rec (if jump.isNone then .ready else .done) jump))).heap[w.heap.size + 1]? = some (.loop (rec (if jump.isNone then .ready else .done) jump)) ∧
          (W3.putObj (w.heap.size + 1) (.loop (rec (if jump.isNone then .ready else .done) jump))).heap[w.heap.size]? = some (.deferred (some [])) := fun jump W3 hk3 => by
        have hl3 : W3.heap[w.heap.size + 1]? = some (.loop { rec .ready none with state := .busy }) := (hk3.2 _ (by omega) (by omega)).trans hl2
        have := run_endRound (P := P) jump hl3
        rw [hrec] at this ⊢
        exact ⟨this, by rw [hrec] at hl3; exact hl3, World.putObj_heap_same (Array.getElem?_eq_some_iff.1 hl3).1, (World.putObj_heap_other (by omega)).trans ((hk3.2 _ (by omega) (by omega)).trans hd2)⟩
      rintro e a3 W3 hp
      cases e with
      | normal =>
        obtain ⟨hk3, hi3⟩ := hp
        obtain ⟨hr, hl3, hl4, hk4⟩ := fin none W3 hk3
        exact ⟨_, _, hr, .inl ⟨rfl, ⟨(hI B).putObj _ hi3 (by omega) hl3 rfl, hl4, hk4⟩, (km2.trans (hk3.mono (by omega) (Nat.le_refl _))).trans (KeepsMid.putObj _ _ (Or.inl (by omega)))⟩⟩
      | ret =>
        obtain ⟨hk3, hi3⟩ := hp
        obtain ⟨hr, hl3, hl4, hk4⟩ := fin (some .ret) W3 hk3
        exact ⟨_, _, hr, .inr ⟨rfl, ⟨.ret, (hIx _).putObj _ hi3 (by omega) hl3 rfl, hl4, hk4⟩, (km2.trans (hk3.mono (by omega) (Nat.le_refl _))).trans (KeepsMid.putObj _ _ (Or.inl (by omega)))⟩⟩
      | exit id =>
        obtain ⟨hk3, hi3⟩ := hp
        obtain ⟨hr, hl3, hl4, hk4⟩ := fin (some (.exit id)) W3 hk3
        exact ⟨_, _, hr, .inr ⟨rfl, ⟨.exit id, (hIx _).putObj _ hi3 (by omega) hl3 rfl, hl4, hk4⟩, (km2.trans (hk3.mono (by omega) (Nat.le_refl _))).trans (KeepsMid.putObj _ _ (Or.inl (by omega)))⟩⟩
      | goto t =>
        obtain ⟨hk3, hi3⟩ := hp
        obtain ⟨hr, hl3, hl4, hk4⟩ := fin (some (.goto t)) W3 hk3
        exact ⟨_, _, hr, .inr ⟨rfl, ⟨.goto t, (hIx _).putObj _ hi3 (by omega) hl3 rfl, hl4, hk4⟩, (km2.trans (hk3.mono (by omega) (Nat.le_refl _))).trans (KeepsMid.putObj _ _ (Or.inl (by omega)))⟩⟩
      | panic ch => exact hp.elim
      | outgrown => exact hp.elim
    | ret => exact hp.elim
    | exit id => exact hp.elim
    | goto t => exact hp.elim
    | panic ch => exact hp.elim
    | outgrown => exact hp.elim
  · rintro e W2 ⟨⟨v, rfl⟩, ⟨B, hB, hi, hl, hk⟩ | ⟨pre, hp, c, hi, hl, hk⟩⟩
    · exact ⟨none, _, by have := run_endLoop (P := P) hl (by rw [hrec]; simp); rw [hrec] at this; exact this, hdone _ B _ (Nat.le_refl _) (by omega) ((hI B).putObj _ hi (by omega) hl rfl) ((World.putObj_heap_other (by omega)).trans hk)⟩
    · exact ⟨some c, _, by have := run_endLoop (P := P) hl (by rw [hrec]; simp); rw [hrec] at this; exact this, hstop _ c pre _ (Nat.le_refl _) hp ((hIx c).putObj _ hi (by omega) hl rfl) ((World.putObj_heap_other (by omega)).trans hk)⟩
end Go.Proofs.YtjkhmjklmclpoaaGreat
