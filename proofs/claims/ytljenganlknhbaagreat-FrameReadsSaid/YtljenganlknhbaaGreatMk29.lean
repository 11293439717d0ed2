/- The reference's Reader kept by stores elsewhere; its count, walked. (Layer 12.) -/
import Derived.Test.YtljenganlknhbaaGreatPkY
import Derived.Test.YtljenganlknhbaaGreatPkB
import Derived.Test.YtljenganlknhbaaGreatPkA
namespace Go.Proofs.YtljenganlknhbaaGreat.Oct
set_option linter.unusedVariables false
open Go.RowKit
theorem RRd.alloc {w : World} {g : Nat} {r : ByteArray} {b : Bool} (h : RRd w g r b) (o : Go.Obj) : RRd (w.alloc o) g r b := by
  obtain ⟨S, a, h, h1⟩ := h
  exact ⟨S, a, h.alloc o, h1⟩
theorem RRd.far {w : World} {g : Nat} {r : ByteArray} {b : Bool} (h : RRd w g r b) {p : Addr} (hp : g ≠ p.block) (u : Value) : RRd (w.setCell p u) g r b := by
  obtain ⟨S, a, h, h1⟩ := h
  exact ⟨S, a, h.far hp u, h1⟩
theorem RRd.grown {w w' : World} {row : Option Nat} {g : Nat} {r : ByteArray} {b : Bool} (h : RRd w g r b) (hb : w.grownBy w' row) (hg : some g ≠ row) : RRd w' g r b := by
  obtain ⟨S, a, h, h1⟩ := h
  exact ⟨S, a, h.grown hb hg, h1⟩
theorem RRd.flag {w : World} {g : Nat} {r : ByteArray} {b : Bool} (h : RRd w g r b) : w.cell? ⟨g, 2, none⟩ = some (.bool b) ∧ w.frozen? ⟨g, 2, none⟩ = false := by
  obtain ⟨S, a, h, h1⟩ := h
  exact ⟨h.cell 2, h.free 2⟩
theorem RRd.spoilt {w : World} {g : Nat} {r : ByteArray} {b : Bool} (h : RRd w g r b) : RRd (w.setCell ⟨g, 2, none⟩ (.bool true)) g ⟨#[]⟩ true := by
  obtain ⟨S, a, h, h1, h2, -⟩ := h
  refine ⟨S, a, ?_, h1, h2, rfl⟩
  have := h.put 2 (.bool true)
  simpa using this
end Go.Proofs.YtljenganlknhbaaGreat.Oct
namespace Go.Proofs.YtljenganlknhbaaGreat
open Go.RowKit
/-- Rows of unlike things lie in unlike blocks. -/
theorem SlIs.ne_sl {w : World} {base base' : Nat} {e e' : TypeId} {size size' : Nat} {v v' : Value} {n n' : Nat} {xs xs' : List Value} (h : SlIs w base e size v n xs) (h' : SlIs w base' e' size' v' n' xs') (hne : e ≠ e') (k : Nat) (hk : v.ownBlock = some k) : v'.ownBlock ≠ some k := by
  intro hk'
  obtain ⟨-, h⟩ := h
  obtain ⟨-, h'⟩ := h'
  rcases h with ⟨rfl, -⟩ | ⟨g, off, cap, cur, rfl, -, hr, -⟩
  · cases hk
  rcases h' with ⟨rfl, -⟩ | ⟨g', off', cap', cur', rfl, -, hr', -⟩
  · cases hk'
  obtain rfl : g = k := Option.some.inj hk
  obtain rfl : g' = g := Option.some.inj hk'
  obtain ⟨fr, h1, -⟩ := hr
  obtain ⟨fr', h2, -⟩ := hr'
  rw [h1] at h2
  injection h2 with h2
  injection h2 with _ h2
  exact hne h2
namespace Mk
open Oct
theorem rnum_val2 (s : RS) : ((val (takeR s.1 s.2 4).1.data.toList : Nat) : Int) = (rNum s).1 := rfl
theorem rcount_any (g : Nat) (s : RS) (most : Int) (w : World) (h : RRd w g s.1 s.2) (h0 : 0 ≤ most) : Calls Tryz.prog 111 #[.pointer (some ⟨g, 0, none⟩), .int .i64 most] w fun e w' =>
    ∃ (N : Nat) (s' : RS), e = .returned (.int .i64 (N : Int)) ∧ (N : Int) ≤ most ∧ RRd w' g s'.1 s'.2 ∧ Moved g w w' ∧ ∀ (α : Type) (one : RS → α × RS), rMany one most s = rList one N s' := by
  have NN := rrd_num g s.1 s.2 w h
  have hlt := rNum_lt s
  have hMany : ∀ (α : Type) (one : RS → α × RS), rMany one most s = rList one (rNum s).1.toNat (if most < (rNum s).1 then spoilt else (rNum s).2) := fun _ one => rfl
  obtain ⟨N, s1, hq⟩ : ∃ (N : Nat) (s1 : RS), rNum s = ((N : Int), s1) := by
    obtain ⟨N, hN⟩ := Int.eq_ofNat_of_zero_le hlt.1
    exact ⟨N, (rNum s).2, Prod.ext hN rfl⟩
  rw [rnum_val2 s, show (takeR s.1 s.2 4).2 = (rNum s).2 from rfl, hq] at NN
  simp only [hq, Int.toNat_natCast] at hMany
  rw [hq] at hlt
  dsimp only at hlt NN
  have NN := Lib.hid NN
  have HM := Lib.hid hMany
  have hw : IntKind.i64.wrap (N : Int) = (N : Int) := IntWalk.i64_in _ (by omega)
  clear hMany hq h hlt
  go_enter Tryz.func111, Tryz.ntmps111
  go_wp2_with fail
  refine NN.out.mono ?_
  rintro e w2 ⟨rfl, h2, hm2⟩
  have H2 := Lib.hid (And.intro h2 hm2)
  clear NN h2 hm2
  by_cases hc : most < (N : Int)
  · have z0 : decide (most < (N : Int)) = true := decide_eq_true hc
    have d2 := H2.out.1.flag.1
    have f2 := H2.out.1.flag.2
    have HC := Lib.hid hc
    clear hc
    go_wp2_with fail
    go_ret
    refine ⟨0, (⟨#[]⟩, true), rfl, by simpa using h0, H2.out.1.spoilt, H2.out.2.setCell rfl _, fun _ one => ?_⟩
    rw [HM.out _ one, if_pos HC.out]
    exact rList_bad one N spoilt rfl
  · have z0 : decide (most < (N : Int)) = false := decide_eq_false hc
    have HC := Lib.hid hc
    clear hc
    go_wp2_with fail
    go_ret
    refine ⟨N, s1, rfl, by have := HC.out; omega, H2.out.1, H2.out.2, fun _ one => ?_⟩
    rw [HM.out _ one, if_neg (Int.not_lt.2 HC.out)]
/-- Where the reference's Decode stands: its Reader at g, the marks at M, what it hands back at the first block. -/
def RD (w : World) (g M : Nat) (s : RS) (cs : Array Value) (W : World) : Prop :=
  (RRd W g s.1 s.2 ∧ BlkIs W w.heap.size 28 #[.slice none 0 0, .slice none 0 0, .slice none 0 0] ∧ BlkIs W M 28 cs ∧ Below w.heap.size w W) ∧ w.heap.size < g ∧ g < M
section
variable {w : World} {g M : Nat} {s s' : RS} {cs : Array Value} {W W' : World}
theorem RD.call (h : RD w g M s cs W) (hr : RRd W' g s'.1 s'.2) (hm : Moved g W W') : RD w g M s' cs W' :=
  ⟨⟨hr, hm.blk h.1.2.1 (by have := h.2; omega), hm.blk h.1.2.2.1 (by have := h.2; omega), h.1.2.2.2.trans ((hm.below (Nat.le_of_lt h.1.1.lt)).mono (Nat.le_of_lt h.2.1))⟩, h.2⟩
theorem RD.alloc (h : RD w g M s cs W) (o : Obj) : RD w g M s cs (W.alloc o) := ⟨⟨h.1.1.alloc o, h.1.2.1.alloc o, h.1.2.2.1.alloc o, h.1.2.2.2.alloc h.1.2.2.2.size o⟩, h.2⟩
theorem RD.far (h : RD w g M s cs W) {p : Addr} (hp : M < p.block) (u : Value) : RD w g M s cs (W.setCell p u) :=
  ⟨⟨h.1.1.far (by have := h.2; omega) u, h.1.2.1.far (by have := h.2; omega) u, h.1.2.2.1.far (by omega) u, h.1.2.2.2.setCell (by have := h.2; omega) u⟩, h.2⟩
theorem RD.app (h : RD w g M s cs W) {row : Option Nat} (hg : W.grownBy W' row) (hr : ∀ k, row = some k → M < k) : RD w g M s cs W' :=
  ⟨⟨h.1.1.grown hg (fun e => by have := hr _ e.symm; have := h.2; omega), BlkIs.grown h.1.2.1 hg (fun e => by have := hr _ e.symm; have := h.2; omega), BlkIs.grown h.1.2.2.1 hg (fun e => by have := hr _ e.symm; omega), h.1.2.2.2.grown hg h.1.2.2.2.size (fun k hk => by have := hr k hk; have := h.2; omega)⟩, h.2⟩
theorem RD.put (h : RD w g M s cs W) (i : Nat) (u : Value) : RD w g M s (cs.setIfInBounds i u) (W.setCell ⟨M, i, none⟩ u) :=
  ⟨⟨h.1.1.far (p := ⟨M, i, none⟩) (by have := h.2; show g ≠ M; omega) u, h.1.2.1.far (p := ⟨M, i, none⟩) (by have := h.2; show w.heap.size ≠ M; omega) u, h.1.2.2.1.put i u, h.1.2.2.2.setCell (p := ⟨M, i, none⟩) (by have := h.2; show w.heap.size ≤ M; omega) u⟩, h.2⟩
end
theorem rr_text (g : Nat) (s s' : RS) (most : Int) (x : ByteArray) (hq : rText most s = (x, s')) (W : World) (h : RRd W g s.1 s.2) : Calls Tryz.prog 61 #[.pointer (some ⟨g, 0, none⟩), .int .i64 most] W fun e w' => e = .returned (.string x) ∧ RRd w' g s'.1 s'.2 ∧ Moved g W w' := by
  have h1 := rrd_text g s.1 s.2 most W h
  rw [show textR s.1 s.2 most = (x, s') from hq] at h1
  exact h1
theorem rr_take (g : Nat) (s s' : RS) (n : Int) (hn : n ≤ 140737488355328) (x : ByteArray) (hq : rTake n s = (x, s')) (W : World) (h : RRd W g s.1 s.2) : Calls Tryz.prog 58 #[.pointer (some ⟨g, 0, none⟩), .int .i64 n] W fun e w' => e = .returned (.string x) ∧ RRd w' g s'.1 s'.2 ∧ Moved g W w' := by
  have h1 := rrd_take g s.1 s.2 n W h hn
  rw [show takeR s.1 s.2 n = (x, s') from hq] at h1
  exact h1
theorem rr_num (g : Nat) (s s' : RS) (x : Int) (hq : rNum s = (x, s')) (W : World) (h : RRd W g s.1 s.2) : Calls Tryz.prog 57 #[.pointer (some ⟨g, 0, none⟩)] W fun e w' => e = .returned (.int .u32 x) ∧ RRd w' g s'.1 s'.2 ∧ Moved g W w' := by
  have h1 := rrd_num g s.1 s.2 W h
  rw [rnum_val2 s, show (takeR s.1 s.2 4).2 = (rNum s).2 from rfl, hq] at h1
  exact h1
theorem num_wrap {s s' : RS} {x : Int} (hq : rNum s = (x, s')) : IntKind.i64.wrap x = x := by
  have h := rNum_lt s
  rw [hq] at h
  exact IntWalk.i64_in _ (by dsimp only at h; omega)
/-- A thing that is being read lies at X; since wr only the Reader has changed of what was there. -/
def FS (w : World) (g M : Nat) (s : RS) (cs : Array Value) (wr : World) (X : Nat) (T : TypeId) (xs : Array Value) (V : World) : Prop :=
  RD w g M s cs V ∧ Chg (fun k => k = g) wr V ∧ BlkIs V X T xs ∧ M < X ∧ wr.heap.size ≤ X
section
variable {w wr : World} {g M X : Nat} {s s' : RS} {cs xs : Array Value} {T : TypeId} {V W' : World}
theorem FS.start (h : RD w g M s cs wr) (T : TypeId) (xs : Array Value) : FS w g M s cs wr wr.heap.size T xs (wr.alloc (.cells xs T)) :=
  ⟨h.alloc _, (Chg.refl _ _).alloc _, BlkIs.new _ _ _, h.1.2.2.1.lt, Nat.le_refl _⟩
theorem FS.call (h : FS w g M s cs wr X T xs V) (hr : RRd W' g s'.1 s'.2) (hm : Moved g V W') : FS w g M s' cs wr X T xs W' :=
  ⟨h.1.call hr hm, h.2.1.trans (Chg.of_grown hm (fun k hk => Or.inl (Option.some.inj hk).symm)), hm.blk h.2.2.1 (by have := h.1.2; have := h.2.2.2; omega), h.2.2.2⟩
theorem FS.put (h : FS w g M s cs wr X T xs V) (i : Nat) (u : Value) : FS w g M s cs wr X T (xs.setIfInBounds i u) (V.setCell ⟨X, i, none⟩ u) :=
  ⟨h.1.far (p := ⟨X, i, none⟩) h.2.2.2.1 u, h.2.1.setCell (p := ⟨X, i, none⟩) (Or.inr h.2.2.2.2) u, h.2.2.1.put i u, h.2.2.2⟩
theorem FS.alloc (h : FS w g M s cs wr X T xs V) (o : Obj) : FS w g M s cs wr X T xs (V.alloc o) := ⟨h.1.alloc o, h.2.1.alloc o, h.2.2.1.alloc o, h.2.2.2⟩
theorem FS.far (h : FS w g M s cs wr X T xs V) {p : Addr} (hp : X < p.block) (u : Value) : FS w g M s cs wr X T xs (V.setCell p u) :=
  ⟨h.1.far (by have := h.2.2.2; omega) u, h.2.1.setCell (Or.inr (by have := h.2.2.2; omega)) u, h.2.2.1.far (by omega) u, h.2.2.2⟩
theorem FS.app (h : FS w g M s cs wr X T xs V) {row : Option Nat} (hg : V.grownBy W' row) (hr : ∀ k, row = some k → X < k) : FS w g M s cs wr X T xs W' :=
  ⟨h.1.app hg (fun k hk => by have := hr k hk; have := h.2.2.2; omega), h.2.1.trans (Chg.of_grown hg (fun k hk => Or.inr (by have := hr k hk; have := h.2.2.2; omega))), BlkIs.grown h.2.2.1 hg (fun e => by have := hr _ e.symm; omega), h.2.2.2⟩
end
theorem TbR.Own.chg {base g : Nat} {w w' : World} {x : TbR} (h : x.Own base w) (hc : Chg (fun k => k = g) w w') (hg : g < base) : x.Own base w' :=
  ⟨hc.sl h.1 (fun k hk e => by have := (h.1.lt k hk).1; omega), hc.sl h.2 (fun k hk e => by have := (h.2.lt k hk).1; omega)⟩
theorem TbR.Own.grown {base base' n : Nat} {w w' : World} {x : TbR} {v : Value} {vs : List Value} (h : x.Own base w) (hs : SlIs w base' 54 5 v n vs) (hg : w.grownBy w' v.ownBlock) : x.Own base w' := by
  refine ⟨h.1.kept hg ?_, h.2.kept hg ?_⟩
  · cases hq : x.cv.ownBlock with
    | none => exact .inl rfl
    | some k => exact .inr (fun e => h.1.ne_sl hs (by decide) k hq e.symm)
  · cases hq : x.av.ownBlock with
    | none => exact .inl rfl
    | some k => exact .inr (fun e => h.2.ne_sl hs (by decide) k hq e.symm)
theorem TbR.Own.far' {base : Nat} {w : World} {x : TbR} (h : x.Own base w) {p : Addr} (hp : p.block < base) (u : Value) : x.Own base (w.setCell p u) :=
  ⟨h.1.far (fun e => by have := (h.1.lt _ e).1; omega) u, h.2.far (fun e => by have := (h.2.lt _ e).1; omega) u⟩
theorem sl_kept {w w' : World} {base base' : Nat} {e e' : TypeId} {size size' : Nat} {v v' : Value} {n n' : Nat} {xs xs' : List Value} (h : SlIs w base e size v n xs) (h' : SlIs w base' e' size' v' n' xs') (hne : e ≠ e') (hg : w.grownBy w' v'.ownBlock) : SlIs w' base e size v n xs := by
  refine h.kept hg ?_
  cases hq : v.ownBlock with
  | none => exact .inl rfl
  | some k => exact .inr (fun e => h.ne_sl h' hne k hq e.symm)
theorem sl_farB {w : World} {base : Nat} {e : TypeId} {size : Nat} {v : Value} {n : Nat} {xs : List Value} (h : SlIs w base e size v n xs) {p : Addr} (hp : p.block < base) (u : Value) : SlIs (w.setCell p u) base e size v n xs :=
  h.far (fun e => by have := (h.lt _ e).1; omega) u
theorem sl_chg {w w' : World} {base g : Nat} {e : TypeId} {size : Nat} {v : Value} {n : Nat} {xs : List Value} (h : SlIs w base e size v n xs) (hc : Chg (fun k => k = g) w w') (hg : g < base) : SlIs w' base e size v n xs :=
  hc.sl h (fun k hk e => by have := (h.lt k hk).1; omega)
end Mk
end Go.Proofs.YtljenganlknhbaaGreat
