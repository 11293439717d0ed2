/- Several texts in one. (Layer 19.) -/
import Derived.Test.YtljenganlknhbaaGreatMk13
import Derived.Deep.RegionHeld3
import Derived.Deep.RegionHeld
import Derived.Test.YtljenganlknhbaaGreatPkA
/- mark.reader: n, ref, token, walked. (Layer 12.) -/
namespace Go.Proofs.YtljenganlknhbaaGreat.Mk
set_option linter.unusedVariables false
open Go.RowKit Oct
theorem rNum_lt (s : RS) : 0 ≤ (rNum s).1 ∧ (rNum s).1 < 4294967296 := by
  have := val_takeR s.1 s.2
  unfold rNum
  simp only
  omega
theorem rd_n (g : Nat) (s : RS) (w : World) (h : Rd w g s.1 s.2) : Calls Tryz.prog 146 #[.agg #[.pointer (some ⟨g, 0, none⟩)]] w fun e w' => e = .returned (.int .i64 (rNum s).1) ∧ Rd w' g (rNum s).2.1 (rNum s).2.2 ∧ Moved g w w' := by
  have hb : Below w.heap.size w (w.alloc (.cells #[.pointer (some ⟨g, 0, none⟩)] 119)) := (Below.refl _ _).alloc (Nat.le_refl _) _
  have hr : Rd (w.alloc (.cells #[.pointer (some ⟨g, 0, none⟩)] 119)) g s.1 s.2 := BlkIs.alloc h _
  have N := rd_num g s.1 s.2 _ hr
  have hlt := rNum_lt s
  have hm := Moved.of_below (g := g) hb
  obtain ⟨v, hv⟩ : ∃ v : Int, v = (rNum s).1 := ⟨_, rfl⟩
  have e1 : ((val (takeR s.1 s.2 4).1.data.toList : Nat) : Int) = v := by rw [hv]; rfl
  rw [e1] at N
  rw [← hv] at hlt ⊢
  have N := Lib.hid N
  have HM := Lib.hid hm
  have hw : IntKind.i64.wrap v = v := IntWalk.i64_in _ (by omega)
  obtain ⟨l1, l2⟩ := hlt
  clear h hb hr hm hv e1
  go_enter Tryz.func146, Tryz.ntmps146
  go_wp2_with fail
  refine N.out.mono ?_
  rintro e w2 ⟨rfl, h2, hm2⟩
  have H := Lib.hid (And.intro h2 (HM.out.trans hm2))
  clear N h2 hm2
  go_wp2_with fail
  go_ret
  exact ⟨rfl, H.out⟩
/-- The Reader's block stands at s; B is a block of another kind. -/
def St (w : World) (g : Nat) (s : RS) (B : Nat) (t : TypeId) (cs : Array Value) (B2 : Nat) (t2 : TypeId) (cs2 : Array Value) (W : World) : Prop :=
  Rd W g s.1 s.2 ∧ Moved g w W ∧ BlkIs W B t cs ∧ BlkIs W B2 t2 cs2 ∧ B ≠ g ∧ B2 ≠ g
theorem St.moved {w : World} {g : Nat} {s s' : RS} {B : Nat} {t : TypeId} {cs : Array Value} {B2 : Nat} {t2 : TypeId} {cs2 : Array Value} {W W' : World} (h : St w g s B t cs B2 t2 cs2 W) (hr : Rd W' g s'.1 s'.2) (hm : Moved g W W') : St w g s' B t cs B2 t2 cs2 W' :=
  ⟨hr, h.2.1.trans hm, hm.blk h.2.2.1 h.2.2.2.2.1, hm.blk h.2.2.2.1 h.2.2.2.2.2, h.2.2.2.2⟩
theorem St.drew {w : World} {g : Nat} {s : RS} {B : Nat} {t : TypeId} {cs : Array Value} {B2 : Nat} {t2 : TypeId} {cs2 : Array Value} {W : World} (h : St w g s B t cs B2 t2 cs2 W) : St w g s B t cs B2 t2 cs2 W.drew :=
  ⟨h.1, h.2.1.trans (Moved.of_below ((Below.refl _ _).drew)), h.2.2.1, h.2.2.2.1, h.2.2.2.2⟩
theorem St.store {w : World} {g : Nat} {s : RS} {B : Nat} {t : TypeId} {cs : Array Value} {B2 : Nat} {t2 : TypeId} {cs2 : Array Value} {W : World} (h : St w g s B t cs B2 t2 cs2 W) (hB : B ≠ B2) (hw : w.heap.size ≤ B2) (i : Nat) (v : Value) :
    St w g s B t cs B2 t2 (cs2.setIfInBounds i v) (W.setCell ⟨B2, i, none⟩ v) := by
  obtain ⟨h1, h2, h3, h4, h5, h6⟩ := h
  refine ⟨BlkIs.far h1 (p := ⟨B2, i, none⟩) (Ne.symm h6) v, ?_, h3.far (p := ⟨B2, i, none⟩) hB v, h4.put i v, h5, h6⟩
  exact ⟨h2.os, h2.tape, h2.output, by simpa using h2.size, fun k hk hne => (Below.heap_setCell W ⟨B2, i, none⟩ v k (by show k ≠ B2; omega)).trans (h2.block k hk hne)⟩
theorem st_text {w : World} {g : Nat} {s : RS} {B : Nat} {t : TypeId} {cs : Array Value} {B2 : Nat} {t2 : TypeId} {cs2 : Array Value} {W : World} (most : Int) (x : ByteArray) (s' : RS) (hq : rText most s = (x, s')) (h : St w g s B t cs B2 t2 cs2 W) :
    Calls Tryz.prog 47 #[.pointer (some ⟨g, 0, none⟩), .int .i64 most] W fun e w' => e = .returned (.string x) ∧ St w g s' B t cs B2 t2 cs2 w' ∧ ∀ i, w'.cell? ⟨B, i, none⟩ = cs[i]? := by
  have := rd_text g s.1 s.2 most W h.1
  rw [show textR s.1 s.2 most = (x, s') from hq] at this
  refine this.mono ?_
  rintro e w' ⟨he, hr, hm⟩
  exact ⟨he, h.moved hr hm, fun i => (hm.blk h.2.2.1 h.2.2.2.2.1).cell i⟩
theorem st_take {w : World} {g : Nat} {s : RS} {B : Nat} {t : TypeId} {cs : Array Value} {B2 : Nat} {t2 : TypeId} {cs2 : Array Value} {W : World} (n : Int) (x : ByteArray) (s' : RS) (hq : rTake n s = (x, s')) (h : St w g s B t cs B2 t2 cs2 W) :
    Calls Tryz.prog 44 #[.pointer (some ⟨g, 0, none⟩), .int .i64 n] W fun e w' => e = .returned (.string x) ∧ St w g s' B t cs B2 t2 cs2 w' ∧ ∀ i, w'.cell? ⟨B, i, none⟩ = cs[i]? := by
  have := rd_take g s.1 s.2 n W h.1
  rw [show takeR s.1 s.2 n = (x, s') from hq] at this
  refine this.mono ?_
  rintro e w' ⟨he, hr, hm⟩
  exact ⟨he, h.moved hr hm, fun i => (hm.blk h.2.2.1 h.2.2.2.2.1).cell i⟩
theorem st_n {w : World} {g : Nat} {s : RS} {B : Nat} {t : TypeId} {cs : Array Value} {B2 : Nat} {t2 : TypeId} {cs2 : Array Value} {W : World} (x : Int) (s' : RS) (hq : rNum s = (x, s')) (h : St w g s B t cs B2 t2 cs2 W) :
    Calls Tryz.prog 146 #[.agg #[.pointer (some ⟨g, 0, none⟩)]] W fun e w' => e = .returned (.int .i64 x) ∧ St w g s' B t cs B2 t2 cs2 w' ∧ ∀ i, w'.cell? ⟨B, i, none⟩ = cs[i]? := by
  have := rd_n g s W h.1
  rw [hq] at this
  refine this.mono ?_
  rintro e w' ⟨he, hr, hm⟩
  exact ⟨he, h.moved hr hm, fun i => (hm.blk h.2.2.1 h.2.2.2.2.1).cell i⟩
set_option maxRecDepth 100000 in
set_option maxHeartbeats 2000000 in
theorem rd_ref (g : Nat) (s : RS) (w : World) (h : Rd w g s.1 s.2) : Calls Tryz.prog 106 #[.agg #[.pointer (some ⟨g, 0, none⟩)]] w fun e w' => e = .returned (aRf (rRf s).1) ∧ Rd w' g (rRf s).2.1 (rRf s).2.2 ∧ Moved g w w' := by
  have hgl := h.lt
  obtain ⟨x1, s1, hq1⟩ : ∃ x s', rText 255 s = (x, s') := ⟨_, _, rfl⟩
  obtain ⟨x2, s2, hq2⟩ : ∃ x s', rTake 32 s1 = (x, s') := ⟨_, _, rfl⟩
  obtain ⟨x3, s3, hq3⟩ : ∃ x s', rNum s2 = (x, s') := ⟨_, _, rfl⟩
  have hq : rRf s = (⟨x1, x2, x3⟩, s3) := by unfold rRf; simp only [hq1, hq2, hq3]
  rw [hq]
  show Calls Tryz.prog 106 #[.agg #[.pointer (some ⟨g, 0, none⟩)]] w fun e w' => e = .returned (.agg #[.string x1, .string x2, .int .i64 x3]) ∧ Rd w' g s3.1 s3.2 ∧ Moved g w w'
  obtain ⟨W1, hW1⟩ : ∃ W1, W1 = (w.alloc (.cells #[.pointer (some ⟨g, 0, none⟩)] 119)).alloc (.cells #[.string ⟨#[]⟩, .string ⟨#[]⟩, .int .i64 0] 51) := ⟨_, rfl⟩
  have hb : Below w.heap.size w W1 := by rw [hW1]; exact ((Below.refl _ _).alloc (Nat.le_refl _) _).alloc (by simp) _
  have k1 : BlkIs W1 w.heap.size 119 #[.pointer (some ⟨g, 0, none⟩)] := by rw [hW1]; exact (BlkIs.new _ _ _).alloc _
  have k2 : BlkIs W1 (w.heap.size + 1) 51 #[.string ⟨#[]⟩, .string ⟨#[]⟩, .int .i64 0] := by rw [hW1]; exact BlkIs.new2 _ _ _ _
  have HW := Lib.hid hW1
  have H1 := Lib.hid (show St w g s w.heap.size 119 #[.pointer (some ⟨g, 0, none⟩)] (w.heap.size + 1) 51 #[.string ⟨#[]⟩, .string ⟨#[]⟩, .int .i64 0] W1 from ⟨BlkIs.below h hb hgl, Moved.of_below hb, k1, k2, by omega, by omega⟩)
  have Q1 := Lib.hid hq1
  have Q2 := Lib.hid hq2
  have Q3 := Lib.hid hq3
  have d0 : W1.cell? ⟨w.heap.size, 0, none⟩ = some (.pointer (some ⟨g, 0, none⟩)) := k1.cell 0
  clear hW1 hb k1 k2 h hgl hq hq1 hq2 hq3
  go_enter Tryz.func106, Tryz.ntmps106
  go_wp2_with fail
  rw [← HW.out]
  go_region_held (fun w' => w'.cell? ⟨w.heap.size, 0, none⟩ = some (.pointer (some ⟨g, 0, none⟩))) (go_keep)
    (first
      | (go_at_call 47
         refine (st_text 255 x1 s1 Q1.out (by first | exact H1.out | exact H1.out.drew)).mono ?_
         rintro e w4 ⟨rfl, h4, c4⟩
         have H4 := Lib.hid h4
         have c4 : w4.cell? ⟨w.heap.size, 0, none⟩ = some (.pointer (some ⟨g, 0, none⟩)) := c4 0
         clear h4)
      | (go_at_call 44
         refine (st_take 32 x2 s2 Q2.out (by first | exact H4.out | exact H4.out.drew)).mono ?_
         rintro e w5 ⟨rfl, h5, c5⟩
         have H5 := Lib.hid h5
         have c5 : w5.cell? ⟨w.heap.size, 0, none⟩ = some (.pointer (some ⟨g, 0, none⟩)) := c5 0
         clear h5)
      | (go_at_call 146
         refine (st_n x3 s3 Q3.out (by first | exact H5.out | exact H5.out.drew)).mono ?_
         rintro e w6 ⟨rfl, h6, c6⟩
         have H6 := Lib.hid h6
         have c6 : w6.cell? ⟨w.heap.size, 0, none⟩ = some (.pointer (some ⟨g, 0, none⟩)) := c6 0
         have e60 : w6.cell? ⟨w.heap.size + 1, 0, none⟩ = some (.string ⟨#[]⟩) := h6.2.2.2.1.cell 0
         have e61 : w6.cell? ⟨w.heap.size + 1, 1, none⟩ = some (.string ⟨#[]⟩) := h6.2.2.2.1.cell 1
         have e62 : w6.cell? ⟨w.heap.size + 1, 2, none⟩ = some (.int .i64 0) := h6.2.2.2.1.cell 2
         have f60 : w6.frozen? ⟨w.heap.size + 1, 0, none⟩ = false := h6.2.2.2.1.free 0
         have f61 : w6.frozen? ⟨w.heap.size + 1, 1, none⟩ = false := h6.2.2.2.1.free 1
         have f62 : w6.frozen? ⟨w.heap.size + 1, 2, none⟩ = false := h6.2.2.2.1.free 2
         clear h6))
  have hbn : w.heap.size ≠ w.heap.size + 1 := by omega
  have H7 := Lib.hid (((H6.out.store hbn (Nat.le_succ _) 0 (.string x1)).store hbn (Nat.le_succ _) 1 (.string x2)).store hbn (Nat.le_succ _) 2 (.int .i64 x3))
  go_wp2_with fail
  exact bodyPost_ret (v := .agg #[.string x1, .string x2, .int .i64 x3]) (by simp [results, Tryz.results106, go_sem, e60, e61, e62]) rfl ⟨rfl, H7.out.1, H7.out.2.1⟩
end Go.Proofs.YtljenganlknhbaaGreat.Mk

/- mark.list, walked: at refs, tokens, tombs and numbers: whatever the function value reads. (Layer 12.) -/
namespace Go.Proofs.YtljenganlknhbaaGreat.Mk
set_option linter.unusedVariables false
open Go.RowKit Oct
/-- A tomb whose lists the call has made itself, from base on. -/
def TbR.Own (base : Nat) (w : World) (x : TbR) : Prop := SlIs w base 102 3 x.cv x.t.cov.length (rowCells vTok x.t.cov) ∧ SlIs w base 3 1 x.av x.t.acks.length (rowCells vInt x.t.acks)
theorem TbR.Own.moved {base g : Nat} {w w' : World} {x : TbR} (h : x.Own base w) (hm : Moved g w w') (hg : g < base) : x.Own base w' := ⟨hm.sl h.1 hg, hm.sl h.2 hg⟩
theorem TbR.Own.later {base : Nat} {w w' : World} {x : TbR} (h : x.Own base w) (hb : Below w.heap.size w w') : x.Own base w' := ⟨h.1.later hb, h.2.later hb⟩
theorem TbR.Own.reads {base : Nat} {w : World} {x : TbR} (h : x.Own base w) : x.Reads w := ⟨RowAt.of_sl (fun _ => rfl) h.1, RowAt.of_sl (fun _ => rfl) h.2⟩
theorem TbR.Own.mono {base base' : Nat} {w : World} {x : TbR} (h : x.Own base w) (hb : base' ≤ base) : x.Own base' w := ⟨h.1.mono hb, h.2.mono hb⟩
/-- What a function value reads: handed a Reader that stands at s it gives a thing, and the Reader stands behind it. -/
def OneOk {α ρ : Type} (f : Nat) (pre lb : Array Value) (enc : ρ → Value) (ab : ρ → α) (Ok : World → ρ → Prop) (one : RS → α × RS) (g : Nat) (w : World) : Prop :=
  (∀ args w, (callFunc f args).run Tryz.prog w = .ok (.enter f args) w) ∧ ∀ (s : RS) (W : World), Moved g w W → Rd W g s.1 s.2 → Calls Tryz.prog f (pre ++ lb) W fun e w' => ∃ r, e = .returned (enc r) ∧ ab r = (one s).1 ∧ Ok w' r ∧ Rd w' g (one s).2.1 (one s).2.2 ∧ Moved g W w'
theorem moved_row {g : Nat} {a w w' : World} {row : Option Nat} (h : Moved g a w) (hg : w.grownBy w' row) (hr : ∀ k, row = some k → a.heap.size ≤ k) : Moved g a w' :=
  ⟨hg.os.trans h.os, hg.tape.trans h.tape, hg.output.trans h.output, Nat.le_trans h.size hg.size, fun k hk hne => (hg.block k (Nat.lt_of_lt_of_le hk h.size) (fun e => by have := hr k e.symm; omega)).trans (h.block k hk hne)⟩
theorem rList_snoc {α : Type} (one : RS → α × RS) (n : Nat) (s : RS) (h : s.2 = false) : (rList one (n + 1) s).1 = [(one s).1] ++ (rList one n (one s).2).1 ∧ (rList one (n + 1) s).2 = (rList one n (one s).2).2 := by
  rw [rList_go one n s h]
  exact ⟨rfl, rfl⟩
theorem rNum_val (s : RS) : ((val (takeR s.1 s.2 4).1.data.toList : Nat) : Int) = (rNum s).1 := rfl
theorem el_rf : ElemOk Tryz.prog 24 51 3 40 := ElemOk.mk' (z := .agg #[.string ⟨#[]⟩, .string ⟨#[]⟩, .int .i64 0]) Tryz.underlying24 (by kernel_rfl) rfl
/-- Where the going stands: the things read so far, what is to come. -/
def LSt_rf (g : Nat) (w : World) (most : Int) (one : RS → Rf × RS) (s : RS) (N k : Nat) (v : Value) (W : World) (sk : RS) : Prop :=
  ∃ l : List Rf, l.length = k ∧ SlIs W w.heap.size 51 3 v k (rowCells vRf l) ∧ Rd W g sk.1 sk.2 ∧ Moved g w W ∧ BlkIs W w.heap.size 119 #[.pointer (some ⟨g, 0, none⟩)] ∧
    (rMany one most s).1 = l.map (fun x : Rf => x) ++ (rList one (N - k) sk).1 ∧ (rMany one most s).2 = (rList one (N - k) sk).2 ∧ True
/-- What list leaves. -/
def LOut_rf (g : Nat) (w : World) (most : Int) (one : RS → Rf × RS) (s : RS) (e : Ending) (W : World) : Prop :=
  ∃ (v : Value) (l : List Rf), e = .returned v ∧ SlIs W w.heap.size 51 3 v l.length (rowCells vRf l) ∧ l.map (fun x : Rf => x) = (rMany one most s).1 ∧ Rd W g (rMany one most s).2.1 (rMany one most s).2.2 ∧ Moved g w W ∧ True
set_option maxRecDepth 100000 in
set_option maxHeartbeats 4000000 in
theorem list_rf (g : Nat) (s : RS) (most : Int) (f : Nat) (pre lb : Array Value) (one : RS → Rf × RS) (w : World) (h : Rd w g s.1 s.2) (h0 : 0 ≤ most) (h1 : most ≤ 1000) (hf : OneOk f pre lb aRf (fun x : Rf => x) (fun _ _ => True) one g w) :
    Calls Tryz.prog 105 #[.agg #[.pointer (some ⟨g, 0, none⟩)], .int .i64 most, .func (.func f) pre lb] w fun e w' => LOut_rf g w most one s e w' := by
  have hgl := h.lt
  obtain ⟨W1, hW1⟩ : ∃ W1, W1 = w.alloc (.cells #[.pointer (some ⟨g, 0, none⟩)] 119) := ⟨_, rfl⟩
  have hb : Below w.heap.size w W1 := by rw [hW1]; exact (Below.refl _ _).alloc (Nat.le_refl _) _
  have k1 : BlkIs W1 w.heap.size 119 #[.pointer (some ⟨g, 0, none⟩)] := by rw [hW1]; exact BlkIs.new _ _ _
  have NN := rd_num g s.1 s.2 W1 (BlkIs.below h hb hgl)
  have hlt := rNum_lt s
  have hMany : (rMany one most s).1 = (rList one (rNum s).1.toNat (if most < (rNum s).1 then spoilt else (rNum s).2)).1 ∧ (rMany one most s).2 = (rList one (rNum s).1.toNat (if most < (rNum s).1 then spoilt else (rNum s).2)).2 := ⟨rfl, rfl⟩
  obtain ⟨N, s1, hq⟩ : ∃ (N : Nat) (s1 : RS), rNum s = ((N : Int), s1) := by
    obtain ⟨N, hN⟩ := Int.eq_ofNat_of_zero_le hlt.1
    exact ⟨N, (rNum s).2, Prod.ext hN rfl⟩
  rw [rNum_val s, show (takeR s.1 s.2 4).2 = (rNum s).2 from rfl, hq] at NN
  rw [hq] at hMany hlt
  dsimp only at hMany hlt NN
  rw [Int.toNat_natCast] at hMany
  have NN := Lib.hid NN
  have HW := Lib.hid hW1
  have H1 := Lib.hid (And.intro k1 (And.intro (Moved.of_below (g := g) hb) hgl))
  have HF := Lib.hid hf.2
  have eg := hf.1
  have HM := Lib.hid hMany
  have d0 : W1.cell? ⟨w.heap.size, 0, none⟩ = some (.pointer (some ⟨g, 0, none⟩)) := k1.cell 0
  have hw : IntKind.i64.wrap (N : Int) = (N : Int) := IntWalk.i64_in _ (by omega)
  have hN2 : N < 4294967296 := by omega
  clear h hW1 hb k1 hlt hMany hq hf
  go_enter Tryz.func105, Tryz.ntmps105
  go_wp2_with fail
  rw [← HW.out]
  refine NN.out.mono ?_
  rintro e w2 ⟨rfl, h2, hm2⟩
  have H2 := Lib.hid (show BlkIs w2 w.heap.size 119 #[.pointer (some ⟨g, 0, none⟩)] ∧ Moved g w w2 ∧ Rd w2 g s1.1 s1.2 from ⟨hm2.blk H1.out.1 (by have := H1.out.2.2; omega), H1.out.2.1.trans hm2, h2⟩)
  have e0 : w2.cell? ⟨w.heap.size, 0, none⟩ = some (.pointer (some ⟨g, 0, none⟩)) := H2.out.1.cell 0
  clear NN h2 hm2 d0
  by_cases hc : most < (N : Int)
  · rw [if_pos hc] at HM
    have hrb := rList_bad one N spoilt rfl
    rw [hrb] at HM
    have z0 : decide (most < (N : Int)) = true := decide_eq_true hc
    have z1 : (0 : Int) < N := by omega
    have z2 : decide (0 < N) = true := decide_eq_true (by omega)
    clear hrb hc
    go_wp2_with fail
    refine (rd_spoil g _ _ w2 H2.out.2.2).mono ?_
    rintro e w3 ⟨rfl, h3, hm3⟩
    have H3 := Lib.hid (show BlkIs w3 w.heap.size 119 #[.pointer (some ⟨g, 0, none⟩)] ∧ Moved g w w3 ∧ Rd w3 g ⟨#[]⟩ true from ⟨hm3.blk H2.out.1 (by have := H1.out.2.2; omega), H2.out.2.1.trans hm3, h3⟩)
    have e3 : w3.cell? ⟨w.heap.size, 0, none⟩ = some (.pointer (some ⟨g, 0, none⟩)) := H3.out.1.cell 0
    clear h3 hm3 e0
    go_wp2_with fail
    go_loopw [8, 9] (fun o i wr => o = .slice none 0 0 ∧ i = .int .i64 0 ∧ w3 = wr) (fun _ _ _ => 0)
    case atStart => exact ⟨rfl, rfl, rfl⟩
    case round =>
      obtain ⟨rfl, rfl, rfl⟩ := hrel
      go_wp2_with fail
      refine (rd_bad g _ _ w3 H3.out.2.2).mono ?_
      rintro e w4 ⟨rfl, rfl⟩
      go_wp2_with fail
      go_ret
      refine ⟨_, [], rfl, SlIs.nil_ _ _ _ _, by rw [HM.out.1]; rfl, by rw [HM.out.2]; exact H3.out.2.2, H3.out.2.1, ?_⟩
      trivial
  · rw [if_neg hc] at HM
    have z0 : decide (most < (N : Int)) = false := decide_eq_false hc
    have hN : N ≤ 1000 := by omega
    clear hc
    go_wp2_with fail
    go_loopw [8, 9] (fun o i wr => ∃ (k c : Nat) (ao : Option Addr) (b : Bool) (r : ByteArray), o = .slice ao k c ∧ i = .int .i64 (k : Int) ∧ k ≤ N ∧ Hid (LSt_rf g w most one s N k (.slice ao k c) wr (r, b))) (fun _ i _ => N - (intOf i).toNat)
    case atStart => exact ⟨0, 0, none, s1.2, s1.1, rfl, rfl, Nat.zero_le _, Lib.hid ⟨[], rfl, SlIs.nil_ _ _ _ _, H2.out.2.2, H2.out.2.1, H2.out.1, HM.out.1, HM.out.2, trivial⟩⟩
    case round =>
      obtain ⟨k, c, ao, b, r, rfl, rfl, hkN, HL⟩ := hrel
      clear e0
      obtain ⟨l, hlk, hsl, hrd, hmv, hbk, hm1, hm2, hown⟩ := HL.out
      have d1 : wr.cell? ⟨w.heap.size, 0, none⟩ = some (.pointer (some ⟨g, 0, none⟩)) := hbk.cell 0
      have HS := Lib.hid hsl
      have HR := Lib.hid hrd
      have HV := Lib.hid (And.intro hmv hbk)
      have HE := Lib.hid (And.intro hlk (And.intro hm1 (And.intro hm2 hown)))
      clear HL hlk hsl hrd hmv hbk hm1 hm2 hown
      rcases Nat.lt_or_ge k N with hlt | hge
      · have ki : (k : Int) < N := by omega
        cases b
        · have hq := HF.out (r, false) wr HV.out.1 HR.out
          have hsn := rList_snoc one (N - (k + 1)) (r, false) rfl
          rw [show N - (k + 1) + 1 = N - k by omega] at hsn
          obtain ⟨rs, hrs⟩ : ∃ rs, rs = (one (r, false)).2 := ⟨_, rfl⟩
          obtain ⟨ro, hro⟩ : ∃ ro, ro = (one (r, false)).1 := ⟨_, rfl⟩
          rw [← hrs, ← hro] at hq hsn
          have HQ := Lib.hid hq
          have HSn := Lib.hid hsn
          have hsz := HV.out.1.size
          clear hq hsn hrs hro
          go_wp2_with fail
          refine (rd_bad g _ _ wr HR.out).mono ?_
          rintro e w3 ⟨rfl, rfl⟩
          go_wp2_with fail
          go_at_fn f
          refine HQ.out.mono ?_
          rintro e w4 ⟨r, rfl, har, hok, hr4, hm4⟩
          obtain ⟨a0, a1, a2⟩ := r
          dsimp only [aRf]
          have hs4 := hm4.sl HS.out H1.out.2.2
          have H4 := Lib.hid (show SlIs w4 w.heap.size 51 3 (.slice ao k c) k (rowCells vRf l) ∧ Rd w4 g rs.1 rs.2 ∧ Moved g w w4 ∧ BlkIs w4 w.heap.size 119 #[.pointer (some ⟨g, 0, none⟩)] from ⟨hs4, hr4, HV.out.1.trans hm4, hm4.blk HV.out.2 (by have := H1.out.2.2; omega)⟩)
          have HA4 := Lib.hid har
          have HK4 := Lib.hid hok
          have HMM := Lib.hid hm4
          clear har hok hr4 hm4 hs4
          go_wp2_with (refine wpList_append_sl rfl _ _ _ 24 (by rfl) el_rf (base := w.heap.size) (.slice ao k c) k (rowCells vRf l) (by rfl) (H4.out.1.alloc _) _ 1 [Value.string a0, Value.string a1, Value.int .i64 a2] (by rfl) (SrcIs.own Tryz.underlying24 (SlIs.made (base := 0) (BlkIs.new _ _ _) (Nat.zero_le _) rfl (by decide))) (by intro u hu; simp at hu; rcases hu with rfl | rfl | rfl <;> rfl) (by unfold maxLen; omega) (by omega) (by have := H4.out.2.2.1.size; simp; omega) ?_)
          intro v5 w5 hs5 hg5 hat5
          obtain ⟨ao5, c5, rfl, -, -, -⟩ := hs5.form
          have hown5 : ∀ j, (Value.slice ao k c).ownBlock = some j → w.heap.size ≤ j := fun j hj => (H4.out.1.lt j hj).1
          have hgb : some w.heap.size ≠ (Value.slice ao k c).ownBlock := fun e => (H4.out.1.alloc (.cells #[Value.string a0, Value.string a1, Value.int .i64 a2] 51)).ne_blk (H4.out.2.2.2.alloc (.cells #[Value.string a0, Value.string a1, Value.int .i64 a2] 51)) (by decide) e.symm
          have hrow : rowCells vRf l ++ [Value.string a0, Value.string a1, Value.int .i64 a2] = rowCells vRf (l ++ [⟨a0, a1, a2⟩]) := by rw [rowCells_app, rowCells_one]; rfl
          rw [hrow] at hs5
          have H5 := Lib.hid (show SlIs w5 w.heap.size 51 3 (.slice ao5 (k + 1) c5) (k + 1) (rowCells vRf (l ++ [⟨a0, a1, a2⟩])) ∧ Rd w5 g rs.1 rs.2 ∧ Moved g w w5 ∧ BlkIs w5 w.heap.size 119 #[.pointer (some ⟨g, 0, none⟩)] from
            ⟨hs5, BlkIs.grown (BlkIs.alloc H4.out.2.1 _) hg5 (fun e => by have := hown5 g e.symm; have := H1.out.2.2; omega), moved_row (H4.out.2.2.1.alloc _) hg5 hown5, (H4.out.2.2.2.alloc _).grown hg5 hgb⟩)
          clear hs5 hg5 hat5 hown5 hgb hrow
          go_wp2_with fail
          refine ⟨⟨k + 1, c5, ao5, rs.2, rs.1, rfl, by simp, by omega, Lib.hid ⟨l ++ [⟨a0, a1, a2⟩], by simp [HE.out.1], H5.out.1, H5.out.2.1, H5.out.2.2.1, H5.out.2.2.2, ?_, ?_, trivial⟩⟩, by simp [intOf]; omega⟩
          · rw [HE.out.2.1, HSn.out.1, List.map_append, List.append_assoc, ← HA4.out]
            rfl
          · rw [HE.out.2.2.1, HSn.out.2]
        · have hrb := rList_bad one (N - k) (r, true) rfl
          have HRb := Lib.hid hrb
          clear hrb
          go_wp2_with fail
          refine (rd_bad g _ _ wr HR.out).mono ?_
          rintro e w3 ⟨rfl, rfl⟩
          go_wp2_with fail
          go_ret
          exact ⟨_, l, rfl, by rw [HE.out.1]; exact HS.out, by rw [HE.out.2.1, HRb.out, List.append_nil], by rw [HE.out.2.2.1, HRb.out]; exact HR.out, HV.out.1, trivial⟩
      · have ki : decide (k < N) = false := decide_eq_false (by omega)
        obtain rfl : N = k := by omega
        have hrb : rList one (N - N) (r, b) = ([], (r, b)) := by rw [Nat.sub_self]; rfl
        have HRb := Lib.hid hrb
        clear hrb
        go_wp2_with fail
        go_ret
        exact ⟨_, l, rfl, by rw [HE.out.1]; exact HS.out, by rw [HE.out.2.1, HRb.out, List.append_nil], by rw [HE.out.2.2.1, HRb.out]; exact HR.out, HV.out.1, trivial⟩
theorem el_tok : ElemOk Tryz.prog 25 102 3 32 := ElemOk.mk' (z := .agg #[.int .i64 0, .int .i64 0, .string ⟨#[]⟩]) Tryz.underlying25 (by kernel_rfl) rfl
/-- Where the going stands: the things read so far, what is to come. -/
def LSt_tok (g : Nat) (w : World) (most : Int) (one : RS → Tok × RS) (s : RS) (N k : Nat) (v : Value) (W : World) (sk : RS) : Prop :=
  ∃ l : List Tok, l.length = k ∧ SlIs W w.heap.size 102 3 v k (rowCells vTok l) ∧ Rd W g sk.1 sk.2 ∧ Moved g w W ∧ BlkIs W w.heap.size 119 #[.pointer (some ⟨g, 0, none⟩)] ∧
    (rMany one most s).1 = l.map (fun x : Tok => x) ++ (rList one (N - k) sk).1 ∧ (rMany one most s).2 = (rList one (N - k) sk).2 ∧ True
/-- What list leaves. -/
def LOut_tok (g : Nat) (w : World) (most : Int) (one : RS → Tok × RS) (s : RS) (e : Ending) (W : World) : Prop :=
  ∃ (v : Value) (l : List Tok), e = .returned v ∧ SlIs W w.heap.size 102 3 v l.length (rowCells vTok l) ∧ l.map (fun x : Tok => x) = (rMany one most s).1 ∧ Rd W g (rMany one most s).2.1 (rMany one most s).2.2 ∧ Moved g w W ∧ True
set_option maxRecDepth 100000 in
set_option maxHeartbeats 4000000 in
theorem list_tok (g : Nat) (s : RS) (most : Int) (f : Nat) (pre lb : Array Value) (one : RS → Tok × RS) (w : World) (h : Rd w g s.1 s.2) (h0 : 0 ≤ most) (h1 : most ≤ 1000) (hf : OneOk f pre lb aTok (fun x : Tok => x) (fun _ _ => True) one g w) :
    Calls Tryz.prog 107 #[.agg #[.pointer (some ⟨g, 0, none⟩)], .int .i64 most, .func (.func f) pre lb] w fun e w' => LOut_tok g w most one s e w' := by
  have hgl := h.lt
  obtain ⟨W1, hW1⟩ : ∃ W1, W1 = w.alloc (.cells #[.pointer (some ⟨g, 0, none⟩)] 119) := ⟨_, rfl⟩
  have hb : Below w.heap.size w W1 := by rw [hW1]; exact (Below.refl _ _).alloc (Nat.le_refl _) _
  have k1 : BlkIs W1 w.heap.size 119 #[.pointer (some ⟨g, 0, none⟩)] := by rw [hW1]; exact BlkIs.new _ _ _
  have NN := rd_num g s.1 s.2 W1 (BlkIs.below h hb hgl)
  have hlt := rNum_lt s
  have hMany : (rMany one most s).1 = (rList one (rNum s).1.toNat (if most < (rNum s).1 then spoilt else (rNum s).2)).1 ∧ (rMany one most s).2 = (rList one (rNum s).1.toNat (if most < (rNum s).1 then spoilt else (rNum s).2)).2 := ⟨rfl, rfl⟩
  obtain ⟨N, s1, hq⟩ : ∃ (N : Nat) (s1 : RS), rNum s = ((N : Int), s1) := by
    obtain ⟨N, hN⟩ := Int.eq_ofNat_of_zero_le hlt.1
    exact ⟨N, (rNum s).2, Prod.ext hN rfl⟩
  rw [rNum_val s, show (takeR s.1 s.2 4).2 = (rNum s).2 from rfl, hq] at NN
  rw [hq] at hMany hlt
  dsimp only at hMany hlt NN
  rw [Int.toNat_natCast] at hMany
  have NN := Lib.hid NN
  have HW := Lib.hid hW1
  have H1 := Lib.hid (And.intro k1 (And.intro (Moved.of_below (g := g) hb) hgl))
  have HF := Lib.hid hf.2
  have eg := hf.1
  have HM := Lib.hid hMany
  have d0 : W1.cell? ⟨w.heap.size, 0, none⟩ = some (.pointer (some ⟨g, 0, none⟩)) := k1.cell 0
  have hw : IntKind.i64.wrap (N : Int) = (N : Int) := IntWalk.i64_in _ (by omega)
  have hN2 : N < 4294967296 := by omega
  clear h hW1 hb k1 hlt hMany hq hf
  go_enter Tryz.func107, Tryz.ntmps107
  go_wp2_with fail
  rw [← HW.out]
  refine NN.out.mono ?_
  rintro e w2 ⟨rfl, h2, hm2⟩
  have H2 := Lib.hid (show BlkIs w2 w.heap.size 119 #[.pointer (some ⟨g, 0, none⟩)] ∧ Moved g w w2 ∧ Rd w2 g s1.1 s1.2 from ⟨hm2.blk H1.out.1 (by have := H1.out.2.2; omega), H1.out.2.1.trans hm2, h2⟩)
  have e0 : w2.cell? ⟨w.heap.size, 0, none⟩ = some (.pointer (some ⟨g, 0, none⟩)) := H2.out.1.cell 0
  clear NN h2 hm2 d0
  by_cases hc : most < (N : Int)
  · rw [if_pos hc] at HM
    have hrb := rList_bad one N spoilt rfl
    rw [hrb] at HM
    have z0 : decide (most < (N : Int)) = true := decide_eq_true hc
    have z1 : (0 : Int) < N := by omega
    have z2 : decide (0 < N) = true := decide_eq_true (by omega)
    clear hrb hc
    go_wp2_with fail
    refine (rd_spoil g _ _ w2 H2.out.2.2).mono ?_
    rintro e w3 ⟨rfl, h3, hm3⟩
    have H3 := Lib.hid (show BlkIs w3 w.heap.size 119 #[.pointer (some ⟨g, 0, none⟩)] ∧ Moved g w w3 ∧ Rd w3 g ⟨#[]⟩ true from ⟨hm3.blk H2.out.1 (by have := H1.out.2.2; omega), H2.out.2.1.trans hm3, h3⟩)
    have e3 : w3.cell? ⟨w.heap.size, 0, none⟩ = some (.pointer (some ⟨g, 0, none⟩)) := H3.out.1.cell 0
    clear h3 hm3 e0
    go_wp2_with fail
    go_loopw [8, 9] (fun o i wr => o = .slice none 0 0 ∧ i = .int .i64 0 ∧ w3 = wr) (fun _ _ _ => 0)
    case atStart => exact ⟨rfl, rfl, rfl⟩
    case round =>
      obtain ⟨rfl, rfl, rfl⟩ := hrel
      go_wp2_with fail
      refine (rd_bad g _ _ w3 H3.out.2.2).mono ?_
      rintro e w4 ⟨rfl, rfl⟩
      go_wp2_with fail
      go_ret
      refine ⟨_, [], rfl, SlIs.nil_ _ _ _ _, by rw [HM.out.1]; rfl, by rw [HM.out.2]; exact H3.out.2.2, H3.out.2.1, ?_⟩
      trivial
  · rw [if_neg hc] at HM
    have z0 : decide (most < (N : Int)) = false := decide_eq_false hc
    have hN : N ≤ 1000 := by omega
    clear hc
    go_wp2_with fail
    go_loopw [8, 9] (fun o i wr => ∃ (k c : Nat) (ao : Option Addr) (b : Bool) (r : ByteArray), o = .slice ao k c ∧ i = .int .i64 (k : Int) ∧ k ≤ N ∧ Hid (LSt_tok g w most one s N k (.slice ao k c) wr (r, b))) (fun _ i _ => N - (intOf i).toNat)
    case atStart => exact ⟨0, 0, none, s1.2, s1.1, rfl, rfl, Nat.zero_le _, Lib.hid ⟨[], rfl, SlIs.nil_ _ _ _ _, H2.out.2.2, H2.out.2.1, H2.out.1, HM.out.1, HM.out.2, trivial⟩⟩
    case round =>
      obtain ⟨k, c, ao, b, r, rfl, rfl, hkN, HL⟩ := hrel
      clear e0
      obtain ⟨l, hlk, hsl, hrd, hmv, hbk, hm1, hm2, hown⟩ := HL.out
      have d1 : wr.cell? ⟨w.heap.size, 0, none⟩ = some (.pointer (some ⟨g, 0, none⟩)) := hbk.cell 0
      have HS := Lib.hid hsl
      have HR := Lib.hid hrd
      have HV := Lib.hid (And.intro hmv hbk)
      have HE := Lib.hid (And.intro hlk (And.intro hm1 (And.intro hm2 hown)))
      clear HL hlk hsl hrd hmv hbk hm1 hm2 hown
      rcases Nat.lt_or_ge k N with hlt | hge
      · have ki : (k : Int) < N := by omega
        cases b
        · have hq := HF.out (r, false) wr HV.out.1 HR.out
          have hsn := rList_snoc one (N - (k + 1)) (r, false) rfl
          rw [show N - (k + 1) + 1 = N - k by omega] at hsn
          obtain ⟨rs, hrs⟩ : ∃ rs, rs = (one (r, false)).2 := ⟨_, rfl⟩
          obtain ⟨ro, hro⟩ : ∃ ro, ro = (one (r, false)).1 := ⟨_, rfl⟩
          rw [← hrs, ← hro] at hq hsn
          have HQ := Lib.hid hq
          have HSn := Lib.hid hsn
          have hsz := HV.out.1.size
          clear hq hsn hrs hro
          go_wp2_with fail
          refine (rd_bad g _ _ wr HR.out).mono ?_
          rintro e w3 ⟨rfl, rfl⟩
          go_wp2_with fail
          go_at_fn f
          refine HQ.out.mono ?_
          rintro e w4 ⟨r, rfl, har, hok, hr4, hm4⟩
          obtain ⟨a0, a1, a2⟩ := r
          dsimp only [aTok]
          have hs4 := hm4.sl HS.out H1.out.2.2
          have H4 := Lib.hid (show SlIs w4 w.heap.size 102 3 (.slice ao k c) k (rowCells vTok l) ∧ Rd w4 g rs.1 rs.2 ∧ Moved g w w4 ∧ BlkIs w4 w.heap.size 119 #[.pointer (some ⟨g, 0, none⟩)] from ⟨hs4, hr4, HV.out.1.trans hm4, hm4.blk HV.out.2 (by have := H1.out.2.2; omega)⟩)
          have HA4 := Lib.hid har
          have HK4 := Lib.hid hok
          have HMM := Lib.hid hm4
          clear har hok hr4 hm4 hs4
          go_wp2_with (refine wpList_append_sl rfl _ _ _ 25 (by rfl) el_tok (base := w.heap.size) (.slice ao k c) k (rowCells vTok l) (by rfl) (H4.out.1.alloc _) _ 1 [Value.int .i64 a0, Value.int .i64 a1, Value.string a2] (by rfl) (SrcIs.own Tryz.underlying25 (SlIs.made (base := 0) (BlkIs.new _ _ _) (Nat.zero_le _) rfl (by decide))) (by intro u hu; simp at hu; rcases hu with rfl | rfl | rfl <;> rfl) (by unfold maxLen; omega) (by omega) (by have := H4.out.2.2.1.size; simp; omega) ?_)
          intro v5 w5 hs5 hg5 hat5
          obtain ⟨ao5, c5, rfl, -, -, -⟩ := hs5.form
          have hown5 : ∀ j, (Value.slice ao k c).ownBlock = some j → w.heap.size ≤ j := fun j hj => (H4.out.1.lt j hj).1
          have hgb : some w.heap.size ≠ (Value.slice ao k c).ownBlock := fun e => (H4.out.1.alloc (.cells #[Value.int .i64 a0, Value.int .i64 a1, Value.string a2] 102)).ne_blk (H4.out.2.2.2.alloc (.cells #[Value.int .i64 a0, Value.int .i64 a1, Value.string a2] 102)) (by decide) e.symm
          have hrow : rowCells vTok l ++ [Value.int .i64 a0, Value.int .i64 a1, Value.string a2] = rowCells vTok (l ++ [⟨a0, a1, a2⟩]) := by rw [rowCells_app, rowCells_one]; rfl
          rw [hrow] at hs5
          have H5 := Lib.hid (show SlIs w5 w.heap.size 102 3 (.slice ao5 (k + 1) c5) (k + 1) (rowCells vTok (l ++ [⟨a0, a1, a2⟩])) ∧ Rd w5 g rs.1 rs.2 ∧ Moved g w w5 ∧ BlkIs w5 w.heap.size 119 #[.pointer (some ⟨g, 0, none⟩)] from
            ⟨hs5, BlkIs.grown (BlkIs.alloc H4.out.2.1 _) hg5 (fun e => by have := hown5 g e.symm; have := H1.out.2.2; omega), moved_row (H4.out.2.2.1.alloc _) hg5 hown5, (H4.out.2.2.2.alloc _).grown hg5 hgb⟩)
          clear hs5 hg5 hat5 hown5 hgb hrow
          go_wp2_with fail
          refine ⟨⟨k + 1, c5, ao5, rs.2, rs.1, rfl, by simp, by omega, Lib.hid ⟨l ++ [⟨a0, a1, a2⟩], by simp [HE.out.1], H5.out.1, H5.out.2.1, H5.out.2.2.1, H5.out.2.2.2, ?_, ?_, trivial⟩⟩, by simp [intOf]; omega⟩
          · rw [HE.out.2.1, HSn.out.1, List.map_append, List.append_assoc, ← HA4.out]
            rfl
          · rw [HE.out.2.2.1, HSn.out.2]
        · have hrb := rList_bad one (N - k) (r, true) rfl
          have HRb := Lib.hid hrb
          clear hrb
          go_wp2_with fail
          refine (rd_bad g _ _ wr HR.out).mono ?_
          rintro e w3 ⟨rfl, rfl⟩
          go_wp2_with fail
          go_ret
          exact ⟨_, l, rfl, by rw [HE.out.1]; exact HS.out, by rw [HE.out.2.1, HRb.out, List.append_nil], by rw [HE.out.2.2.1, HRb.out]; exact HR.out, HV.out.1, trivial⟩
      · have ki : decide (k < N) = false := decide_eq_false (by omega)
        obtain rfl : N = k := by omega
        have hrb : rList one (N - N) (r, b) = ([], (r, b)) := by rw [Nat.sub_self]; rfl
        have HRb := Lib.hid hrb
        clear hrb
        go_wp2_with fail
        go_ret
        exact ⟨_, l, rfl, by rw [HE.out.1]; exact HS.out, by rw [HE.out.2.1, HRb.out, List.append_nil], by rw [HE.out.2.2.1, HRb.out]; exact HR.out, HV.out.1, trivial⟩
theorem el_tb : ElemOk Tryz.prog 26 54 5 80 := ElemOk.mk' (z := .agg #[.int .i64 0, .int .i64 0, .string ⟨#[]⟩, .slice none 0 0, .slice none 0 0]) Tryz.underlying26 (by kernel_rfl) rfl
/-- Where the going stands: the things read so far, what is to come. -/
def LSt_tb (g : Nat) (w : World) (most : Int) (one : RS → Tb × RS) (s : RS) (N k : Nat) (v : Value) (W : World) (sk : RS) : Prop :=
  ∃ l : List TbR, l.length = k ∧ SlIs W w.heap.size 54 5 v k (rowCells vTb l) ∧ Rd W g sk.1 sk.2 ∧ Moved g w W ∧ BlkIs W w.heap.size 119 #[.pointer (some ⟨g, 0, none⟩)] ∧
    (rMany one most s).1 = l.map (fun x : TbR => x.t) ++ (rList one (N - k) sk).1 ∧ (rMany one most s).2 = (rList one (N - k) sk).2 ∧ (∀ z ∈ l, TbR.Own w.heap.size W z)
/-- What list leaves. -/
def LOut_tb (g : Nat) (w : World) (most : Int) (one : RS → Tb × RS) (s : RS) (e : Ending) (W : World) : Prop :=
  ∃ (v : Value) (l : List TbR), e = .returned v ∧ SlIs W w.heap.size 54 5 v l.length (rowCells vTb l) ∧ l.map (fun x : TbR => x.t) = (rMany one most s).1 ∧ Rd W g (rMany one most s).2.1 (rMany one most s).2.2 ∧ Moved g w W ∧ (∀ z ∈ l, TbR.Own w.heap.size W z)
set_option maxRecDepth 100000 in
set_option maxHeartbeats 4000000 in
theorem list_tb (g : Nat) (s : RS) (most : Int) (f : Nat) (pre lb : Array Value) (one : RS → Tb × RS) (w : World) (h : Rd w g s.1 s.2) (h0 : 0 ≤ most) (h1 : most ≤ 1000) (hf : OneOk f pre lb aTb (fun x : TbR => x.t) (fun W (x : TbR) => x.Own w.heap.size W) one g w) :
    Calls Tryz.prog 109 #[.agg #[.pointer (some ⟨g, 0, none⟩)], .int .i64 most, .func (.func f) pre lb] w fun e w' => LOut_tb g w most one s e w' := by
  have hgl := h.lt
  obtain ⟨W1, hW1⟩ : ∃ W1, W1 = w.alloc (.cells #[.pointer (some ⟨g, 0, none⟩)] 119) := ⟨_, rfl⟩
  have hb : Below w.heap.size w W1 := by rw [hW1]; exact (Below.refl _ _).alloc (Nat.le_refl _) _
  have k1 : BlkIs W1 w.heap.size 119 #[.pointer (some ⟨g, 0, none⟩)] := by rw [hW1]; exact BlkIs.new _ _ _
  have NN := rd_num g s.1 s.2 W1 (BlkIs.below h hb hgl)
  have hlt := rNum_lt s
  have hMany : (rMany one most s).1 = (rList one (rNum s).1.toNat (if most < (rNum s).1 then spoilt else (rNum s).2)).1 ∧ (rMany one most s).2 = (rList one (rNum s).1.toNat (if most < (rNum s).1 then spoilt else (rNum s).2)).2 := ⟨rfl, rfl⟩
  obtain ⟨N, s1, hq⟩ : ∃ (N : Nat) (s1 : RS), rNum s = ((N : Int), s1) := by
    obtain ⟨N, hN⟩ := Int.eq_ofNat_of_zero_le hlt.1
    exact ⟨N, (rNum s).2, Prod.ext hN rfl⟩
  rw [rNum_val s, show (takeR s.1 s.2 4).2 = (rNum s).2 from rfl, hq] at NN
  rw [hq] at hMany hlt
  dsimp only at hMany hlt NN
  rw [Int.toNat_natCast] at hMany
  have NN := Lib.hid NN
  have HW := Lib.hid hW1
  have H1 := Lib.hid (And.intro k1 (And.intro (Moved.of_below (g := g) hb) hgl))
  have HF := Lib.hid hf.2
  have eg := hf.1
  have HM := Lib.hid hMany
  have d0 : W1.cell? ⟨w.heap.size, 0, none⟩ = some (.pointer (some ⟨g, 0, none⟩)) := k1.cell 0
  have hw : IntKind.i64.wrap (N : Int) = (N : Int) := IntWalk.i64_in _ (by omega)
  have hN2 : N < 4294967296 := by omega
  clear h hW1 hb k1 hlt hMany hq hf
  go_enter Tryz.func109, Tryz.ntmps109
  go_wp2_with fail
  rw [← HW.out]
  refine NN.out.mono ?_
  rintro e w2 ⟨rfl, h2, hm2⟩
  have H2 := Lib.hid (show BlkIs w2 w.heap.size 119 #[.pointer (some ⟨g, 0, none⟩)] ∧ Moved g w w2 ∧ Rd w2 g s1.1 s1.2 from ⟨hm2.blk H1.out.1 (by have := H1.out.2.2; omega), H1.out.2.1.trans hm2, h2⟩)
  have e0 : w2.cell? ⟨w.heap.size, 0, none⟩ = some (.pointer (some ⟨g, 0, none⟩)) := H2.out.1.cell 0
  clear NN h2 hm2 d0
  by_cases hc : most < (N : Int)
  · rw [if_pos hc] at HM
    have hrb := rList_bad one N spoilt rfl
    rw [hrb] at HM
    have z0 : decide (most < (N : Int)) = true := decide_eq_true hc
    have z1 : (0 : Int) < N := by omega
    have z2 : decide (0 < N) = true := decide_eq_true (by omega)
    clear hrb hc
    go_wp2_with fail
    refine (rd_spoil g _ _ w2 H2.out.2.2).mono ?_
    rintro e w3 ⟨rfl, h3, hm3⟩
    have H3 := Lib.hid (show BlkIs w3 w.heap.size 119 #[.pointer (some ⟨g, 0, none⟩)] ∧ Moved g w w3 ∧ Rd w3 g ⟨#[]⟩ true from ⟨hm3.blk H2.out.1 (by have := H1.out.2.2; omega), H2.out.2.1.trans hm3, h3⟩)
    have e3 : w3.cell? ⟨w.heap.size, 0, none⟩ = some (.pointer (some ⟨g, 0, none⟩)) := H3.out.1.cell 0
    clear h3 hm3 e0
    go_wp2_with fail
    go_loopw [8, 9] (fun o i wr => o = .slice none 0 0 ∧ i = .int .i64 0 ∧ w3 = wr) (fun _ _ _ => 0)
    case atStart => exact ⟨rfl, rfl, rfl⟩
    case round =>
      obtain ⟨rfl, rfl, rfl⟩ := hrel
      go_wp2_with fail
      refine (rd_bad g _ _ w3 H3.out.2.2).mono ?_
      rintro e w4 ⟨rfl, rfl⟩
      go_wp2_with fail
      go_ret
      refine ⟨_, [], rfl, SlIs.nil_ _ _ _ _, by rw [HM.out.1]; rfl, by rw [HM.out.2]; exact H3.out.2.2, H3.out.2.1, ?_⟩
      intro z hz; cases hz
  · rw [if_neg hc] at HM
    have z0 : decide (most < (N : Int)) = false := decide_eq_false hc
    have hN : N ≤ 1000 := by omega
    clear hc
    go_wp2_with fail
    go_loopw [8, 9] (fun o i wr => ∃ (k c : Nat) (ao : Option Addr) (b : Bool) (r : ByteArray), o = .slice ao k c ∧ i = .int .i64 (k : Int) ∧ k ≤ N ∧ Hid (LSt_tb g w most one s N k (.slice ao k c) wr (r, b))) (fun _ i _ => N - (intOf i).toNat)
    case atStart => exact ⟨0, 0, none, s1.2, s1.1, rfl, rfl, Nat.zero_le _, Lib.hid ⟨[], rfl, SlIs.nil_ _ _ _ _, H2.out.2.2, H2.out.2.1, H2.out.1, HM.out.1, HM.out.2, fun z hz => by cases hz⟩⟩
    case round =>
      obtain ⟨k, c, ao, b, r, rfl, rfl, hkN, HL⟩ := hrel
      clear e0
      obtain ⟨l, hlk, hsl, hrd, hmv, hbk, hm1, hm2, hown⟩ := HL.out
      have d1 : wr.cell? ⟨w.heap.size, 0, none⟩ = some (.pointer (some ⟨g, 0, none⟩)) := hbk.cell 0
      have HS := Lib.hid hsl
      have HR := Lib.hid hrd
      have HV := Lib.hid (And.intro hmv hbk)
      have HE := Lib.hid (And.intro hlk (And.intro hm1 (And.intro hm2 hown)))
      clear HL hlk hsl hrd hmv hbk hm1 hm2 hown
      rcases Nat.lt_or_ge k N with hlt | hge
      · have ki : (k : Int) < N := by omega
        cases b
        · have hq := HF.out (r, false) wr HV.out.1 HR.out
          have hsn := rList_snoc one (N - (k + 1)) (r, false) rfl
          rw [show N - (k + 1) + 1 = N - k by omega] at hsn
          obtain ⟨rs, hrs⟩ : ∃ rs, rs = (one (r, false)).2 := ⟨_, rfl⟩
          obtain ⟨ro, hro⟩ : ∃ ro, ro = (one (r, false)).1 := ⟨_, rfl⟩
          rw [← hrs, ← hro] at hq hsn
          have HQ := Lib.hid hq
          have HSn := Lib.hid hsn
          have hsz := HV.out.1.size
          clear hq hsn hrs hro
          go_wp2_with fail
          refine (rd_bad g _ _ wr HR.out).mono ?_
          rintro e w3 ⟨rfl, rfl⟩
          go_wp2_with fail
          go_at_fn f
          refine HQ.out.mono ?_
          rintro e w4 ⟨r, rfl, har, hok, hr4, hm4⟩
          obtain ⟨o1, f1, hv1, -, -, -⟩ := hok.1.form
          obtain ⟨o2, f2, hv2, -, -, -⟩ := hok.2.form
          obtain ⟨m1, hm1⟩ : ∃ m, m = r.t.cov.length := ⟨_, rfl⟩
          obtain ⟨m2, hm2⟩ : ∃ m, m = r.t.acks.length := ⟨_, rfl⟩
          rw [← hm1] at hv1
          rw [← hm2] at hv2
          have HMl := Lib.hid (And.intro hm1 hm2)
          clear hm1 hm2
          obtain ⟨⟨a0, a1, a2, a5, a6⟩, a3, a4⟩ := r
          dsimp only at hv1 hv2
          subst hv1 hv2
          dsimp only [aTb]
          have hs4 := hm4.sl HS.out H1.out.2.2
          have H4 := Lib.hid (show SlIs w4 w.heap.size 54 5 (.slice ao k c) k (rowCells vTb l) ∧ Rd w4 g rs.1 rs.2 ∧ Moved g w w4 ∧ BlkIs w4 w.heap.size 119 #[.pointer (some ⟨g, 0, none⟩)] from ⟨hs4, hr4, HV.out.1.trans hm4, hm4.blk HV.out.2 (by have := H1.out.2.2; omega)⟩)
          have HA4 := Lib.hid har
          have HK4 := Lib.hid hok
          have HMM := Lib.hid hm4
          clear har hok hr4 hm4 hs4
          go_wp2_with (refine wpList_append_sl rfl _ _ _ 26 (by rfl) el_tb (base := w.heap.size) (.slice ao k c) k (rowCells vTb l) (by rfl) (H4.out.1.alloc _) _ 1 [Value.int .i64 a0, Value.int .i64 a1, Value.string a2, Value.slice o1 m1 f1, Value.slice o2 m2 f2] (by rfl) (SrcIs.own Tryz.underlying26 (SlIs.made (base := 0) (BlkIs.new _ _ _) (Nat.zero_le _) rfl (by decide))) (by intro u hu; simp at hu; rcases hu with rfl | rfl | rfl | rfl | rfl <;> rfl) (by unfold maxLen; omega) (by omega) (by have := H4.out.2.2.1.size; simp; omega) ?_)
          intro v5 w5 hs5 hg5 hat5
          obtain ⟨ao5, c5, rfl, -, -, -⟩ := hs5.form
          have hown5 : ∀ j, (Value.slice ao k c).ownBlock = some j → w.heap.size ≤ j := fun j hj => (H4.out.1.lt j hj).1
          have hgb : some w.heap.size ≠ (Value.slice ao k c).ownBlock := fun e => (H4.out.1.alloc (.cells #[Value.int .i64 a0, Value.int .i64 a1, Value.string a2, Value.slice o1 m1 f1, Value.slice o2 m2 f2] 54)).ne_blk (H4.out.2.2.2.alloc (.cells #[Value.int .i64 a0, Value.int .i64 a1, Value.string a2, Value.slice o1 m1 f1, Value.slice o2 m2 f2] 54)) (by decide) e.symm
          have hrow : rowCells vTb l ++ [Value.int .i64 a0, Value.int .i64 a1, Value.string a2, Value.slice o1 m1 f1, Value.slice o2 m2 f2] = rowCells vTb (l ++ [⟨⟨a0, a1, a2, a5, a6⟩, .slice o1 m1 f1, .slice o2 m2 f2⟩]) := by rw [rowCells_app, rowCells_one]; rfl
          rw [hrow] at hs5
          have H5 := Lib.hid (show SlIs w5 w.heap.size 54 5 (.slice ao5 (k + 1) c5) (k + 1) (rowCells vTb (l ++ [⟨⟨a0, a1, a2, a5, a6⟩, .slice o1 m1 f1, .slice o2 m2 f2⟩])) ∧ Rd w5 g rs.1 rs.2 ∧ Moved g w w5 ∧ BlkIs w5 w.heap.size 119 #[.pointer (some ⟨g, 0, none⟩)] from
            ⟨hs5, BlkIs.grown (BlkIs.alloc H4.out.2.1 _) hg5 (fun e => by have := hown5 g e.symm; have := H1.out.2.2; omega), moved_row (H4.out.2.2.1.alloc _) hg5 hown5, (H4.out.2.2.2.alloc _).grown hg5 hgb⟩)
          have HO5 := Lib.hid (show ∀ z ∈ l ++ [(⟨⟨a0, a1, a2, a5, a6⟩, .slice o1 m1 f1, .slice o2 m2 f2⟩ : TbR)], TbR.Own w.heap.size w5 z from fun z hz => by
            have hz4 : z.Own w.heap.size w4 := by
              rcases List.mem_append.1 hz with hz | hz
              · exact (HE.out.2.2.2 z hz).moved HMM.out H1.out.2.2
              · rcases List.mem_singleton.1 hz with rfl; exact HK4.out
            have hz5 := hz4.later ((Below.refl w4.heap.size w4).alloc (Nat.le_refl _) (.cells #[Value.int .i64 a0, Value.int .i64 a1, Value.string a2, Value.slice o1 m1 f1, Value.slice o2 m2 f2] 54))
            exact ⟨hz5.1.kept hg5 (sl_apart hz5.1 (H4.out.1.alloc _) (by decide)), hz5.2.kept hg5 (sl_apart hz5.2 (H4.out.1.alloc _) (by decide))⟩)
          clear hs5 hg5 hat5 hown5 hgb hrow
          go_wp2_with fail
          refine ⟨⟨k + 1, c5, ao5, rs.2, rs.1, rfl, by simp, by omega, Lib.hid ⟨l ++ [⟨⟨a0, a1, a2, a5, a6⟩, .slice o1 m1 f1, .slice o2 m2 f2⟩], by simp [HE.out.1], H5.out.1, H5.out.2.1, H5.out.2.2.1, H5.out.2.2.2, ?_, ?_, HO5.out⟩⟩, by simp [intOf]; omega⟩
          · rw [HE.out.2.1, HSn.out.1, List.map_append, List.append_assoc, ← HA4.out]
            rfl
          · rw [HE.out.2.2.1, HSn.out.2]
        · have hrb := rList_bad one (N - k) (r, true) rfl
          have HRb := Lib.hid hrb
          clear hrb
          go_wp2_with fail
          refine (rd_bad g _ _ wr HR.out).mono ?_
          rintro e w3 ⟨rfl, rfl⟩
          go_wp2_with fail
          go_ret
          exact ⟨_, l, rfl, by rw [HE.out.1]; exact HS.out, by rw [HE.out.2.1, HRb.out, List.append_nil], by rw [HE.out.2.2.1, HRb.out]; exact HR.out, HV.out.1, HE.out.2.2.2⟩
      · have ki : decide (k < N) = false := decide_eq_false (by omega)
        obtain rfl : N = k := by omega
        have hrb : rList one (N - N) (r, b) = ([], (r, b)) := by rw [Nat.sub_self]; rfl
        have HRb := Lib.hid hrb
        clear hrb
        go_wp2_with fail
        go_ret
        exact ⟨_, l, rfl, by rw [HE.out.1]; exact HS.out, by rw [HE.out.2.1, HRb.out, List.append_nil], by rw [HE.out.2.2.1, HRb.out]; exact HR.out, HV.out.1, HE.out.2.2.2⟩
theorem el_int : ElemOk Tryz.prog 52 3 1 8 := ElemOk.mk' (z := .int .i64 0) Tryz.underlying52 (by kernel_rfl) rfl
/-- Where the going stands: the things read so far, what is to come. -/
def LSt_int (g : Nat) (w : World) (most : Int) (one : RS → Int × RS) (s : RS) (N k : Nat) (v : Value) (W : World) (sk : RS) : Prop :=
  ∃ l : List Int, l.length = k ∧ SlIs W w.heap.size 3 1 v k (rowCells vInt l) ∧ Rd W g sk.1 sk.2 ∧ Moved g w W ∧ BlkIs W w.heap.size 119 #[.pointer (some ⟨g, 0, none⟩)] ∧
    (rMany one most s).1 = l.map (fun x : Int => x) ++ (rList one (N - k) sk).1 ∧ (rMany one most s).2 = (rList one (N - k) sk).2 ∧ True
/-- What list leaves. -/
def LOut_int (g : Nat) (w : World) (most : Int) (one : RS → Int × RS) (s : RS) (e : Ending) (W : World) : Prop :=
  ∃ (v : Value) (l : List Int), e = .returned v ∧ SlIs W w.heap.size 3 1 v l.length (rowCells vInt l) ∧ l.map (fun x : Int => x) = (rMany one most s).1 ∧ Rd W g (rMany one most s).2.1 (rMany one most s).2.2 ∧ Moved g w W ∧ True
set_option maxRecDepth 100000 in
set_option maxHeartbeats 4000000 in
theorem list_int (g : Nat) (s : RS) (most : Int) (f : Nat) (pre lb : Array Value) (one : RS → Int × RS) (w : World) (h : Rd w g s.1 s.2) (h0 : 0 ≤ most) (h1 : most ≤ 1000) (hf : OneOk f pre lb aInt (fun x : Int => x) (fun _ _ => True) one g w) :
    Calls Tryz.prog 148 #[.agg #[.pointer (some ⟨g, 0, none⟩)], .int .i64 most, .func (.func f) pre lb] w fun e w' => LOut_int g w most one s e w' := by
  have hgl := h.lt
  obtain ⟨W1, hW1⟩ : ∃ W1, W1 = w.alloc (.cells #[.pointer (some ⟨g, 0, none⟩)] 119) := ⟨_, rfl⟩
  have hb : Below w.heap.size w W1 := by rw [hW1]; exact (Below.refl _ _).alloc (Nat.le_refl _) _
  have k1 : BlkIs W1 w.heap.size 119 #[.pointer (some ⟨g, 0, none⟩)] := by rw [hW1]; exact BlkIs.new _ _ _
  have NN := rd_num g s.1 s.2 W1 (BlkIs.below h hb hgl)
  have hlt := rNum_lt s
  have hMany : (rMany one most s).1 = (rList one (rNum s).1.toNat (if most < (rNum s).1 then spoilt else (rNum s).2)).1 ∧ (rMany one most s).2 = (rList one (rNum s).1.toNat (if most < (rNum s).1 then spoilt else (rNum s).2)).2 := ⟨rfl, rfl⟩
  obtain ⟨N, s1, hq⟩ : ∃ (N : Nat) (s1 : RS), rNum s = ((N : Int), s1) := by
    obtain ⟨N, hN⟩ := Int.eq_ofNat_of_zero_le hlt.1
    exact ⟨N, (rNum s).2, Prod.ext hN rfl⟩
  rw [rNum_val s, show (takeR s.1 s.2 4).2 = (rNum s).2 from rfl, hq] at NN
  rw [hq] at hMany hlt
  dsimp only at hMany hlt NN
  rw [Int.toNat_natCast] at hMany
  have NN := Lib.hid NN
  have HW := Lib.hid hW1
  have H1 := Lib.hid (And.intro k1 (And.intro (Moved.of_below (g := g) hb) hgl))
  have HF := Lib.hid hf.2
  have eg := hf.1
  have HM := Lib.hid hMany
  have d0 : W1.cell? ⟨w.heap.size, 0, none⟩ = some (.pointer (some ⟨g, 0, none⟩)) := k1.cell 0
  have hw : IntKind.i64.wrap (N : Int) = (N : Int) := IntWalk.i64_in _ (by omega)
  have hN2 : N < 4294967296 := by omega
  clear h hW1 hb k1 hlt hMany hq hf
  go_enter Tryz.func148, Tryz.ntmps148
  go_wp2_with fail
  rw [← HW.out]
  refine NN.out.mono ?_
  rintro e w2 ⟨rfl, h2, hm2⟩
  have H2 := Lib.hid (show BlkIs w2 w.heap.size 119 #[.pointer (some ⟨g, 0, none⟩)] ∧ Moved g w w2 ∧ Rd w2 g s1.1 s1.2 from ⟨hm2.blk H1.out.1 (by have := H1.out.2.2; omega), H1.out.2.1.trans hm2, h2⟩)
  have e0 : w2.cell? ⟨w.heap.size, 0, none⟩ = some (.pointer (some ⟨g, 0, none⟩)) := H2.out.1.cell 0
  clear NN h2 hm2 d0
  by_cases hc : most < (N : Int)
  · rw [if_pos hc] at HM
    have hrb := rList_bad one N spoilt rfl
    rw [hrb] at HM
    have z0 : decide (most < (N : Int)) = true := decide_eq_true hc
    have z1 : (0 : Int) < N := by omega
    have z2 : decide (0 < N) = true := decide_eq_true (by omega)
    clear hrb hc
    go_wp2_with fail
    refine (rd_spoil g _ _ w2 H2.out.2.2).mono ?_
    rintro e w3 ⟨rfl, h3, hm3⟩
    have H3 := Lib.hid (show BlkIs w3 w.heap.size 119 #[.pointer (some ⟨g, 0, none⟩)] ∧ Moved g w w3 ∧ Rd w3 g ⟨#[]⟩ true from ⟨hm3.blk H2.out.1 (by have := H1.out.2.2; omega), H2.out.2.1.trans hm3, h3⟩)
    have e3 : w3.cell? ⟨w.heap.size, 0, none⟩ = some (.pointer (some ⟨g, 0, none⟩)) := H3.out.1.cell 0
    clear h3 hm3 e0
    go_wp2_with fail
    go_loopw [8, 9] (fun o i wr => o = .slice none 0 0 ∧ i = .int .i64 0 ∧ w3 = wr) (fun _ _ _ => 0)
    case atStart => exact ⟨rfl, rfl, rfl⟩
    case round =>
      obtain ⟨rfl, rfl, rfl⟩ := hrel
      go_wp2_with fail
      refine (rd_bad g _ _ w3 H3.out.2.2).mono ?_
      rintro e w4 ⟨rfl, rfl⟩
      go_wp2_with fail
      go_ret
      refine ⟨_, [], rfl, SlIs.nil_ _ _ _ _, by rw [HM.out.1]; rfl, by rw [HM.out.2]; exact H3.out.2.2, H3.out.2.1, ?_⟩
      trivial
  · rw [if_neg hc] at HM
    have z0 : decide (most < (N : Int)) = false := decide_eq_false hc
    have hN : N ≤ 1000 := by omega
    clear hc
    go_wp2_with fail
    go_loopw [8, 9] (fun o i wr => ∃ (k c : Nat) (ao : Option Addr) (b : Bool) (r : ByteArray), o = .slice ao k c ∧ i = .int .i64 (k : Int) ∧ k ≤ N ∧ Hid (LSt_int g w most one s N k (.slice ao k c) wr (r, b))) (fun _ i _ => N - (intOf i).toNat)
    case atStart => exact ⟨0, 0, none, s1.2, s1.1, rfl, rfl, Nat.zero_le _, Lib.hid ⟨[], rfl, SlIs.nil_ _ _ _ _, H2.out.2.2, H2.out.2.1, H2.out.1, HM.out.1, HM.out.2, trivial⟩⟩
    case round =>
      obtain ⟨k, c, ao, b, r, rfl, rfl, hkN, HL⟩ := hrel
      clear e0
      obtain ⟨l, hlk, hsl, hrd, hmv, hbk, hm1, hm2, hown⟩ := HL.out
      have d1 : wr.cell? ⟨w.heap.size, 0, none⟩ = some (.pointer (some ⟨g, 0, none⟩)) := hbk.cell 0
      have HS := Lib.hid hsl
      have HR := Lib.hid hrd
      have HV := Lib.hid (And.intro hmv hbk)
      have HE := Lib.hid (And.intro hlk (And.intro hm1 (And.intro hm2 hown)))
      clear HL hlk hsl hrd hmv hbk hm1 hm2 hown
      rcases Nat.lt_or_ge k N with hlt | hge
      · have ki : (k : Int) < N := by omega
        cases b
        · have hq := HF.out (r, false) wr HV.out.1 HR.out
          have hsn := rList_snoc one (N - (k + 1)) (r, false) rfl
          rw [show N - (k + 1) + 1 = N - k by omega] at hsn
          obtain ⟨rs, hrs⟩ : ∃ rs, rs = (one (r, false)).2 := ⟨_, rfl⟩
          obtain ⟨ro, hro⟩ : ∃ ro, ro = (one (r, false)).1 := ⟨_, rfl⟩
          rw [← hrs, ← hro] at hq hsn
          have HQ := Lib.hid hq
          have HSn := Lib.hid hsn
          have hsz := HV.out.1.size
          clear hq hsn hrs hro
          go_wp2_with fail
          refine (rd_bad g _ _ wr HR.out).mono ?_
          rintro e w3 ⟨rfl, rfl⟩
          go_wp2_with fail
          go_at_fn f
          refine HQ.out.mono ?_
          rintro e w4 ⟨a0, rfl, har, hok, hr4, hm4⟩
          dsimp only [aInt]
          have hs4 := hm4.sl HS.out H1.out.2.2
          have H4 := Lib.hid (show SlIs w4 w.heap.size 3 1 (.slice ao k c) k (rowCells vInt l) ∧ Rd w4 g rs.1 rs.2 ∧ Moved g w w4 ∧ BlkIs w4 w.heap.size 119 #[.pointer (some ⟨g, 0, none⟩)] from ⟨hs4, hr4, HV.out.1.trans hm4, hm4.blk HV.out.2 (by have := H1.out.2.2; omega)⟩)
          have HA4 := Lib.hid har
          have HK4 := Lib.hid hok
          have HMM := Lib.hid hm4
          clear har hok hr4 hm4 hs4
          go_wp2_with (refine wpList_append_sl rfl _ _ _ 52 (by rfl) el_int (base := w.heap.size) (.slice ao k c) k (rowCells vInt l) (by rfl) (H4.out.1.alloc _) _ 1 [Value.int .i64 a0] (by rfl) (SrcIs.own Tryz.underlying52 (SlIs.made (base := 0) (BlkIs.new _ _ _) (Nat.zero_le _) rfl (by decide))) (by intro u hu; simp at hu; rcases hu with rfl <;> rfl) (by unfold maxLen; omega) (by omega) (by have := H4.out.2.2.1.size; simp; omega) ?_)
          intro v5 w5 hs5 hg5 hat5
          obtain ⟨ao5, c5, rfl, -, -, -⟩ := hs5.form
          have hown5 : ∀ j, (Value.slice ao k c).ownBlock = some j → w.heap.size ≤ j := fun j hj => (H4.out.1.lt j hj).1
          have hgb : some w.heap.size ≠ (Value.slice ao k c).ownBlock := fun e => (H4.out.1.alloc (.cells #[Value.int .i64 a0] 3)).ne_blk (H4.out.2.2.2.alloc (.cells #[Value.int .i64 a0] 3)) (by decide) e.symm
          have hrow : rowCells vInt l ++ [Value.int .i64 a0] = rowCells vInt (l ++ [a0]) := by rw [rowCells_app, rowCells_one]; rfl
          rw [hrow] at hs5
          have H5 := Lib.hid (show SlIs w5 w.heap.size 3 1 (.slice ao5 (k + 1) c5) (k + 1) (rowCells vInt (l ++ [a0])) ∧ Rd w5 g rs.1 rs.2 ∧ Moved g w w5 ∧ BlkIs w5 w.heap.size 119 #[.pointer (some ⟨g, 0, none⟩)] from
            ⟨hs5, BlkIs.grown (BlkIs.alloc H4.out.2.1 _) hg5 (fun e => by have := hown5 g e.symm; have := H1.out.2.2; omega), moved_row (H4.out.2.2.1.alloc _) hg5 hown5, (H4.out.2.2.2.alloc _).grown hg5 hgb⟩)
          clear hs5 hg5 hat5 hown5 hgb hrow
          go_wp2_with fail
          refine ⟨⟨k + 1, c5, ao5, rs.2, rs.1, rfl, by simp, by omega, Lib.hid ⟨l ++ [a0], by simp [HE.out.1], H5.out.1, H5.out.2.1, H5.out.2.2.1, H5.out.2.2.2, ?_, ?_, trivial⟩⟩, by simp [intOf]; omega⟩
          · rw [HE.out.2.1, HSn.out.1, List.map_append, List.append_assoc, ← HA4.out]
            rfl
          · rw [HE.out.2.2.1, HSn.out.2]
        · have hrb := rList_bad one (N - k) (r, true) rfl
          have HRb := Lib.hid hrb
          clear hrb
          go_wp2_with fail
          refine (rd_bad g _ _ wr HR.out).mono ?_
          rintro e w3 ⟨rfl, rfl⟩
          go_wp2_with fail
          go_ret
          exact ⟨_, l, rfl, by rw [HE.out.1]; exact HS.out, by rw [HE.out.2.1, HRb.out, List.append_nil], by rw [HE.out.2.2.1, HRb.out]; exact HR.out, HV.out.1, trivial⟩
      · have ki : decide (k < N) = false := decide_eq_false (by omega)
        obtain rfl : N = k := by omega
        have hrb : rList one (N - N) (r, b) = ([], (r, b)) := by rw [Nat.sub_self]; rfl
        have HRb := Lib.hid hrb
        clear hrb
        go_wp2_with fail
        go_ret
        exact ⟨_, l, rfl, by rw [HE.out.1]; exact HS.out, by rw [HE.out.2.1, HRb.out, List.append_nil], by rw [HE.out.2.2.1, HRb.out]; exact HR.out, HV.out.1, trivial⟩
end Go.Proofs.YtljenganlknhbaaGreat.Mk

