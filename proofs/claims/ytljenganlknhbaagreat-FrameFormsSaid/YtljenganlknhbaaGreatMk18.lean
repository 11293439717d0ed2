/- mark.reader.tomb, walked. (Layer 12.) -/
import Derived.Test.YtljenganlknhbaaGreatMk17
import Derived.Deep.RegionHeld3
import Derived.Deep.RegionHeld
namespace Go.Proofs.YtljenganlknhbaaGreat.Mk
set_option linter.unusedVariables false
open Go.RowKit Oct
theorem St.al {w : World} {g : Nat} {s : RS} {B : Nat} {t : TypeId} {cs : Array Value} {B2 : Nat} {t2 : TypeId} {cs2 : Array Value} {W : World} (h : St w g s B t cs B2 t2 cs2 W) (o : Obj) : St w g s B t cs B2 t2 cs2 (W.alloc o) :=
  ⟨BlkIs.alloc h.1 o, h.2.1.alloc o, h.2.2.1.alloc o, h.2.2.2.1.alloc o, h.2.2.2.2⟩
theorem st_n' {w : World} {g : Nat} {s : RS} {B : Nat} {t : TypeId} {cs : Array Value} {B2 : Nat} {t2 : TypeId} {cs2 : Array Value} {W : World} (x : Int) (s' : RS) (hq : rNum s = (x, s')) (h : St w g s B t cs B2 t2 cs2 W) :
    Calls Tryz.prog 146 #[.agg #[.pointer (some ⟨g, 0, none⟩)]] W fun e w' => e = .returned (.int .i64 x) ∧ St w g s' B t cs B2 t2 cs2 w' ∧ (∀ i, w'.cell? ⟨B, i, none⟩ = cs[i]?) ∧ Moved g W w' := by
  have := rd_n g s W h.1
  rw [hq] at this
  refine this.mono ?_
  rintro e w' ⟨he, hr, hm⟩
  exact ⟨he, h.moved hr hm, fun i => (hm.blk h.2.2.1 h.2.2.2.2.1).cell i, hm⟩
theorem st_take' {w : World} {g : Nat} {s : RS} {B : Nat} {t : TypeId} {cs : Array Value} {B2 : Nat} {t2 : TypeId} {cs2 : Array Value} {W : World} (n : Int) (x : ByteArray) (s' : RS) (hq : rTake n s = (x, s')) (h : St w g s B t cs B2 t2 cs2 W) :
    Calls Tryz.prog 44 #[.pointer (some ⟨g, 0, none⟩), .int .i64 n] W fun e w' => e = .returned (.string x) ∧ St w g s' B t cs B2 t2 cs2 w' ∧ (∀ i, w'.cell? ⟨B, i, none⟩ = cs[i]?) ∧ Moved g W w' := by
  have := rd_take g s.1 s.2 n W h.1
  rw [show takeR s.1 s.2 n = (x, s') from hq] at this
  refine this.mono ?_
  rintro e w' ⟨he, hr, hm⟩
  exact ⟨he, h.moved hr hm, fun i => (hm.blk h.2.2.1 h.2.2.2.2.1).cell i, hm⟩
theorem sl_far5 {w : World} {base : Nat} {e : TypeId} {k : Nat} {v : Value} {n : Nat} {xs : List Value} (h : SlIs w base e k v n xs) {g : Nat} (hg : v.ownBlock ≠ some g) (a b c d f : Value) :
    SlIs (((((w.setCell ⟨g, 0, none⟩ a).setCell ⟨g, 1, none⟩ b).setCell ⟨g, 2, none⟩ c).setCell ⟨g, 3, none⟩ d).setCell ⟨g, 4, none⟩ f) base e k v n xs :=
  ((((h.far (p := ⟨g, 0, none⟩) hg a).far (p := ⟨g, 1, none⟩) hg b).far (p := ⟨g, 2, none⟩) hg c).far (p := ⟨g, 3, none⟩) hg d).far (p := ⟨g, 4, none⟩) hg f
/-- Behind the statement that lays the tomb. -/
def TombMid (g : Nat) (s3 : RS) (x1 x2 : Int) (x3 : ByteArray) (w : World) : Exit → Act → World → Prop
  | .normal, a, W => ∃ (T : Nat) (u4 u5 u6 u7 u8 u9 u10 u11 : Value), a = { tmps := #[.agg #[.pointer (some ⟨g, 0, none⟩)], .pointer (some ⟨w.heap.size, 0, none⟩), .pointer (some ⟨w.heap.size + 1, 0, none⟩), .pointer (some ⟨T, 0, none⟩), u4, u5, u6, u7, u8, u9, u10, u11, undef, undef, undef, undef, undef, undef, undef, undef, undef, undef], defers := [] } ∧
      w.heap.size + 2 ≤ T ∧ St w g s3 w.heap.size 119 #[.pointer (some ⟨g, 0, none⟩)] (w.heap.size + 1) 54 #[.int .i64 0, .int .i64 0, .string ⟨#[]⟩, .slice none 0 0, .slice none 0 0] W ∧
      BlkIs W T 54 #[.int .i64 x1, .int .i64 x2, .string x3, .slice none 0 0, .slice none 0 0]
  | _, _, _ => False
theorem St.far {w : World} {g : Nat} {s : RS} {B : Nat} {t : TypeId} {cs : Array Value} {B2 : Nat} {t2 : TypeId} {cs2 : Array Value} {W : World} (h : St w g s B t cs B2 t2 cs2 W) {p : Addr} (h1 : g ≠ p.block) (h2 : B ≠ p.block) (h3 : B2 ≠ p.block) (hw : w.heap.size ≤ p.block) (v : Value) :
    St w g s B t cs B2 t2 cs2 (W.setCell p v) := by
  obtain ⟨k1, k2, k3, k4, k5, k6⟩ := h
  refine ⟨BlkIs.far k1 h1 v, ?_, k3.far h2 v, k4.far h3 v, k5, k6⟩
  exact ⟨k2.os, k2.tape, k2.output, by simpa using k2.size, fun k hk hne => (Below.heap_setCell W p v k (by omega)).trans (k2.block k hk hne)⟩
theorem tomb_leaf {g : Nat} {s3 : RS} {x1 x2 : Int} {x3 : ByteArray} {w W : World} {T : Nat} {u4 u5 u6 u7 u8 u9 u10 u11 : Value} (hg : g < w.heap.size) (hT : w.heap.size + 2 ≤ T)
    (h : St w g s3 w.heap.size 119 #[.pointer (some ⟨g, 0, none⟩)] (w.heap.size + 1) 54 #[.int .i64 0, .int .i64 0, .string ⟨#[]⟩, .slice none 0 0, .slice none 0 0] W) (hB : BlkIs W T 54 #[.int .i64 0, .int .i64 0, .string ⟨#[]⟩, .slice none 0 0, .slice none 0 0]) :
    TombMid g s3 x1 x2 x3 w .normal { tmps := #[.agg #[.pointer (some ⟨g, 0, none⟩)], .pointer (some ⟨w.heap.size, 0, none⟩), .pointer (some ⟨w.heap.size + 1, 0, none⟩), .pointer (some ⟨T, 0, none⟩), u4, u5, u6, u7, u8, u9, u10, u11, undef, undef, undef, undef, undef, undef, undef, undef, undef, undef], defers := [] }
      (((((W.setCell ⟨T, 0, none⟩ (.int .i64 x1)).setCell ⟨T, 1, none⟩ (.int .i64 x2)).setCell ⟨T, 2, none⟩ (.string x3)).setCell ⟨T, 3, none⟩ (.slice none 0 0)).setCell ⟨T, 4, none⟩ (.slice none 0 0)) := by
  have e1 : g ≠ T := by omega
  have e2 : w.heap.size ≠ T := by omega
  have e3 : w.heap.size + 1 ≠ T := by omega
  have e4 : w.heap.size ≤ T := by omega
  refine ⟨T, _, _, _, _, _, _, _, _, rfl, hT, ?_, (((((hB.put 0 _).put 1 _).put 2 _).put 3 _).put 4 _)⟩
  exact ((((h.far (p := ⟨T, 0, none⟩) e1 e2 e3 e4 _).far (p := ⟨T, 1, none⟩) e1 e2 e3 e4 _).far (p := ⟨T, 2, none⟩) e1 e2 e3 e4 _).far (p := ⟨T, 3, none⟩) e1 e2 e3 e4 _).far (p := ⟨T, 4, none⟩) e1 e2 e3 e4 _
set_option maxRecDepth 100000 in
set_option maxHeartbeats 2000000 in
theorem rd_tomb (g : Nat) (s : RS) (w : World) (h : Rd w g s.1 s.2) : Calls Tryz.prog 110 #[.agg #[.pointer (some ⟨g, 0, none⟩)]] w fun e w' => ∃ r : TbR, e = .returned (aTb r) ∧ r.t = (rTb s).1 ∧ r.Own w.heap.size w' ∧ Rd w' g (rTb s).2.1 (rTb s).2.2 ∧ Moved g w w' := by
  have hgl := h.lt
  obtain ⟨x1, s1, hq1⟩ : ∃ x s', rNum s = (x, s') := ⟨_, _, rfl⟩
  obtain ⟨x2, s2, hq2⟩ : ∃ x s', rNum s1 = (x, s') := ⟨_, _, rfl⟩
  obtain ⟨x3, s3, hq3⟩ : ∃ x s', rTake 32 s2 = (x, s') := ⟨_, _, rfl⟩
  have hq : rTok s = (⟨x1, x2, x3⟩, s3) := by unfold rTok; simp only [hq1, hq2, hq3]
  obtain ⟨W1, hW1⟩ : ∃ W1, W1 = (w.alloc (.cells #[.pointer (some ⟨g, 0, none⟩)] 119)).alloc (.cells #[.int .i64 0, .int .i64 0, .string ⟨#[]⟩, .slice none 0 0, .slice none 0 0] 54) := ⟨_, rfl⟩
  have hb : Below w.heap.size w W1 := by rw [hW1]; exact ((Below.refl _ _).alloc (Nat.le_refl _) _).alloc (by simp) _
  have k1 : BlkIs W1 w.heap.size 119 #[.pointer (some ⟨g, 0, none⟩)] := by rw [hW1]; exact (BlkIs.new _ _ _).alloc _
  have k2 : BlkIs W1 (w.heap.size + 1) 54 #[.int .i64 0, .int .i64 0, .string ⟨#[]⟩, .slice none 0 0, .slice none 0 0] := by rw [hW1]; exact BlkIs.new2 _ _ _ _
  have HW := Lib.hid hW1
  have H1 := Lib.hid (show St w g s w.heap.size 119 #[.pointer (some ⟨g, 0, none⟩)] (w.heap.size + 1) 54 #[.int .i64 0, .int .i64 0, .string ⟨#[]⟩, .slice none 0 0, .slice none 0 0] W1 from ⟨BlkIs.below h hb hgl, Moved.of_below hb, k1, k2, by omega, by omega⟩)
  have Q1 := Lib.hid hq1
  have Q2 := Lib.hid hq2
  have Q3 := Lib.hid hq3
  have d0 : W1.cell? ⟨w.heap.size, 0, none⟩ = some (.pointer (some ⟨g, 0, none⟩)) := k1.cell 0
  have nW : W1.heap.size ≠ w.heap.size := Nat.ne_of_gt k1.lt
  have HG := Lib.hid hgl
  have HQ := Lib.hid hq
  clear hW1 hb k1 k2 h hgl hq hq1 hq2 hq3
  go_enter Tryz.func110, Tryz.ntmps110
  go_wp2_with fail
  rw [← HW.out]
  refine Code.wp_mono (Q := TombMid g s3 x1 x2 x3 w) ?_ ?_
  · intro e a W hM
    cases e
    case normal =>
      obtain ⟨T, u4, u5, u6, u7, u8, u9, u10, u11, rfl, hT, HS, HB⟩ := hM
      have d1 : W.cell? ⟨w.heap.size, 0, none⟩ = some (.pointer (some ⟨g, 0, none⟩)) := HS.2.2.1.cell 0
      have HS := Lib.hid HS
      have HB := Lib.hid HB
      have HT := Lib.hid hT
      clear hT d0 nW
      have nT : T ≠ w.heap.size := by have := HT.out; omega
      have nT' : w.heap.size ≠ T := by have := HT.out; omega
      have nR : T ≠ w.heap.size + 1 := by have := HT.out; omega
      have nR' : w.heap.size + 1 ≠ T := by have := HT.out; omega
      have nB : w.heap.size ≠ w.heap.size + 1 := by omega
      go_wp2_with fail
      have OK1 : OneOk 147 #[] #[.pointer (some ⟨w.heap.size, 0, none⟩), .pointer (some ⟨T, 0, none⟩)] aTok (fun x : Tok => x) (fun _ _ => True) (rCov x3) g W :=
        ⟨fun _ _ => rfl, fun s V hm hr => (rd_cov g w.heap.size T s x3 x1 x2 _ _ V hr (hm.blk HS.out.2.2.1 (Nat.ne_of_gt HG.out)) (hm.blk HB.out (by have := HG.out; have := HT.out; omega))).mono fun e V' h => ⟨_, h.1, rfl, trivial, h.2.1, h.2.2⟩⟩
      refine (list_tok g s3 256 _ _ _ (rCov x3) W HS.out.1 (by decide) (by decide) OK1).mono ?_
      rintro e W2 ⟨v, l1, rfl, hs1, hl1, hr1, hm1, -⟩
      clear OK1
      obtain ⟨o1, f1, rfl, -, -, -⟩ := hs1.form
      obtain ⟨m1, hml1⟩ : ∃ m, m = l1.length := ⟨_, rfl⟩
      rw [← hml1] at hs1 ⊢
      have hB2 : BlkIs W2 T 54 #[.int .i64 x1, .int .i64 x2, .string x3, .slice none 0 0, .slice none 0 0] := hm1.blk HB.out (by have := HG.out; have := HT.out; omega)
      have hS2 : St w g (rMany (rCov x3) 256 s3).2 w.heap.size 119 #[.pointer (some ⟨g, 0, none⟩)] (w.heap.size + 1) 54 #[.int .i64 0, .int .i64 0, .string ⟨#[]⟩, .slice none 0 0, .slice none 0 0] W2 := HS.out.moved hr1 hm1
      have d2 : W2.cell? ⟨w.heap.size, 0, none⟩ = some (.pointer (some ⟨g, 0, none⟩)) := hS2.2.2.1.cell 0
      have e23 : W2.cell? ⟨T, 3, none⟩ = some (.slice none 0 0) := hB2.cell 3
      have f23 : W2.frozen? ⟨T, 3, none⟩ = false := hB2.free 3
      have hB3 := hB2.put 3 (.slice o1 m1 f1)
      have hS3 := hS2.far (p := ⟨T, 3, none⟩) (by have := HG.out; show g ≠ T; have := HT.out; omega) nT' nR' (by show w.heap.size ≤ T; have := HT.out; omega) (.slice o1 m1 f1)
      have hs3 := hs1.far (p := ⟨T, 3, none⟩) (fun e => by have := (hs1.lt T e).1; have := HB.out.lt; omega) (.slice o1 m1 f1)
      have W3H := Lib.hid (And.intro hB3 (And.intro hS3 (hs3.mono (base' := w.heap.size) (by have := HS.out.2.1.size; omega))))
      have HL1 := Lib.hid (And.intro hl1 hml1)
      clear hs1 hl1 hr1 hm1 hml1 hB2 hS2 hB3 hS3 hs3 d1
      go_wp2_with fail
      obtain ⟨W3, hW3⟩ : ∃ W3, W3 = W2.setCell ⟨T, 3, none⟩ (.slice o1 m1 f1) := ⟨_, rfl⟩
      rw [← hW3] at W3H ⊢
      clear hW3
      have OK2 : OneOk 146 #[.agg #[.pointer (some ⟨g, 0, none⟩)]] #[] aInt (fun x : Int => x) (fun _ _ => True) rNum g W3 :=
        ⟨fun _ _ => rfl, fun s V hm hr => (rd_n g s V hr).mono fun e V' h => ⟨_, h.1, rfl, trivial, h.2.1, h.2.2⟩⟩
      refine (list_int g (rMany (rCov x3) 256 s3).2 7 _ _ _ rNum W3 W3H.out.2.1.1 (by decide) (by decide) OK2).mono ?_
      rintro e W4 ⟨v, l2, rfl, hs4, hl4, hr4, hm4, -⟩
      clear OK2 d2 e23 f23
      obtain ⟨o2, f2, rfl, -, -, -⟩ := hs4.form
      obtain ⟨m2, hml2⟩ : ∃ m, m = l2.length := ⟨_, rfl⟩
      rw [← hml2] at hs4 ⊢
      have hB4 : BlkIs W4 T 54 #[.int .i64 x1, .int .i64 x2, .string x3, .slice o1 m1 f1, .slice none 0 0] := hm4.blk W3H.out.1 (by have := HG.out; have := HT.out; omega)
      have hS4 := W3H.out.2.1.moved hr4 hm4
      have hR4 := hS4.2.2.2.1
      have hs14 := hm4.sl W3H.out.2.2 HG.out
      have e40 : W4.cell? ⟨T, 0, none⟩ = some (.int .i64 x1) := hB4.cell 0
      have f40 : W4.frozen? ⟨T, 0, none⟩ = false := hB4.free 0
      have e41 : W4.cell? ⟨T, 1, none⟩ = some (.int .i64 x2) := hB4.cell 1
      have f41 : W4.frozen? ⟨T, 1, none⟩ = false := hB4.free 1
      have e42 : W4.cell? ⟨T, 2, none⟩ = some (.string x3) := hB4.cell 2
      have f42 : W4.frozen? ⟨T, 2, none⟩ = false := hB4.free 2
      have e43 : W4.cell? ⟨T, 3, none⟩ = some (.slice o1 m1 f1) := hB4.cell 3
      have f43 : W4.frozen? ⟨T, 3, none⟩ = false := hB4.free 3
      have e44 : W4.cell? ⟨T, 4, none⟩ = some (.slice none 0 0) := hB4.cell 4
      have f44 : W4.frozen? ⟨T, 4, none⟩ = false := hB4.free 4
      have e50 : W4.cell? ⟨(w.heap.size + 1), 0, none⟩ = some (.int .i64 0) := hR4.cell 0
      have f50 : W4.frozen? ⟨(w.heap.size + 1), 0, none⟩ = false := hR4.free 0
      have e51 : W4.cell? ⟨(w.heap.size + 1), 1, none⟩ = some (.int .i64 0) := hR4.cell 1
      have f51 : W4.frozen? ⟨(w.heap.size + 1), 1, none⟩ = false := hR4.free 1
      have e52 : W4.cell? ⟨(w.heap.size + 1), 2, none⟩ = some (.string ⟨#[]⟩) := hR4.cell 2
      have f52 : W4.frozen? ⟨(w.heap.size + 1), 2, none⟩ = false := hR4.free 2
      have e53 : W4.cell? ⟨(w.heap.size + 1), 3, none⟩ = some (.slice none 0 0) := hR4.cell 3
      have f53 : W4.frozen? ⟨(w.heap.size + 1), 3, none⟩ = false := hR4.free 3
      have e54 : W4.cell? ⟨(w.heap.size + 1), 4, none⟩ = some (.slice none 0 0) := hR4.cell 4
      have f54 : W4.frozen? ⟨(w.heap.size + 1), 4, none⟩ = false := hR4.free 4
      have hl4t : T < W3.heap.size := W3H.out.1.lt
      have hs5 := hs4.far (p := ⟨T, 4, none⟩) (fun e => by have := (hs4.lt T e).1; omega) (.slice o2 m2 f2)
      have hs15 := hs14.far (p := ⟨T, 4, none⟩) (hs14.ne_blk hB4 (by decide)) (.slice o2 m2 f2)
      have hS5 := hS4.far (p := ⟨T, 4, none⟩) (by have := HG.out; show g ≠ T; have := HT.out; omega) nT' nR' (by show w.heap.size ≤ T; have := HT.out; omega) (.slice o2 m2 f2)
      have H5 := Lib.hid (And.intro (hs5.mono (base' := w.heap.size) (by have := W3H.out.2.1.2.1.size; omega)) (And.intro hs15 hS5))
      have HL2 := Lib.hid (And.intro hl4 hml2)
      clear hs4 hl4 hr4 hm4 hml2 hB4 hS4 hR4 hs14 hl4t hs5 hs15 hS5
      go_wp2_with fail
      obtain ⟨h51, h52, h5⟩ := H5.out
      have nb1 := h51.ne_blk h5.2.2.2.1 (by decide)
      have nb2 := h52.ne_blk h5.2.2.2.1 (by decide)
      obtain ⟨hl1, hm1⟩ := HL1.out
      obtain ⟨hl2, hm2⟩ := HL2.out
      have hq := HQ.out
      subst hm1 hm2
      have H6 := ((((h5.store nB (Nat.le_succ _) 0 (.int .i64 x1)).store nB (Nat.le_succ _) 1 (.int .i64 x2)).store nB (Nat.le_succ _) 2 (.string x3)).store nB (Nat.le_succ _) 3 (.slice o1 l1.length f1)).store nB (Nat.le_succ _) 4 (.slice o2 l2.length f2)
      refine bodyPost_ret (v := .agg #[.int .i64 x1, .int .i64 x2, .string x3, .slice o1 l1.length f1, .slice o2 l2.length f2]) (by simp [results, Tryz.results110, go_sem, e50, e51, e52, e53, e54]) rfl
        ⟨⟨⟨x1, x2, x3, l1, l2⟩, .slice o1 l1.length f1, .slice o2 l2.length f2⟩, rfl, ?_, ⟨sl_far5 h52 nb2 _ _ _ _ _, sl_far5 h51 nb1 _ _ _ _ _⟩, ?_⟩
      · unfold rTb
        rw [hq]
        simp only [List.map_id'] at hl1 hl2
        show (⟨x1, x2, x3, l1, l2⟩ : Tb) = ⟨x1, x2, x3, _, _⟩
        rw [hl1, hl2]
      · unfold rTb
        rw [hq]
        exact ⟨H6.1, H6.2.1⟩
    all_goals exact hM.elim
  · go_region_held (fun w' => w'.cell? ⟨w.heap.size, 0, none⟩ = some (.pointer (some ⟨g, 0, none⟩))) (go_keep)
      (first
        | (go_at_call 146
           refine (st_n' x1 s1 Q1.out (by first | exact H1.out | exact H1.out.drew | exact H1.out.drew.al _)).mono ?_
           rintro e w4 ⟨rfl, h4, c4, m4⟩
           have H4 := Lib.hid h4
           have n4 : w4.heap.size ≠ w.heap.size := Nat.ne_of_gt h4.2.2.1.lt
           have c4 : w4.cell? ⟨w.heap.size, 0, none⟩ = some (.pointer (some ⟨g, 0, none⟩)) := c4 0
           have z4 : g < W1.heap.size := H1.out.1.lt
           first
             | (have B4 := Lib.hid (show BlkIs w4 W1.heap.size 54 #[.int .i64 0, .int .i64 0, .string ⟨#[]⟩, .slice none 0 0, .slice none 0 0] from m4.blk (BlkIs.new W1.drew _ _) (Nat.ne_of_gt z4)))
             | skip
           clear h4 m4 z4)
        | (go_at_call 146
           refine (st_n' x2 s2 Q2.out (by first | exact H4.out | exact H4.out.al _)).mono ?_
           rintro e w5 ⟨rfl, h5, c5, m5⟩
           have H5 := Lib.hid h5
           have n5 : w5.heap.size ≠ w.heap.size := Nat.ne_of_gt h5.2.2.1.lt
           have c5 : w5.cell? ⟨w.heap.size, 0, none⟩ = some (.pointer (some ⟨g, 0, none⟩)) := c5 0
           have z5 : g < w4.heap.size := H4.out.1.lt
           first
             | (have B5 := Lib.hid (show BlkIs w5 W1.heap.size 54 #[.int .i64 0, .int .i64 0, .string ⟨#[]⟩, .slice none 0 0, .slice none 0 0] from m5.blk B4.out (Nat.ne_of_gt H1.out.1.lt)))
             | (have B5 := Lib.hid (show BlkIs w5 w4.heap.size 54 #[.int .i64 0, .int .i64 0, .string ⟨#[]⟩, .slice none 0 0, .slice none 0 0] from m5.blk (BlkIs.new w4 _ _) (Nat.ne_of_gt z5)))
             | skip
           clear h5 m5 z5)
        | (go_at_call 44
           refine (st_take' 32 x3 s3 Q3.out (by first | exact H5.out | exact H5.out.al _)).mono ?_
           rintro e w6 ⟨rfl, h6, c6, m6⟩
           have H6 := Lib.hid h6
           have n6 : w6.heap.size ≠ w.heap.size := Nat.ne_of_gt h6.2.2.1.lt
           have c6 : w6.cell? ⟨w.heap.size, 0, none⟩ = some (.pointer (some ⟨g, 0, none⟩)) := c6 0
           have z6 : g < w5.heap.size := H5.out.1.lt
           first
             | (have B6 := Lib.hid (show BlkIs w6 W1.heap.size 54 #[.int .i64 0, .int .i64 0, .string ⟨#[]⟩, .slice none 0 0, .slice none 0 0] from m6.blk B5.out (Nat.ne_of_gt H1.out.1.lt))
                have e70 : w6.cell? ⟨W1.heap.size, 0, none⟩ = some (.int .i64 0) := B6.out.cell 0
                have f70 : w6.frozen? ⟨W1.heap.size, 0, none⟩ = false := B6.out.free 0
                have e71 : w6.cell? ⟨W1.heap.size, 1, none⟩ = some (.int .i64 0) := B6.out.cell 1
                have f71 : w6.frozen? ⟨W1.heap.size, 1, none⟩ = false := B6.out.free 1
                have e72 : w6.cell? ⟨W1.heap.size, 2, none⟩ = some (.string ⟨#[]⟩) := B6.out.cell 2
                have f72 : w6.frozen? ⟨W1.heap.size, 2, none⟩ = false := B6.out.free 2
                have e73 : w6.cell? ⟨W1.heap.size, 3, none⟩ = some (.slice none 0 0) := B6.out.cell 3
                have f73 : w6.frozen? ⟨W1.heap.size, 3, none⟩ = false := B6.out.free 3
                have e74 : w6.cell? ⟨W1.heap.size, 4, none⟩ = some (.slice none 0 0) := B6.out.cell 4
                have f74 : w6.frozen? ⟨W1.heap.size, 4, none⟩ = false := B6.out.free 4
                skip)
             | (have B6 := Lib.hid (show BlkIs w6 w4.heap.size 54 #[.int .i64 0, .int .i64 0, .string ⟨#[]⟩, .slice none 0 0, .slice none 0 0] from m6.blk B5.out (Nat.ne_of_gt H4.out.1.lt))
                have e70 : w6.cell? ⟨w4.heap.size, 0, none⟩ = some (.int .i64 0) := B6.out.cell 0
                have f70 : w6.frozen? ⟨w4.heap.size, 0, none⟩ = false := B6.out.free 0
                have e71 : w6.cell? ⟨w4.heap.size, 1, none⟩ = some (.int .i64 0) := B6.out.cell 1
                have f71 : w6.frozen? ⟨w4.heap.size, 1, none⟩ = false := B6.out.free 1
                have e72 : w6.cell? ⟨w4.heap.size, 2, none⟩ = some (.string ⟨#[]⟩) := B6.out.cell 2
                have f72 : w6.frozen? ⟨w4.heap.size, 2, none⟩ = false := B6.out.free 2
                have e73 : w6.cell? ⟨w4.heap.size, 3, none⟩ = some (.slice none 0 0) := B6.out.cell 3
                have f73 : w6.frozen? ⟨w4.heap.size, 3, none⟩ = false := B6.out.free 3
                have e74 : w6.cell? ⟨w4.heap.size, 4, none⟩ = some (.slice none 0 0) := B6.out.cell 4
                have f74 : w6.frozen? ⟨w4.heap.size, 4, none⟩ = false := B6.out.free 4
                skip)
             | (have B6 := Lib.hid (show BlkIs w6 w5.heap.size 54 #[.int .i64 0, .int .i64 0, .string ⟨#[]⟩, .slice none 0 0, .slice none 0 0] from m6.blk (BlkIs.new w5 _ _) (Nat.ne_of_gt z6))
                have e70 : w6.cell? ⟨w5.heap.size, 0, none⟩ = some (.int .i64 0) := B6.out.cell 0
                have f70 : w6.frozen? ⟨w5.heap.size, 0, none⟩ = false := B6.out.free 0
                have e71 : w6.cell? ⟨w5.heap.size, 1, none⟩ = some (.int .i64 0) := B6.out.cell 1
                have f71 : w6.frozen? ⟨w5.heap.size, 1, none⟩ = false := B6.out.free 1
                have e72 : w6.cell? ⟨w5.heap.size, 2, none⟩ = some (.string ⟨#[]⟩) := B6.out.cell 2
                have f72 : w6.frozen? ⟨w5.heap.size, 2, none⟩ = false := B6.out.free 2
                have e73 : w6.cell? ⟨w5.heap.size, 3, none⟩ = some (.slice none 0 0) := B6.out.cell 3
                have f73 : w6.frozen? ⟨w5.heap.size, 3, none⟩ = false := B6.out.free 3
                have e74 : w6.cell? ⟨w5.heap.size, 4, none⟩ = some (.slice none 0 0) := B6.out.cell 4
                have f74 : w6.frozen? ⟨w5.heap.size, 4, none⟩ = false := B6.out.free 4
                skip)
             | skip
           clear h6 m6 z6))
    · exact ⟨_, _, _, _, _, _, _, _, _, rfl, H6.out.2.2.2.1.lt, H6.out.al _, BlkIs.new _ _ _⟩
    · exact tomb_leaf HG.out H5.out.2.2.2.1.lt H6.out B6.out
    · exact tomb_leaf HG.out H4.out.2.2.2.1.lt H6.out B6.out
    · exact tomb_leaf HG.out H1.out.2.2.2.1.lt H6.out B6.out
end Go.Proofs.YtljenganlknhbaaGreat.Mk
