/- merge.Ack, walked. Printed by gen_ack.py. (Layer 13.) -/
import Derived.Test.YtbmknmjcoeinkaaGreatMgD
namespace Go.Proofs.YtbmknmjcoeinkaaGreat.Mg
set_option linter.unusedVariables false
set_option linter.unusedSimpArgs false
open Go.RowKit Go.Lib
open Mk (Rf Tok Tb TbR Mks MkR aMk aTb vRf vTok vTb vInt goodB good_any)
open Set (El)
theorem blk_ne {w : World} {g g' : Nat} {t t' : TypeId} {cs cs' : Array Value} (h : BlkIs w g t cs) (h' : BlkIs w g' t' cs') (hne : t ≠ t') : g ≠ g' := by
  rintro rfl
  unfold BlkIs at h h'
  rw [h] at h'
  injection h' with h'
  injection h' with _ ht
  exact hne ht
theorem blk_five {w : World} {g h : Nat} {t : TypeId} {cs : Array Value} (k : BlkIs w h t cs) (hn : h ≠ g) (c0 c1 c2 c3 c4 : Value) : BlkIs (((((w.setCell ⟨g, 0, none⟩ c0).setCell ⟨g, 1, none⟩ c1).setCell ⟨g, 2, none⟩ c2).setCell ⟨g, 3, none⟩ c3).setCell ⟨g, 4, none⟩ c4) h t cs :=
  ((((k.far hn _).far hn _).far hn _).far hn _).far hn _
/-- What a tomb holds is new. -/
def KeptN (B : Nat) (W : World) (z : TbR) : Prop := SlIs W B 45 3 z.cv z.t.cov.length (rowCells vTok z.t.cov) ∧ SlIs W B 3 1 z.av z.t.acks.length (rowCells vInt z.t.acks)
/-- Where Ack stands. -/
structure AkSt (w wr : World) (B M : Nat) (ms : Array Value) (v1 v2 c3 v3 : Value) (rs : List Rf) (ts : List Tok) (n : Nat) (o : List TbR) : Prop where
  bx : BlkIs wr B 26 ms
  bz : BlkIs wr (B + 1) 26 #[.slice none 0 0, .slice none 0 0, .slice none 0 0]
  bm : BlkIs wr M 26 #[v1, v2, c3]
  s1 : SlIs wr B 49 3 v1 rs.length (rowCells vRf rs)
  s2 : SlIs wr B 45 3 v2 ts.length (rowCells vTok ts)
  s3 : SlIs wr B 43 5 v3 n (rowCells vTb o)
  kept : ∀ z ∈ o, KeptN B wr z
  hb : Below B w wr
  hM : B + 2 ≤ M
  len : n = o.length
section
variable {w wr w' : World} {B M : Nat} {ms : Array Value} {v1 v2 c3 v3 v3' : Value} {rs : List Rf} {ts : List Tok} {n n' : Nat} {o o' : List TbR}
theorem AkSt.later (h : AkSt w wr B M ms v1 v2 c3 v3 rs ts n o) (hb : Below wr.heap.size wr w') : AkSt w w' B M ms v1 v2 c3 v3 rs ts n o :=
  ⟨h.bx.below hb h.bx.lt, h.bz.below hb h.bz.lt, h.bm.below hb h.bm.lt, h.s1.later hb, h.s2.later hb, h.s3.later hb, fun z hz => ⟨(h.kept z hz).1.later hb, (h.kept z hz).2.later hb⟩, h.hb.trans (hb.mono (by have := h.bx.lt; omega)), h.hM, h.len⟩
theorem AkSt.five (h : AkSt w wr B M ms v1 v2 c3 v3 rs ts n o) {g : Nat} {cs : Array Value} (hg : BlkIs wr g 43 cs) (hn : v3.ownBlock ≠ some g) (hB : B ≤ g) (d0 d1 d2 d3 d4 : Value) :
    AkSt w (((((wr.setCell ⟨g, 0, none⟩ d0).setCell ⟨g, 1, none⟩ d1).setCell ⟨g, 2, none⟩ d2).setCell ⟨g, 3, none⟩ d3).setCell ⟨g, 4, none⟩ d4) B M ms v1 v2 c3 v3 rs ts n o :=
  ⟨blk_five h.bx (blk_ne h.bx hg (by decide)) _ _ _ _ _, blk_five h.bz (blk_ne h.bz hg (by decide)) _ _ _ _ _, blk_five h.bm (blk_ne h.bm hg (by decide)) _ _ _ _ _, sl_five h.s1 (h.s1.ne_blk hg (by decide)), sl_five h.s2 (h.s2.ne_blk hg (by decide)), sl_five h.s3 hn,
    fun z hz => ⟨sl_five (h.kept z hz).1 ((h.kept z hz).1.ne_blk hg (by decide)), sl_five (h.kept z hz).2 ((h.kept z hz).2.ne_blk hg (by decide))⟩, ((((h.hb.setCell hB _).setCell hB _).setCell hB _).setCell hB _).setCell hB _, h.hM, h.len⟩
theorem AkSt.grown (h : AkSt w wr B M ms v1 v2 c3 v3 rs ts n o) (hg : wr.grownBy w' v3.ownBlock) (hs : SlIs w' B 43 5 v3' n' (rowCells vTb o')) (hl : n' = o'.length) (hk : ∀ z ∈ o', z ∈ o ∨ KeptN B wr z) : AkSt w w' B M ms v1 v2 c3 v3' rs ts n' o' :=
  ⟨h.bx.grown hg (Ne.symm (h.s3.ne_blk h.bx (by decide))), h.bz.grown hg (Ne.symm (h.s3.ne_blk h.bz (by decide))), h.bm.grown hg (Ne.symm (h.s3.ne_blk h.bm (by decide))), h.s1.kept hg (sl_apart h.s1 h.s3 (by decide)), h.s2.kept hg (sl_apart h.s2 h.s3 (by decide)), hs,
    fun z hz => by
      have k : KeptN B wr z := (hk z hz).elim (h.kept z) id
      exact ⟨k.1.kept hg (sl_apart k.1 h.s3 (by decide)), k.2.kept hg (sl_apart k.2 h.s3 (by decide))⟩, h.hb.grown hg (by have := h.bx.lt; omega) (fun j hj => (h.s3.lt j hj).1), h.hM, hl⟩
theorem AkSt.put (h : AkSt w wr B M ms v1 v2 c3 v3 rs ts n o) {g : Nat} {cs : Array Value} (hg : BlkIs wr g 26 cs) (hB : B ≤ g) (i : Nat) (u : Value) :
    (∀ k (xs : Array Value) (t : TypeId), k ≠ g → BlkIs wr k t xs → BlkIs (wr.setCell ⟨g, i, none⟩ u) k t xs) ∧ SlIs (wr.setCell ⟨g, i, none⟩ u) B 49 3 v1 rs.length (rowCells vRf rs) ∧ SlIs (wr.setCell ⟨g, i, none⟩ u) B 45 3 v2 ts.length (rowCells vTok ts) ∧
      SlIs (wr.setCell ⟨g, i, none⟩ u) B 43 5 v3 n (rowCells vTb o) ∧ (∀ z ∈ o, KeptN B (wr.setCell ⟨g, i, none⟩ u) z) ∧ Below B w (wr.setCell ⟨g, i, none⟩ u) :=
  ⟨fun k xs t hk hx => hx.far (by exact hk) _, h.s1.far (h.s1.ne_blk hg (by decide)) _, h.s2.far (h.s2.ne_blk hg (by decide)) _, h.s3.far (h.s3.ne_blk hg (by decide)) _, fun z hz => ⟨(h.kept z hz).1.far ((h.kept z hz).1.ne_blk hg (by decide)) _, (h.kept z hz).2.far ((h.kept z hz).2.ne_blk hg (by decide)) _⟩, h.hb.setCell hB _⟩
theorem AkSt.putM (h : AkSt w wr B M ms v1 v2 c3 v3 rs ts n o) (u : Value) : AkSt w (wr.setCell ⟨M, 2, none⟩ u) B M ms v1 v2 u v3 rs ts n o := by
  have hM := h.hM
  obtain ⟨p1, p2, p3, p4, p5, p6⟩ := h.put h.bm (by omega) 2 u
  exact ⟨p1 _ _ _ (by omega) h.bx, p1 _ _ _ (by omega) h.bz, h.bm.put 2 _, p2, p3, p4, p5, p6, hM, h.len⟩
/-- What is handed back can be read. -/
theorem AkSt.reads (h : AkSt w wr B M ms v1 v2 c3 v3 rs ts n o) : MkR.Reads wr ⟨rs, ts, o, v1, v2, v3⟩ :=
  ⟨RowAt.of_sl (fun _ => rfl) h.s1, RowAt.of_sl (fun _ => rfl) h.s2, ⟨RowAt.of_sl (base := B) (e := 43) (fun _ => rfl) (by have h1 := h.s3; rwa [h.len] at h1), fun z hz => ⟨RowAt.of_sl (fun _ => rfl) (h.kept z hz).1, RowAt.of_sl (fun _ => rfl) (h.kept z hz).2⟩⟩⟩
end
theorem ack_end (w8 : World) (b : Nat) (cs : Array Value) (hs : cs.size = 3) (tmps : Array Value) (c : Int) (Q : Ending → World → Prop) (h2 : tmps.getD 4 undef = .pointer (some ⟨b, 0, none⟩)) (h3 : tmps.getD 5 undef = .int .i64 c) (k : BlkIs w8 b 26 cs) (hQ : Q (.returned (.tuple #[.agg cs, .int .i64 c])) w8) :
    bodyPost Tryz.prog Tryz.f16 Q Exit.ret ⟨tmps, []⟩ w8 :=
  bodyPost_ret (results_cell_tmp' rfl _ _ b 26 cs (0, 0) _ h2 k Tryz.underlying26 rfl (by rw [hs]; show _ = some 3; kernel_rfl)) rfl (by rw [h3]; exact hQ)
/-- What an ack comes to. -/
def AOut (m : Mks) (node : Int) (m' : Mks) (c : Int) : Prop :=
  (¬ (goodB m = true ∧ 1 ≤ node ∧ node ≤ 7) ∧ m' = Mks.empty ∧ c = 1) ∨ ((goodB m = true ∧ 1 ≤ node ∧ node ≤ 7) ∧ m' = ⟨m.refs, m.toks, m.tombs.map fun t => plus t [node]⟩ ∧ c = 0)
/-- What Ack hands back. -/
def AckOut (m : MkR) (node : Int) (B : Nat) (w w' : World) (e : Ending) : Prop :=
  ∃ m' c, e = .returned (.tuple #[aMk m', .int .i64 c]) ∧ m'.Reads w' ∧ Below B w w' ∧ AOut m.mk_ node m'.mk_ c
/-- Refused. -/
theorem ack_none {m : MkR} {node : Int} {B : Nat} {w w8 : World} (hb : Below B w w8) (hj : ¬ (goodB m.mk_ = true ∧ 1 ≤ node ∧ node ≤ 7)) (hz : BlkIs w8 (B + 1) 26 #[.slice none 0 0, .slice none 0 0, .slice none 0 0]) :
    AckOut m node B w (((w8.setCell ⟨B + 1, 0, none⟩ (.slice none 0 0)).setCell ⟨B + 1, 1, none⟩ (.slice none 0 0)).setCell ⟨B + 1, 2, none⟩ (.slice none 0 0)) (.returned (.tuple #[.agg #[.slice none 0 0, .slice none 0 0, .slice none 0 0], .int .i64 1])) :=
  ⟨mk0, 1, rfl, mk0_reads _, below3 hb (Nat.le_succ B) _ _ _, .inl ⟨hj, rfl, rfl⟩⟩
theorem ack_start {w w6 : World} {B M : Nat} {ms : Array Value} {v1 v2 : Value} {rs : List Rf} {ts : List Tok} (k1 : BlkIs w6 B 26 ms) (k2 : BlkIs w6 (B + 1) 26 #[.slice none 0 0, .slice none 0 0, .slice none 0 0]) (hb : Below B w w6) (hM : B + 2 ≤ M) (s1 : SlIs w6 B 49 3 v1 rs.length (rowCells vRf rs)) (s2 : SlIs w6 B 45 3 v2 ts.length (rowCells vTok ts)) (k3 : BlkIs w6 M 26 #[.slice none 0 0, .slice none 0 0, .slice none 0 0]) :
    AkSt w (((w6.setCell ⟨M, 0, none⟩ v1).setCell ⟨M, 1, none⟩ v2).setCell ⟨M, 2, none⟩ (.slice none 0 0)) B M ms v1 v2 (.slice none 0 0) (.slice none 0 0) rs ts 0 [] := by
  have n1 := s1.ne_blk k3 (by decide)
  have n2 := s2.ne_blk k3 (by decide)
  exact ⟨((k1.far (by show B ≠ M; omega) _).far (by show B ≠ M; omega) _).far (by show B ≠ M; omega) _, ((k2.far (by show B + 1 ≠ M; omega) _).far (by show B + 1 ≠ M; omega) _).far (by show B + 1 ≠ M; omega) _, mk_put _ _ _ k3 ⟨_, _, _, rfl⟩,
    ((s1.far n1 _).far n1 _).far n1 _, ((s2.far n2 _).far n2 _).far n2 _, SlIs.nil_ _ _ _ _, fun z hz => absurd hz (by simp), below3 hb (by omega) _ _ _, hM, rfl⟩
theorem ack_start' {w w6 : World} {B : Nat} {ms : Array Value} {v1 v2 : Value} {rs : List Rf} {ts : List Tok} (k1 : BlkIs w6 B 26 ms) (k2 : BlkIs w6 (B + 1) 26 #[.slice none 0 0, .slice none 0 0, .slice none 0 0]) (hb : Below B w w6) (s1 : SlIs w6 B 49 3 v1 rs.length (rowCells vRf rs)) (s2 : SlIs w6 B 45 3 v2 ts.length (rowCells vTok ts)) :
    AkSt w (w6.alloc (.cells #[v1, v2, .slice none 0 0] 26)) B w6.heap.size ms v1 v2 (.slice none 0 0) (.slice none 0 0) rs ts 0 [] :=
  ⟨k1.alloc _, k2.alloc _, BlkIs.new _ _ _, s1.alloc _, s2.alloc _, SlIs.nil_ _ _ _ _, fun z hz => absurd hz (by simp), hb.alloc (by have := k1.lt; omega) _, by have := k2.lt; omega, rfl⟩
set_option maxRecDepth 100000 in
set_option maxHeartbeats 8000000 in
theorem ack_any (m : MkR) (node : Int) (w : World) (hm : m.Reads w) (hsm : m.Small) : Calls Tryz.prog 16 #[aMk m, .int .i64 node] w fun e w' => AckOut m node w.heap.size w w' e := by
  have HM := Lib.hid hm
  obtain ⟨gm, hgm⟩ : ∃ q, q = goodB m.mk_ := ⟨_, rfl⟩
  have HG := Lib.hid hgm
  have G1 := fun W (hW : Below w.heap.size w W) => good_any m W (HM.out.later hW) hsm.2.2.2
  rw [← hgm] at G1
  have R := fun W (hW : Below w.heap.size w W) => clone_rf m.rv m.refs W (HM.out.1.later hW) hsm.1
  have T := fun W (hW : Below w.heap.size w W) => clone_tok m.kv m.toks W (HM.out.2.1.later hW) hsm.2.1
  obtain ⟨o1, f1, e1, -, -⟩ := hm.1.form
  obtain ⟨o2, f2, e2, -, -⟩ := hm.2.1.form
  obtain ⟨o3, f3, e3, hf3, hfm⟩ := hm.2.2.1.form
  obtain ⟨n1, hn1⟩ : ∃ n, n = m.refs.length := ⟨_, rfl⟩
  obtain ⟨n2, hn2⟩ : ∃ n, n = m.toks.length := ⟨_, rfl⟩
  obtain ⟨n3, hn3⟩ : ∃ n, n = m.tombs.length := ⟨_, rfl⟩
  have h3n : n3 ≤ 1000000 := by rw [hn3]; exact hsm.2.2.1
  rw [← hn1] at e1
  rw [← hn2] at e2
  rw [← hn3] at e3
  have ea : aMk m = .agg #[.slice o1 n1 f1, .slice o2 n2 f2, .slice o3 n3 f3] := by unfold aMk; rw [e1, e2, e3]
  rw [ea] at G1 ⊢
  rw [e1] at R
  rw [e2] at T
  have G1 := Lib.hid G1
  have R := Lib.hid R
  have T := Lib.hid T
  have HR3 := Lib.hid (show RowAt 5 vTb w (.slice o3 n3 f3) m.tombs from by rw [← e3]; exact HM.out.2.2.1)
  have HN := Lib.hid (And.intro hn1 (And.intro hn2 hn3))
  have HE := Lib.hid (And.intro e1 (And.intro e2 e3))
  clear hm hsm ea e1 e2 e3 hn1 hn2 hn3 hgm hf3 hfm
  obtain ⟨B, hB⟩ : ∃ B, B = w.heap.size := ⟨_, rfl⟩
  obtain ⟨W3, hW3⟩ : ∃ W3, W3 = (w.alloc (.cells #[.slice o1 n1 f1, .slice o2 n2 f2, .slice o3 n3 f3] 26)).alloc (.cells #[.slice none 0 0, .slice none 0 0, .slice none 0 0] 26) := ⟨_, rfl⟩
  have K := Lib.hid (show BlkIs W3 B 26 #[.slice o1 n1 f1, .slice o2 n2 f2, .slice o3 n3 f3] ∧ BlkIs W3 (B + 1) 26 #[.slice none 0 0, .slice none 0 0, .slice none 0 0] ∧ Below B w W3 ∧ B + 2 ≤ W3.heap.size from by
    rw [hW3, hB]
    exact ⟨(BlkIs.new _ _ _).alloc _, BlkIs.new2 _ _ _ _, ((Below.refl _ _).alloc (Nat.le_refl _) _).alloc (by simp) _, by simp⟩)
  have HW := Lib.hid hW3
  clear hW3
  rw [← hB] at G1 R T ⊢
  go_enter Tryz.func16, Tryz.ntmps16
  go_upto_region 1 with (fail)
  rw [← hB]
  rw [← HW.out]
  have HB := Lib.hid hB
  clear hB
  obtain ⟨k1, -, -, -⟩ := K.out
  have d0 : W3.cell? ⟨B, 0, none⟩ = some (.slice o1 n1 f1) := k1.cell 0
  have d1 : W3.cell? ⟨B, 1, none⟩ = some (.slice o2 n2 f2) := k1.cell 1
  have d2 : W3.cell? ⟨B, 2, none⟩ = some (.slice o3 n3 f3) := k1.cell 2
  clear k1
  go_wp2_with fail
  refine (G1.out _ K.out.2.2.1).mono ?_
  rintro e w4 ⟨rfl, hb4⟩
  have K4 := Lib.hid (show BlkIs w4 B 26 #[.slice o1 n1 f1, .slice o2 n2 f2, .slice o3 n3 f3] ∧ BlkIs w4 (B + 1) 26 #[.slice none 0 0, .slice none 0 0, .slice none 0 0] ∧ Below B w w4 ∧ B + 2 ≤ w4.heap.size from
    ⟨K.out.1.below hb4 K.out.1.lt, K.out.2.1.below hb4 K.out.2.1.lt, K.out.2.2.1.trans (hb4.mono (by have := K.out.2.2.2; omega)), Nat.le_trans K.out.2.2.2 hb4.size⟩)
  clear hb4 d0 d1 d2 K
  have z0 : w4.cell? ⟨B + 1, 0, none⟩ = some (.slice none 0 0) := K4.out.2.1.cell 0
  have z1 : w4.cell? ⟨B + 1, 1, none⟩ = some (.slice none 0 0) := K4.out.2.1.cell 1
  have z2 : w4.cell? ⟨B + 1, 2, none⟩ = some (.slice none 0 0) := K4.out.2.1.cell 2
  have zf : ∀ i, w4.frozen? ⟨B + 1, i, none⟩ = false := fun i => K4.out.2.1.free i
  cases gm with
  | false =>
    go_wp2_with fail
    refine ack_end _ (B + 1) #[.slice none 0 0, .slice none 0 0, .slice none 0 0] rfl _ 1 _ rfl rfl (mk_put _ _ _ K4.out.2.1 ⟨_, _, _, rfl⟩) ?_
    exact ack_none K4.out.2.2.1 (fun h => by have h1 := HG.out; rw [h.1] at h1; cases h1) K4.out.2.1
  | true =>
    by_cases b1 : node < 1
    · go_wp2_with fail
      refine ack_end _ (B + 1) #[.slice none 0 0, .slice none 0 0, .slice none 0 0] rfl _ 1 _ rfl rfl (mk_put _ _ _ K4.out.2.1 ⟨_, _, _, rfl⟩) ?_
      exact ack_none K4.out.2.2.1 (fun h => by omega) K4.out.2.1
    have d1 : decide (node < 1) = false := decide_eq_false b1
    by_cases b2 : 7 < node
    · have HB2 := Lib.hid b1
      clear b1
      go_wp2_with fail
      refine ack_end _ (B + 1) #[.slice none 0 0, .slice none 0 0, .slice none 0 0] rfl _ 1 _ rfl rfl (mk_put _ _ _ K4.out.2.1 ⟨_, _, _, rfl⟩) ?_
      exact ack_none K4.out.2.2.1 (fun h => by omega) K4.out.2.1
    have d2 : decide (7 < node) = false := decide_eq_false b2
    have HND := Lib.hid (show 1 ≤ node ∧ node ≤ 7 from ⟨by omega, by omega⟩)
    clear b1 b2 z0 z1 z2 zf
    go_upto_region 3 with (fail)
    clear d1 d2
    have hbd : Below w4.heap.size w4 w4.drew := ⟨rfl, rfl, rfl, Nat.le_refl _, fun _ _ => rfl⟩
    have HK := Lib.hid (show ∀ W, Below w4.heap.size w4 W → W.cell? ⟨B, 0, none⟩ = some (.slice o1 n1 f1) ∧ W.cell? ⟨B, 1, none⟩ = some (.slice o2 n2 f2) from fun W hb => ⟨(K4.out.1.below hb K4.out.1.lt).cell 0, (K4.out.1.below hb K4.out.1.lt).cell 1⟩)
    have HBW := Lib.hid (show ∀ W, Below w4.heap.size w4 W → Below B w W from fun W hb => K4.out.2.2.1.trans (hb.mono (by have := K4.out.2.2.2; omega)))
    have hba : Below w4.heap.size w4 (w4.drew.alloc (.cells #[.slice none 0 0, .slice none 0 0, .slice none 0 0] 26)) := hbd.alloc (Nat.le_refl _) _
    refine wp_region_held_drew (S := fun W => W.cell? ⟨B, 0, none⟩ = some (.slice o1 n1 f1) ∧ W.cell? ⟨B, 1, none⟩ = some (.slice o2 n2 f2)) (by kernel_rfl) (HK.out _ hbd) (fun hHeld => ?_)
    refine wpAnyH_take (i := 0) (v := .pointer (some ⟨B, 0, none⟩)) rfl (by kernel_rfl) (by kernel_rfl) (by kernel_rfl) (fun _ _ _ h => h) (Or.inl ⟨by kernel_rfl, fun w hSw => ?_⟩) (by assumption) ?_
    · dsimp only at hSw
      go_simp
    simp only [Act.put, List.setIfInBounds_toArray, List.set_cons_zero, List.set_cons_succ]
    refine wpAnyH_take (i := 1) (v := .slice o1 n1 f1) rfl (by kernel_rfl) (by kernel_rfl) (by kernel_rfl) (fun _ _ _ h => h) (Or.inl ⟨by kernel_rfl, fun w hSw => ?_⟩) (by assumption) ?_
    · dsimp only at hSw
      go_simp
    simp only [Act.put, List.setIfInBounds_toArray, List.set_cons_zero, List.set_cons_succ]
    refine wpAnyH_take (i := 3) (v := .pointer (some ⟨B, 1, none⟩)) rfl (by kernel_rfl) (by kernel_rfl) (by kernel_rfl) (fun _ _ _ h => h) (Or.inl ⟨by kernel_rfl, fun w hSw => ?_⟩) (by assumption) ?_
    · dsimp only at hSw
      go_simp
    simp only [Act.put, List.setIfInBounds_toArray, List.set_cons_zero, List.set_cons_succ]
    refine wpAnyH_take (i := 4) (v := .slice o2 n2 f2) rfl (by kernel_rfl) (by kernel_rfl) (by kernel_rfl) (fun _ _ _ h => h) (Or.inl ⟨by kernel_rfl, fun w hSw => ?_⟩) (by assumption) ?_
    · dsimp only at hSw
      go_simp
    simp only [Act.put, List.setIfInBounds_toArray, List.set_cons_zero, List.set_cons_succ]
    refine wpAnyH_ready (rs := [2, 7]) (by kernel_rfl) (by simp) ?_
    refine AllReadyH.cons rfl (fun K hK => ?_) (AllReadyH.cons rfl (fun K hK => ?_) AllReadyH.nil)
    · go_simp
      go_wp2_with (
        go_at_call 43
        refine (R.out _ (HBW.out _ hbd)).mono ?_
        rintro e w5 ⟨v5, rfl, hs5, hb⟩
        obtain ⟨p5, m5, rfl, -, -, -⟩ := hs5.form
        have HS5 := Lib.hid hs5
        clear hs5)
      have hb5 : Below w4.heap.size w4 w5 := hbd.trans (hb.mono hbd.size)
      have hbb := Lib.hid hb
      refine hK.out _ _ ?_ (fun hHeld2 => ?_)
      · exact HK.out _ hb5
      clear hK K hb
      refine wpAnyH_ready (rs := [5, 7]) (by kernel_rfl) (by simp) ?_
      refine AllReadyH.cons rfl (fun K hK => ?_) (AllReadyH.cons rfl (fun K hK => ?_) AllReadyH.nil)
      · go_simp
        go_wp2_with (
          go_at_call 44
          refine (T.out _ (HBW.out _ hb5)).mono ?_
          rintro e w6 ⟨v6, rfl, hs6, hb⟩
          obtain ⟨p6, m6, rfl, -, -, -⟩ := hs6.form
          have HS6 := Lib.hid hs6
          clear hs6)
        have hb6 : Below w4.heap.size w4 w6 := hb5.trans (hb.mono hb5.size)
        have hbc := Lib.hid hb
        refine hK.out _ _ ?_ (fun hHeld3 => ?_)
        · exact HK.out _ hb6
        clear hK K hb
        refine wpAnyH_take (i := 6) (v := .agg #[.slice p5 (m.refs.length) m5, .slice p6 (m.toks.length) m6, .slice none 0 0]) rfl (by kernel_rfl) (by kernel_rfl) (by kernel_rfl) (fun _ _ _ h => h) (Or.inl ⟨by kernel_rfl, fun w hSw => ?_⟩) (by assumption) ?_
        · dsimp only at hSw
          go_simp
        simp only [Act.put, List.setIfInBounds_toArray, List.set_cons_zero, List.set_cons_succ]
        refine wpAnyH_ready (rs := [7]) (by kernel_rfl) (by simp) ?_
        refine AllReadyH.cons rfl (fun K hK => ?_) AllReadyH.nil
        go_simp
        refine hK.out _ _ ?_ (fun hHeld4 => ?_)
        · exact HK.out _ (hb6.alloc hb6.size _)
        clear hK K
        refine wpAnyH_ready (rs := [8]) (by kernel_rfl) (by simp) ?_
        refine AllReadyH.cons rfl (fun K hK => ?_) AllReadyH.nil
        go_simp
        refine hK.out _ _ ?_ (fun hHeld5 => ?_)
        · exact HK.out _ (hb6.alloc hb6.size _)
        clear hK K
        refine wpAnyH_done (by kernel_rfl) ?_ _
        obtain ⟨W7, hW7⟩ : ∃ W7, W7 = w6.alloc (.cells #[.slice p5 m.refs.length m5, .slice p6 m.toks.length m6, .slice none 0 0] 26) := ⟨_, rfl⟩
        obtain ⟨M, hM⟩ : ∃ M, M = w6.heap.size := ⟨_, rfl⟩
        have S7 := Lib.hid (show AkSt w W7 B M #[.slice o1 n1 f1, .slice o2 n2 f2, .slice o3 n3 f3] (.slice p5 m.refs.length m5) (.slice p6 m.toks.length m6) (.slice none 0 0) (.slice none 0 0) m.refs m.toks 0 [] from by
          rw [hW7, hM]
          exact ack_start' (K4.out.1.below hb6 K4.out.1.lt) (K4.out.2.1.below hb6 K4.out.2.1.lt) (K4.out.2.2.1.trans (hb6.mono (by have := K4.out.2.2.2; omega))) ((HS5.out.later hbc.out).mono (by have := K4.out.2.2.2; show B ≤ w4.heap.size; omega)) (HS6.out.mono (by have := K4.out.2.2.2; have := hb5.size; omega)))
        rw [← hW7, ← hM]
        obtain ⟨r1, hr1⟩ : ∃ n, n = m.refs.length := ⟨_, rfl⟩
        obtain ⟨r2, hr2⟩ : ∃ n, n = m.toks.length := ⟨_, rfl⟩
        rw [← hr1, ← hr2] at S7 ⊢
        clear hW7 hM hr1 hr2 hbd hba HK HBW hb5 hb6 R T G1
        have x2 : W7.cell? ⟨B, 2, none⟩ = some (.slice o3 n3 f3) := S7.out.bx.cell 2
        go_wp2_with fail
        clear x2
        go_loopw [31] (fun i wr => ∃ (k : Nat) (o : List TbR) (ao : Option Addr) (c : Nat), i = .int .i64 (k : Int) ∧ k ≤ n3 ∧ Hid (AkSt w wr B M #[.slice o1 n1 f1, .slice o2 n2 f2, .slice o3 n3 f3] (.slice p5 r1 m5) (.slice p6 r2 m6) (.slice ao k c) (.slice ao k c) m.refs m.toks k o ∧ o.map (·.t) = ((m.tombs.map (·.t)).take k).map fun t => plus t [node])) (fun i _ => ((n3 : Int) - intOf i).toNat)
        case atStart => exact ⟨0, [], none, 0, rfl, Nat.zero_le _, Lib.hid ⟨S7.out, by simp⟩⟩
        case round =>
          obtain ⟨k, o, ao, c, rfl, hkn, HL⟩ := hrel
          rcases Nat.lt_or_ge k n3 with hlt | hge
          · have ki : (k : Int) < n3 := by omega
            have kw : IntKind.i64.wrap ((k : Int) + 1) = ((k + 1 : Nat) : Int) := IntWalk.i64_in _ (by omega)
            have hka : k < m.tombs.length := by have := HN.out.2.2; omega
            have hBw : Below w.heap.size w wr := by rw [← HB.out]; exact HL.out.1.hb
            obtain ⟨go, off, hag, hgl, hc⟩ := (HR3.out.later hBw).at_ (by omega)
            subst hag
            obtain ⟨x, hx⟩ : ∃ x, x = m.tombs[k] := ⟨_, rfl⟩
            have hxr : x.Reads w := by rw [hx]; exact HM.out.2.2.2 _ (List.getElem_mem hka)
            have hxs : x.t.cov.length ≤ 256 ∧ x.t.acks.length ≤ 7 := good_small HG.out.symm (t := x.t) (by rw [hx]; exact List.mem_map_of_mem (List.getElem_mem hka))
            obtain ⟨xp3, xm3, ex3, -, -⟩ := hxr.1.form
            obtain ⟨xp4, xm4, ex4, -, -⟩ := hxr.2.form
            obtain ⟨xl3, fx3⟩ : ∃ q, q = x.t.cov.length := ⟨_, rfl⟩
            obtain ⟨xl4, fx4⟩ : ∃ q, q = x.t.acks.length := ⟨_, rfl⟩
            rw [← fx3] at ex3
            rw [← fx4] at ex4
            have u0 : wr.cell? ⟨go, off + k * 5, none⟩ = some (.int .i64 x.t.node) := by rw [hx]; exact hc k hka 0 _ rfl
            have u1 : wr.cell? ⟨go, off + k * 5 + 1, none⟩ = some (.int .i64 x.t.n) := by rw [hx]; exact hc k hka 1 _ rfl
            have u2 : wr.cell? ⟨go, off + k * 5 + 2, none⟩ = some (.string x.t.id) := by rw [hx]; exact hc k hka 2 _ rfl
            have u3 : wr.cell? ⟨go, off + k * 5 + 3, none⟩ = some (.slice xp3 xl3 xm3) := by rw [← ex3, hx]; exact hc k hka 3 _ rfl
            have u4 : wr.cell? ⟨go, off + k * 5 + 4, none⟩ = some (.slice xp4 xl4 xm4) := by rw [← ex4, hx]; exact hc k hka 4 _ rfl
            have eX : aTb x = .agg #[.int .i64 x.t.node, .int .i64 x.t.n, .string x.t.id, .slice xp3 xl3 xm3, .slice xp4 xl4 xm4] := by unfold aTb; rw [ex3, ex4]
            have HX := Lib.hid hx
            obtain ⟨G, hG⟩ : ∃ G, G = wr.heap.size := ⟨_, rfl⟩
            obtain ⟨W8, hW8⟩ : ∃ W8, W8 = (wr.alloc (.cells #[.int .i64 x.t.node, .int .i64 x.t.n, .string x.t.id, .slice xp3 xl3 xm3, .slice xp4 xl4 xm4] 43)).alloc (.cells #[.int .i64 node] 3) := ⟨_, rfl⟩
            have hb8 : Below wr.heap.size wr W8 := by rw [hW8]; exact ((Below.refl _ _).alloc (Nat.le_refl _) _).alloc (by simp) _
            have S8 := Lib.hid (show AkSt w W8 B M #[.slice o1 n1 f1, .slice o2 n2 f2, .slice (some ⟨go, off, none⟩) n3 f3] (.slice p5 r1 m5) (.slice p6 r2 m6) (.slice ao k c) (.slice ao k c) m.refs m.toks k o ∧ BlkIs W8 G 43 #[.int .i64 x.t.node, .int .i64 x.t.n, .string x.t.id, .slice xp3 xl3 xm3, .slice xp4 xl4 xm4] ∧ BlkIs W8 (G + 1) 3 #[.int .i64 node] ∧ G + 2 ≤ W8.heap.size from
              ⟨HL.out.1.later hb8, by rw [hW8, hG]; exact (BlkIs.new _ _ _).alloc _, by rw [hW8, hG]; exact BlkIs.new2 _ _ _ _, by rw [hW8, hG]; simp⟩)
            have HO := Lib.hid (show (Value.slice ao k c).ownBlock ≠ some G ∧ B ≤ G from ⟨fun h => by have := (HL.out.1.s3.lt _ h).2; omega, by rw [hG]; exact Nat.le_trans (Nat.le_of_lt HL.out.1.bx.lt) (Nat.le_refl _)⟩)
            obtain ⟨zt, hzt⟩ : ∃ zt, zt = plus x.t [node] := ⟨_, rfl⟩
            have T8 := Lib.hid (show Calls Tryz.prog 45 #[.agg #[.int .i64 x.t.node, .int .i64 x.t.n, .string x.t.id, .slice xp3 xl3 xm3, .slice xp4 xl4 xm4], .agg #[.int .i64 0, .int .i64 0, .string ⟨#[]⟩, .slice none 0 0, .slice (some ⟨G + 1, 0, none⟩) 1 1]] W8 fun e w' => ∃ (z : TbR) (zp3 : Option Addr) (zl3 zm3 : Nat) (zp4 : Option Addr) (zl4 zm4 : Nat) (q : Bool), e = .returned (.tuple #[.agg #[.int .i64 z.t.node, .int .i64 z.t.n, .string z.t.id, .slice zp3 zl3 zm3, .slice zp4 zl4 zm4], .bool q]) ∧ (z.t = zt ∧ (z.cv = .slice zp3 zl3 zm3 ∧ z.av = .slice zp4 zl4 zm4) ∧ KeptN B w' z) ∧ Below W8.heap.size W8 w' from by
              have hb0 : Below w.heap.size w W8 := hBw.trans (hb8.mono hBw.size)
              have hy : TbR.Reads W8 ⟨⟨0, 0, ⟨#[]⟩, [], [node]⟩, .slice none 0 0, .slice (some ⟨G + 1, 0, none⟩) 1 1⟩ := ⟨RowAt.nil_ _ _ _ _ _ (by decide), RowAt.of_sl (base := 0) (e := 3) (fun _ => rfl) (SlIs.made S8.out.2.2.1 (Nat.zero_le _) rfl (by decide))⟩
              have h0 := meets_any x ⟨⟨0, 0, ⟨#[]⟩, [], [node]⟩, .slice none 0 0, .slice (some ⟨G + 1, 0, none⟩) 1 1⟩ W8 ⟨hxr.1.later hb0, hxr.2.later hb0⟩ hy ⟨by omega, by omega⟩ ⟨by simp, by simp⟩
              rw [eX] at h0
              refine h0.mono ?_
              rintro e w' ⟨cv, av, rfl, ⟨h1, h2⟩, h3⟩
              obtain ⟨zp3, zm3, rfl, -, -, -⟩ := h1.form
              obtain ⟨zp4, zm4, rfl, -, -, -⟩ := h2.form
              have hsz : B ≤ W8.heap.size := Nat.le_of_lt S8.out.1.bx.lt
              exact ⟨⟨plus x.t [node], _, _⟩, _, _, _, _, _, _, _, rfl, ⟨hzt.symm, ⟨rfl, rfl⟩, h1.mono hsz, h2.mono hsz⟩, h3⟩)
            have HZT := Lib.hid hzt
            have HW8 := Lib.hid (And.intro hW8 hG)
            clear hc hx hxr hxs ex3 ex4 fx3 fx4 eX hgl hBw hb8 hW8 hG hzt
            go_upto_region 7 with (fail)
            clear u0 u1 u2 u3 u4
            rw [← HW8.out.2]
            obtain ⟨W7b, hW7b⟩ : ∃ W7b, W7b = wr.alloc (.cells #[.int .i64 x.t.node, .int .i64 x.t.n, .string x.t.id, .slice xp3 xl3 xm3, .slice xp4 xl4 xm4] 43) := ⟨_, rfl⟩
            have B7 := Lib.hid (show BlkIs W7b G 43 #[.int .i64 x.t.node, .int .i64 x.t.n, .string x.t.id, .slice xp3 xl3 xm3, .slice xp4 xl4 xm4] ∧ W7b.heap.size = G + 1 from by rw [hW7b, HW8.out.2]; exact ⟨BlkIs.new _ _ _, by simp⟩)
            have EW8 := Lib.hid (show W8 = W7b.alloc (.cells #[.int .i64 node] 3) from by rw [hW7b]; exact HW8.out.1)
            rw [← hW7b]
            clear hW7b
            have D0 : W7b.cell? ⟨G, 0, none⟩ = some (.int .i64 x.t.node) := B7.out.1.cell 0
            have D1 : W7b.cell? ⟨G, 1, none⟩ = some (.int .i64 x.t.n) := B7.out.1.cell 1
            have D2 : W7b.cell? ⟨G, 2, none⟩ = some (.string x.t.id) := B7.out.1.cell 2
            have D3 : W7b.cell? ⟨G, 3, none⟩ = some (.slice xp3 xl3 xm3) := B7.out.1.cell 3
            have D4 : W7b.cell? ⟨G, 4, none⟩ = some (.slice xp4 xl4 xm4) := B7.out.1.cell 4
            have hz7 : W7b.heap.size = G + 1 := B7.out.2
            go_wp2_with fail
            rw [← EW8.out]
            clear D0 D1 D2 D3 D4 hz7
            refine T8.out.mono ?_
            rintro e w9 ⟨z, zp3, zl3, zm3, zp4, zl4, zm4, q, rfl, hz, hb9⟩
            have S9 := Lib.hid (show AkSt w w9 B M #[.slice o1 n1 f1, .slice o2 n2 f2, .slice (some ⟨go, off, none⟩) n3 f3] (.slice p5 r1 m5) (.slice p6 r2 m6) (.slice ao k c) (.slice ao k c) m.refs m.toks k o ∧ BlkIs w9 G 43 #[.int .i64 x.t.node, .int .i64 x.t.n, .string x.t.id, .slice xp3 xl3 xm3, .slice xp4 xl4 xm4] ∧ KeptN B w9 z ∧ G + 2 ≤ w9.heap.size from
              ⟨S8.out.1.later hb9, S8.out.2.1.below hb9 S8.out.2.1.lt, hz.2.2, Nat.le_trans S8.out.2.2.2 hb9.size⟩)
            have HZ := Lib.hid hz
            clear hz hb9 T8
            have e0 : w9.cell? ⟨G, 0, none⟩ = some (.int .i64 x.t.node) := S9.out.2.1.cell 0
            have e1 : w9.cell? ⟨G, 1, none⟩ = some (.int .i64 x.t.n) := S9.out.2.1.cell 1
            have e2 : w9.cell? ⟨G, 2, none⟩ = some (.string x.t.id) := S9.out.2.1.cell 2
            have e3 : w9.cell? ⟨G, 3, none⟩ = some (.slice xp3 xl3 xm3) := S9.out.2.1.cell 3
            have e4 : w9.cell? ⟨G, 4, none⟩ = some (.slice xp4 xl4 xm4) := S9.out.2.1.cell 4
            have ef : ∀ i, w9.frozen? ⟨G, i, none⟩ = false := fun i => S9.out.2.1.free i
            obtain ⟨W10, hW10⟩ : ∃ W10, W10 = ((((w9.setCell ⟨G, 0, none⟩ (.int .i64 z.t.node)).setCell ⟨G, 1, none⟩ (.int .i64 z.t.n)).setCell ⟨G, 2, none⟩ (.string z.t.id)).setCell ⟨G, 3, none⟩ (.slice zp3 zl3 zm3)).setCell ⟨G, 4, none⟩ (.slice zp4 zl4 zm4) := ⟨_, rfl⟩
            have S10 := Lib.hid (show AkSt w W10 B M #[.slice o1 n1 f1, .slice o2 n2 f2, .slice (some ⟨go, off, none⟩) n3 f3] (.slice p5 r1 m5) (.slice p6 r2 m6) (.slice ao k c) (.slice ao k c) m.refs m.toks k o ∧ BlkIs W10 G 43 #[.int .i64 z.t.node, .int .i64 z.t.n, .string z.t.id, .slice zp3 zl3 zm3, .slice zp4 zl4 zm4] ∧ KeptN B W10 z ∧ G + 2 ≤ W10.heap.size from by
              rw [hW10]
              exact ⟨S9.out.1.five S9.out.2.1 HO.out.1 HO.out.2 _ _ _ _ _, tb_put _ _ _ _ _ S9.out.2.1 ⟨_, _, _, _, _, rfl⟩, ⟨sl_five S9.out.2.2.1.1 (S9.out.2.2.1.1.ne_blk S9.out.2.1 (by decide)), sl_five S9.out.2.2.1.2 (S9.out.2.2.1.2.ne_blk S9.out.2.1 (by decide))⟩, by have := S9.out.2.2.2; simpa [World.setCell] using this⟩)
            have HW10 := Lib.hid hW10
            clear hW10
            go_upto_region 8 with (fail)
            rw [← HW10.out]
            clear e0 e1 e2 e3 e4 ef
            have g0 : W10.cell? ⟨G, 0, none⟩ = some (.int .i64 z.t.node) := S10.out.2.1.cell 0
            have g1 : W10.cell? ⟨G, 1, none⟩ = some (.int .i64 z.t.n) := S10.out.2.1.cell 1
            have g2 : W10.cell? ⟨G, 2, none⟩ = some (.string z.t.id) := S10.out.2.1.cell 2
            have g3 : W10.cell? ⟨G, 3, none⟩ = some (.slice zp3 zl3 zm3) := S10.out.2.1.cell 3
            have g4 : W10.cell? ⟨G, 4, none⟩ = some (.slice zp4 zl4 zm4) := S10.out.2.1.cell 4
            have h2 : W10.cell? ⟨M, 2, none⟩ = some (.slice ao k c) := S10.out.1.bm.cell 2
            have kc := S10.out.1.s3.capLe
            go_wp2_with (refine wpList_append_sl rfl _ _ _ 24 (by rfl) el_tb (base := B) (.slice ao k c) k (rowCells vTb o) (by rfl) (S10.out.1.s3.alloc _) _ 1 [.int .i64 z.t.node, .int .i64 z.t.n, .string z.t.id, .slice zp3 zl3 zm3, .slice zp4 zl4 zm4] (by rfl) (SrcIs.own Tryz.underlying24 (SlIs.made (base := 0) (BlkIs.new _ _ _) (Nat.zero_le _) rfl (by decide))) (by intro u hu; simp at hu; rcases hu with rfl | rfl | rfl | rfl | rfl <;> rfl) (by unfold maxLen; omega) (by omega) (by have := S10.out.1.bx.lt; simp; omega) ?_)
            intro v11 w11 hs11 hg11 hat11
            have S11 := Lib.hid (show AkSt w w11 B M #[.slice o1 n1 f1, .slice o2 n2 f2, .slice (some ⟨go, off, none⟩) n3 f3] (.slice p5 r1 m5) (.slice p6 r2 m6) (.slice ao k c) v11 m.refs m.toks (k + 1) (o ++ [z]) from by
              refine (S10.out.1.later ((Below.refl _ _).alloc (Nat.le_refl _) _)).grown hg11 ?_ (by rw [List.length_append, List.length_singleton, ← S10.out.1.len]) (fun u hu => (List.mem_append.1 hu).imp id fun h => by rw [List.mem_singleton.1 h]; exact ⟨S10.out.2.2.1.1.alloc _, S10.out.2.2.1.2.alloc _⟩)
              rw [rowCells_app, rowCells_one]
              unfold vTb
              rw [HZ.out.2.1.1, HZ.out.2.1.2]
              exact hs11)
            obtain ⟨ao5, c5, rfl, -, -, -⟩ := hs11.form
            have HMAP := Lib.hid (show (o ++ [z]).map (·.t) = ((m.tombs.map (·.t)).take (k + 1)).map (fun t => plus t [node]) from by
              rw [List.map_append, HL.out.2, Mk.take_snoc' (by rw [List.length_map]; exact hka), List.map_append]
              show _ ++ [z.t] = _ ++ [plus ((m.tombs.map (·.t))[k]'(by rw [List.length_map]; exact hka)) [node]]
              rw [List.getElem_map, HZ.out.1, HZT.out, HX.out])
            clear hs11 hg11 hat11 h2 g0 g1 g2 g3 g4
            have h3 : w11.cell? ⟨M, 2, none⟩ = some (.slice ao k c) := S11.out.bm.cell 2
            have hf3 : w11.frozen? ⟨M, 2, none⟩ = false := S11.out.bm.free 2
            obtain ⟨W12, hW12⟩ : ∃ W12, W12 = w11.setCell ⟨M, 2, none⟩ (.slice ao5 (k + 1) c5) := ⟨_, rfl⟩
            have S12 := Lib.hid (show AkSt w W12 B M #[.slice o1 n1 f1, .slice o2 n2 f2, .slice (some ⟨go, off, none⟩) n3 f3] (.slice p5 r1 m5) (.slice p6 r2 m6) (.slice ao5 (k + 1) c5) (.slice ao5 (k + 1) c5) m.refs m.toks (k + 1) (o ++ [z]) from by
              rw [hW12]
              exact S11.out.putM _)
            have HW12 := Lib.hid hW12
            clear hW12
            go_upto_region 9 with (fail)
            rw [← HW12.out]
            clear h3 hf3
            go_wp2_with fail
            exact ⟨⟨k + 1, o ++ [z], ao5, c5, by simp, by omega, Lib.hid ⟨S12.out, HMAP.out⟩⟩, by simp [intOf]; omega⟩
          · have ki : ¬ ((k : Int) < n3) := by omega
            have ki2 : decide ((k : Int) < n3) = false := decide_eq_false ki
            obtain rfl : k = n3 := Nat.le_antisymm hkn hge
            clear ki
            have x0 : wr.cell? ⟨M, 0, none⟩ = some (.slice p5 r1 m5) := HL.out.1.bm.cell 0
            have x1 : wr.cell? ⟨M, 1, none⟩ = some (.slice p6 r2 m6) := HL.out.1.bm.cell 1
            have x2 : wr.cell? ⟨M, 2, none⟩ = some (.slice ao k c) := HL.out.1.bm.cell 2
            have y0 : wr.cell? ⟨B + 1, 0, none⟩ = some (.slice none 0 0) := HL.out.1.bz.cell 0
            have y1 : wr.cell? ⟨B + 1, 1, none⟩ = some (.slice none 0 0) := HL.out.1.bz.cell 1
            have y2 : wr.cell? ⟨B + 1, 2, none⟩ = some (.slice none 0 0) := HL.out.1.bz.cell 2
            have yf : ∀ i, wr.frozen? ⟨B + 1, i, none⟩ = false := fun i => HL.out.1.bz.free i
            go_wp2_with fail
            refine ack_end _ (B + 1) #[.slice p5 r1 m5, .slice p6 r2 m6, .slice ao k c] rfl _ 0 _ rfl rfl (mk_put _ _ _ HL.out.1.bz ⟨_, _, _, rfl⟩) ?_
            refine ⟨⟨m.refs, m.toks, o, .slice p5 r1 m5, .slice p6 r2 m6, .slice ao k c⟩, 0, rfl, reads3 HL.out.1.reads HL.out.1.bz _ _ _ _ _ _ _ _ _, ?_, .inr ⟨⟨HG.out.symm, HND.out⟩, ?_, rfl⟩⟩
            · exact below3 HL.out.1.hb (Nat.le_succ B) _ _ _
            · have h1 := HL.out.2
              rw [HN.out.2.2, show m.tombs.length = (m.tombs.map (·.t)).length by rw [List.length_map], List.take_length] at h1
              unfold MkR.mk_
              rw [h1]
      · have hb5a : Below w4.heap.size w4 (w5.alloc (.cells #[.slice none 0 0, .slice none 0 0, .slice none 0 0] 26)) := hb5.alloc hb5.size _
        go_simp
        refine hK.out _ _ ?_ (fun hHeld4 => ?_)
        · exact HK.out _ (hb5a)
        clear hK K
        refine wpAnyH_ready (rs := [5]) (by kernel_rfl) (by simp) ?_
        refine AllReadyH.cons rfl (fun K hK => ?_) AllReadyH.nil
        go_simp
        go_wp2_with (
          go_at_call 44
          refine (T.out _ (HBW.out _ hb5a)).mono ?_
          rintro e w6 ⟨v6, rfl, hs6, hb⟩
          obtain ⟨p6, m6, rfl, -, -, -⟩ := hs6.form
          have HS6 := Lib.hid hs6
          clear hs6)
        have hb6 : Below w4.heap.size w4 w6 := hb5a.trans (hb.mono hb5a.size)
        have hbc := Lib.hid hb
        refine hK.out _ _ ?_ (fun hHeld3 => ?_)
        · exact HK.out _ hb6
        clear hK K hb
        have B6 := Lib.hid (show BlkIs w6 (w5.heap.size) 26 #[.slice none 0 0, .slice none 0 0, .slice none 0 0] from BlkIs.below (BlkIs.new w5 _ _) hbc.out (by simp))
        have y0 : w6.cell? ⟨w5.heap.size, 0, none⟩ = some (.slice none 0 0) := B6.out.cell 0
        have y1 : w6.cell? ⟨w5.heap.size, 1, none⟩ = some (.slice none 0 0) := B6.out.cell 1
        have y2 : w6.cell? ⟨w5.heap.size, 2, none⟩ = some (.slice none 0 0) := B6.out.cell 2
        have yf : ∀ i, w6.frozen? ⟨w5.heap.size, i, none⟩ = false := fun i => B6.out.free i
        refine wpAnyH_take (i := 6) (v := .agg #[.slice p5 (m.refs.length) m5, .slice p6 (m.toks.length) m6, .slice none 0 0]) rfl (by kernel_rfl) (by kernel_rfl) (by kernel_rfl) (fun _ _ _ h => h) (Or.inl ⟨by kernel_rfl, fun w hSw => ?_⟩) (by assumption) ?_
        · dsimp only at hSw
          go_simp
        simp only [Act.put, List.setIfInBounds_toArray, List.set_cons_zero, List.set_cons_succ]
        refine wpAnyH_ready (rs := [8]) (by kernel_rfl) (by simp) ?_
        refine AllReadyH.cons rfl (fun K hK => ?_) AllReadyH.nil
        go_simp
        refine hK.out _ _ ?_ (fun hHeld5 => ?_)
        · exact HK.out _ (((hb6.setCell hb5.size _).setCell hb5.size _).setCell hb5.size _)
        clear hK K
        refine wpAnyH_done (by kernel_rfl) ?_ _
        obtain ⟨W7, hW7⟩ : ∃ W7, W7 = ((((w6.setCell ⟨w5.heap.size, 0, none⟩ (.slice p5 m.refs.length m5)).setCell ⟨w5.heap.size, 1, none⟩ (.slice p6 m.toks.length m6)).setCell ⟨w5.heap.size, 2, none⟩ (.slice none 0 0))) := ⟨_, rfl⟩
        obtain ⟨M, hM⟩ : ∃ M, M = w5.heap.size := ⟨_, rfl⟩
        have S7 := Lib.hid (show AkSt w W7 B M #[.slice o1 n1 f1, .slice o2 n2 f2, .slice o3 n3 f3] (.slice p5 m.refs.length m5) (.slice p6 m.toks.length m6) (.slice none 0 0) (.slice none 0 0) m.refs m.toks 0 [] from by
          rw [hW7, hM]
          exact ack_start (K4.out.1.below hb6 K4.out.1.lt) (K4.out.2.1.below hb6 K4.out.2.1.lt) (K4.out.2.2.1.trans (hb6.mono (by have := K4.out.2.2.2; omega))) (by have := K4.out.2.2.2; have := hb5.size; omega) (((HS5.out.alloc _).later hbc.out).mono (by have := K4.out.2.2.2; show B ≤ w4.heap.size; omega)) (HS6.out.mono (by have := K4.out.2.2.2; have := hb5.size; simp; omega)) B6.out)
        rw [← hW7, ← hM]
        obtain ⟨r1, hr1⟩ : ∃ n, n = m.refs.length := ⟨_, rfl⟩
        obtain ⟨r2, hr2⟩ : ∃ n, n = m.toks.length := ⟨_, rfl⟩
        rw [← hr1, ← hr2] at S7 ⊢
        clear hW7 hM hr1 hr2 hbd hba HK HBW hb5 hb6 R T G1 y0 y1 y2 yf B6 hb5a
        have x2 : W7.cell? ⟨B, 2, none⟩ = some (.slice o3 n3 f3) := S7.out.bx.cell 2
        go_wp2_with fail
        clear x2
        go_loopw [31] (fun i wr => ∃ (k : Nat) (o : List TbR) (ao : Option Addr) (c : Nat), i = .int .i64 (k : Int) ∧ k ≤ n3 ∧ Hid (AkSt w wr B M #[.slice o1 n1 f1, .slice o2 n2 f2, .slice o3 n3 f3] (.slice p5 r1 m5) (.slice p6 r2 m6) (.slice ao k c) (.slice ao k c) m.refs m.toks k o ∧ o.map (·.t) = ((m.tombs.map (·.t)).take k).map fun t => plus t [node])) (fun i _ => ((n3 : Int) - intOf i).toNat)
        case atStart => exact ⟨0, [], none, 0, rfl, Nat.zero_le _, Lib.hid ⟨S7.out, by simp⟩⟩
        case round =>
          obtain ⟨k, o, ao, c, rfl, hkn, HL⟩ := hrel
          rcases Nat.lt_or_ge k n3 with hlt | hge
          · have ki : (k : Int) < n3 := by omega
            have kw : IntKind.i64.wrap ((k : Int) + 1) = ((k + 1 : Nat) : Int) := IntWalk.i64_in _ (by omega)
            have hka : k < m.tombs.length := by have := HN.out.2.2; omega
            have hBw : Below w.heap.size w wr := by rw [← HB.out]; exact HL.out.1.hb
            obtain ⟨go, off, hag, hgl, hc⟩ := (HR3.out.later hBw).at_ (by omega)
            subst hag
            obtain ⟨x, hx⟩ : ∃ x, x = m.tombs[k] := ⟨_, rfl⟩
            have hxr : x.Reads w := by rw [hx]; exact HM.out.2.2.2 _ (List.getElem_mem hka)
            have hxs : x.t.cov.length ≤ 256 ∧ x.t.acks.length ≤ 7 := good_small HG.out.symm (t := x.t) (by rw [hx]; exact List.mem_map_of_mem (List.getElem_mem hka))
            obtain ⟨xp3, xm3, ex3, -, -⟩ := hxr.1.form
            obtain ⟨xp4, xm4, ex4, -, -⟩ := hxr.2.form
            obtain ⟨xl3, fx3⟩ : ∃ q, q = x.t.cov.length := ⟨_, rfl⟩
            obtain ⟨xl4, fx4⟩ : ∃ q, q = x.t.acks.length := ⟨_, rfl⟩
            rw [← fx3] at ex3
            rw [← fx4] at ex4
            have u0 : wr.cell? ⟨go, off + k * 5, none⟩ = some (.int .i64 x.t.node) := by rw [hx]; exact hc k hka 0 _ rfl
            have u1 : wr.cell? ⟨go, off + k * 5 + 1, none⟩ = some (.int .i64 x.t.n) := by rw [hx]; exact hc k hka 1 _ rfl
            have u2 : wr.cell? ⟨go, off + k * 5 + 2, none⟩ = some (.string x.t.id) := by rw [hx]; exact hc k hka 2 _ rfl
            have u3 : wr.cell? ⟨go, off + k * 5 + 3, none⟩ = some (.slice xp3 xl3 xm3) := by rw [← ex3, hx]; exact hc k hka 3 _ rfl
            have u4 : wr.cell? ⟨go, off + k * 5 + 4, none⟩ = some (.slice xp4 xl4 xm4) := by rw [← ex4, hx]; exact hc k hka 4 _ rfl
            have eX : aTb x = .agg #[.int .i64 x.t.node, .int .i64 x.t.n, .string x.t.id, .slice xp3 xl3 xm3, .slice xp4 xl4 xm4] := by unfold aTb; rw [ex3, ex4]
            have HX := Lib.hid hx
            obtain ⟨G, hG⟩ : ∃ G, G = wr.heap.size := ⟨_, rfl⟩
            obtain ⟨W8, hW8⟩ : ∃ W8, W8 = (wr.alloc (.cells #[.int .i64 x.t.node, .int .i64 x.t.n, .string x.t.id, .slice xp3 xl3 xm3, .slice xp4 xl4 xm4] 43)).alloc (.cells #[.int .i64 node] 3) := ⟨_, rfl⟩
            have hb8 : Below wr.heap.size wr W8 := by rw [hW8]; exact ((Below.refl _ _).alloc (Nat.le_refl _) _).alloc (by simp) _
            have S8 := Lib.hid (show AkSt w W8 B M #[.slice o1 n1 f1, .slice o2 n2 f2, .slice (some ⟨go, off, none⟩) n3 f3] (.slice p5 r1 m5) (.slice p6 r2 m6) (.slice ao k c) (.slice ao k c) m.refs m.toks k o ∧ BlkIs W8 G 43 #[.int .i64 x.t.node, .int .i64 x.t.n, .string x.t.id, .slice xp3 xl3 xm3, .slice xp4 xl4 xm4] ∧ BlkIs W8 (G + 1) 3 #[.int .i64 node] ∧ G + 2 ≤ W8.heap.size from
              ⟨HL.out.1.later hb8, by rw [hW8, hG]; exact (BlkIs.new _ _ _).alloc _, by rw [hW8, hG]; exact BlkIs.new2 _ _ _ _, by rw [hW8, hG]; simp⟩)
            have HO := Lib.hid (show (Value.slice ao k c).ownBlock ≠ some G ∧ B ≤ G from ⟨fun h => by have := (HL.out.1.s3.lt _ h).2; omega, by rw [hG]; exact Nat.le_trans (Nat.le_of_lt HL.out.1.bx.lt) (Nat.le_refl _)⟩)
            obtain ⟨zt, hzt⟩ : ∃ zt, zt = plus x.t [node] := ⟨_, rfl⟩
            have T8 := Lib.hid (show Calls Tryz.prog 45 #[.agg #[.int .i64 x.t.node, .int .i64 x.t.n, .string x.t.id, .slice xp3 xl3 xm3, .slice xp4 xl4 xm4], .agg #[.int .i64 0, .int .i64 0, .string ⟨#[]⟩, .slice none 0 0, .slice (some ⟨G + 1, 0, none⟩) 1 1]] W8 fun e w' => ∃ (z : TbR) (zp3 : Option Addr) (zl3 zm3 : Nat) (zp4 : Option Addr) (zl4 zm4 : Nat) (q : Bool), e = .returned (.tuple #[.agg #[.int .i64 z.t.node, .int .i64 z.t.n, .string z.t.id, .slice zp3 zl3 zm3, .slice zp4 zl4 zm4], .bool q]) ∧ (z.t = zt ∧ (z.cv = .slice zp3 zl3 zm3 ∧ z.av = .slice zp4 zl4 zm4) ∧ KeptN B w' z) ∧ Below W8.heap.size W8 w' from by
              have hb0 : Below w.heap.size w W8 := hBw.trans (hb8.mono hBw.size)
              have hy : TbR.Reads W8 ⟨⟨0, 0, ⟨#[]⟩, [], [node]⟩, .slice none 0 0, .slice (some ⟨G + 1, 0, none⟩) 1 1⟩ := ⟨RowAt.nil_ _ _ _ _ _ (by decide), RowAt.of_sl (base := 0) (e := 3) (fun _ => rfl) (SlIs.made S8.out.2.2.1 (Nat.zero_le _) rfl (by decide))⟩
              have h0 := meets_any x ⟨⟨0, 0, ⟨#[]⟩, [], [node]⟩, .slice none 0 0, .slice (some ⟨G + 1, 0, none⟩) 1 1⟩ W8 ⟨hxr.1.later hb0, hxr.2.later hb0⟩ hy ⟨by omega, by omega⟩ ⟨by simp, by simp⟩
              rw [eX] at h0
              refine h0.mono ?_
              rintro e w' ⟨cv, av, rfl, ⟨h1, h2⟩, h3⟩
              obtain ⟨zp3, zm3, rfl, -, -, -⟩ := h1.form
              obtain ⟨zp4, zm4, rfl, -, -, -⟩ := h2.form
              have hsz : B ≤ W8.heap.size := Nat.le_of_lt S8.out.1.bx.lt
              exact ⟨⟨plus x.t [node], _, _⟩, _, _, _, _, _, _, _, rfl, ⟨hzt.symm, ⟨rfl, rfl⟩, h1.mono hsz, h2.mono hsz⟩, h3⟩)
            have HZT := Lib.hid hzt
            have HW8 := Lib.hid (And.intro hW8 hG)
            clear hc hx hxr hxs ex3 ex4 fx3 fx4 eX hgl hBw hb8 hW8 hG hzt
            go_upto_region 7 with (fail)
            clear u0 u1 u2 u3 u4
            rw [← HW8.out.2]
            obtain ⟨W7b, hW7b⟩ : ∃ W7b, W7b = wr.alloc (.cells #[.int .i64 x.t.node, .int .i64 x.t.n, .string x.t.id, .slice xp3 xl3 xm3, .slice xp4 xl4 xm4] 43) := ⟨_, rfl⟩
            have B7 := Lib.hid (show BlkIs W7b G 43 #[.int .i64 x.t.node, .int .i64 x.t.n, .string x.t.id, .slice xp3 xl3 xm3, .slice xp4 xl4 xm4] ∧ W7b.heap.size = G + 1 from by rw [hW7b, HW8.out.2]; exact ⟨BlkIs.new _ _ _, by simp⟩)
            have EW8 := Lib.hid (show W8 = W7b.alloc (.cells #[.int .i64 node] 3) from by rw [hW7b]; exact HW8.out.1)
            rw [← hW7b]
            clear hW7b
            have D0 : W7b.cell? ⟨G, 0, none⟩ = some (.int .i64 x.t.node) := B7.out.1.cell 0
            have D1 : W7b.cell? ⟨G, 1, none⟩ = some (.int .i64 x.t.n) := B7.out.1.cell 1
            have D2 : W7b.cell? ⟨G, 2, none⟩ = some (.string x.t.id) := B7.out.1.cell 2
            have D3 : W7b.cell? ⟨G, 3, none⟩ = some (.slice xp3 xl3 xm3) := B7.out.1.cell 3
            have D4 : W7b.cell? ⟨G, 4, none⟩ = some (.slice xp4 xl4 xm4) := B7.out.1.cell 4
            have hz7 : W7b.heap.size = G + 1 := B7.out.2
            go_wp2_with fail
            rw [← EW8.out]
            clear D0 D1 D2 D3 D4 hz7
            refine T8.out.mono ?_
            rintro e w9 ⟨z, zp3, zl3, zm3, zp4, zl4, zm4, q, rfl, hz, hb9⟩
            have S9 := Lib.hid (show AkSt w w9 B M #[.slice o1 n1 f1, .slice o2 n2 f2, .slice (some ⟨go, off, none⟩) n3 f3] (.slice p5 r1 m5) (.slice p6 r2 m6) (.slice ao k c) (.slice ao k c) m.refs m.toks k o ∧ BlkIs w9 G 43 #[.int .i64 x.t.node, .int .i64 x.t.n, .string x.t.id, .slice xp3 xl3 xm3, .slice xp4 xl4 xm4] ∧ KeptN B w9 z ∧ G + 2 ≤ w9.heap.size from
              ⟨S8.out.1.later hb9, S8.out.2.1.below hb9 S8.out.2.1.lt, hz.2.2, Nat.le_trans S8.out.2.2.2 hb9.size⟩)
            have HZ := Lib.hid hz
            clear hz hb9 T8
            have e0 : w9.cell? ⟨G, 0, none⟩ = some (.int .i64 x.t.node) := S9.out.2.1.cell 0
            have e1 : w9.cell? ⟨G, 1, none⟩ = some (.int .i64 x.t.n) := S9.out.2.1.cell 1
            have e2 : w9.cell? ⟨G, 2, none⟩ = some (.string x.t.id) := S9.out.2.1.cell 2
            have e3 : w9.cell? ⟨G, 3, none⟩ = some (.slice xp3 xl3 xm3) := S9.out.2.1.cell 3
            have e4 : w9.cell? ⟨G, 4, none⟩ = some (.slice xp4 xl4 xm4) := S9.out.2.1.cell 4
            have ef : ∀ i, w9.frozen? ⟨G, i, none⟩ = false := fun i => S9.out.2.1.free i
            obtain ⟨W10, hW10⟩ : ∃ W10, W10 = ((((w9.setCell ⟨G, 0, none⟩ (.int .i64 z.t.node)).setCell ⟨G, 1, none⟩ (.int .i64 z.t.n)).setCell ⟨G, 2, none⟩ (.string z.t.id)).setCell ⟨G, 3, none⟩ (.slice zp3 zl3 zm3)).setCell ⟨G, 4, none⟩ (.slice zp4 zl4 zm4) := ⟨_, rfl⟩
            have S10 := Lib.hid (show AkSt w W10 B M #[.slice o1 n1 f1, .slice o2 n2 f2, .slice (some ⟨go, off, none⟩) n3 f3] (.slice p5 r1 m5) (.slice p6 r2 m6) (.slice ao k c) (.slice ao k c) m.refs m.toks k o ∧ BlkIs W10 G 43 #[.int .i64 z.t.node, .int .i64 z.t.n, .string z.t.id, .slice zp3 zl3 zm3, .slice zp4 zl4 zm4] ∧ KeptN B W10 z ∧ G + 2 ≤ W10.heap.size from by
              rw [hW10]
              exact ⟨S9.out.1.five S9.out.2.1 HO.out.1 HO.out.2 _ _ _ _ _, tb_put _ _ _ _ _ S9.out.2.1 ⟨_, _, _, _, _, rfl⟩, ⟨sl_five S9.out.2.2.1.1 (S9.out.2.2.1.1.ne_blk S9.out.2.1 (by decide)), sl_five S9.out.2.2.1.2 (S9.out.2.2.1.2.ne_blk S9.out.2.1 (by decide))⟩, by have := S9.out.2.2.2; simpa [World.setCell] using this⟩)
            have HW10 := Lib.hid hW10
            clear hW10
            go_upto_region 8 with (fail)
            rw [← HW10.out]
            clear e0 e1 e2 e3 e4 ef
            have g0 : W10.cell? ⟨G, 0, none⟩ = some (.int .i64 z.t.node) := S10.out.2.1.cell 0
            have g1 : W10.cell? ⟨G, 1, none⟩ = some (.int .i64 z.t.n) := S10.out.2.1.cell 1
            have g2 : W10.cell? ⟨G, 2, none⟩ = some (.string z.t.id) := S10.out.2.1.cell 2
            have g3 : W10.cell? ⟨G, 3, none⟩ = some (.slice zp3 zl3 zm3) := S10.out.2.1.cell 3
            have g4 : W10.cell? ⟨G, 4, none⟩ = some (.slice zp4 zl4 zm4) := S10.out.2.1.cell 4
            have h2 : W10.cell? ⟨M, 2, none⟩ = some (.slice ao k c) := S10.out.1.bm.cell 2
            have kc := S10.out.1.s3.capLe
            go_wp2_with (refine wpList_append_sl rfl _ _ _ 24 (by rfl) el_tb (base := B) (.slice ao k c) k (rowCells vTb o) (by rfl) (S10.out.1.s3.alloc _) _ 1 [.int .i64 z.t.node, .int .i64 z.t.n, .string z.t.id, .slice zp3 zl3 zm3, .slice zp4 zl4 zm4] (by rfl) (SrcIs.own Tryz.underlying24 (SlIs.made (base := 0) (BlkIs.new _ _ _) (Nat.zero_le _) rfl (by decide))) (by intro u hu; simp at hu; rcases hu with rfl | rfl | rfl | rfl | rfl <;> rfl) (by unfold maxLen; omega) (by omega) (by have := S10.out.1.bx.lt; simp; omega) ?_)
            intro v11 w11 hs11 hg11 hat11
            have S11 := Lib.hid (show AkSt w w11 B M #[.slice o1 n1 f1, .slice o2 n2 f2, .slice (some ⟨go, off, none⟩) n3 f3] (.slice p5 r1 m5) (.slice p6 r2 m6) (.slice ao k c) v11 m.refs m.toks (k + 1) (o ++ [z]) from by
              refine (S10.out.1.later ((Below.refl _ _).alloc (Nat.le_refl _) _)).grown hg11 ?_ (by rw [List.length_append, List.length_singleton, ← S10.out.1.len]) (fun u hu => (List.mem_append.1 hu).imp id fun h => by rw [List.mem_singleton.1 h]; exact ⟨S10.out.2.2.1.1.alloc _, S10.out.2.2.1.2.alloc _⟩)
              rw [rowCells_app, rowCells_one]
              unfold vTb
              rw [HZ.out.2.1.1, HZ.out.2.1.2]
              exact hs11)
            obtain ⟨ao5, c5, rfl, -, -, -⟩ := hs11.form
            have HMAP := Lib.hid (show (o ++ [z]).map (·.t) = ((m.tombs.map (·.t)).take (k + 1)).map (fun t => plus t [node]) from by
              rw [List.map_append, HL.out.2, Mk.take_snoc' (by rw [List.length_map]; exact hka), List.map_append]
              show _ ++ [z.t] = _ ++ [plus ((m.tombs.map (·.t))[k]'(by rw [List.length_map]; exact hka)) [node]]
              rw [List.getElem_map, HZ.out.1, HZT.out, HX.out])
            clear hs11 hg11 hat11 h2 g0 g1 g2 g3 g4
            have h3 : w11.cell? ⟨M, 2, none⟩ = some (.slice ao k c) := S11.out.bm.cell 2
            have hf3 : w11.frozen? ⟨M, 2, none⟩ = false := S11.out.bm.free 2
            obtain ⟨W12, hW12⟩ : ∃ W12, W12 = w11.setCell ⟨M, 2, none⟩ (.slice ao5 (k + 1) c5) := ⟨_, rfl⟩
            have S12 := Lib.hid (show AkSt w W12 B M #[.slice o1 n1 f1, .slice o2 n2 f2, .slice (some ⟨go, off, none⟩) n3 f3] (.slice p5 r1 m5) (.slice p6 r2 m6) (.slice ao5 (k + 1) c5) (.slice ao5 (k + 1) c5) m.refs m.toks (k + 1) (o ++ [z]) from by
              rw [hW12]
              exact S11.out.putM _)
            have HW12 := Lib.hid hW12
            clear hW12
            go_upto_region 9 with (fail)
            rw [← HW12.out]
            clear h3 hf3
            go_wp2_with fail
            exact ⟨⟨k + 1, o ++ [z], ao5, c5, by simp, by omega, Lib.hid ⟨S12.out, HMAP.out⟩⟩, by simp [intOf]; omega⟩
          · have ki : ¬ ((k : Int) < n3) := by omega
            have ki2 : decide ((k : Int) < n3) = false := decide_eq_false ki
            obtain rfl : k = n3 := Nat.le_antisymm hkn hge
            clear ki
            have x0 : wr.cell? ⟨M, 0, none⟩ = some (.slice p5 r1 m5) := HL.out.1.bm.cell 0
            have x1 : wr.cell? ⟨M, 1, none⟩ = some (.slice p6 r2 m6) := HL.out.1.bm.cell 1
            have x2 : wr.cell? ⟨M, 2, none⟩ = some (.slice ao k c) := HL.out.1.bm.cell 2
            have y0 : wr.cell? ⟨B + 1, 0, none⟩ = some (.slice none 0 0) := HL.out.1.bz.cell 0
            have y1 : wr.cell? ⟨B + 1, 1, none⟩ = some (.slice none 0 0) := HL.out.1.bz.cell 1
            have y2 : wr.cell? ⟨B + 1, 2, none⟩ = some (.slice none 0 0) := HL.out.1.bz.cell 2
            have yf : ∀ i, wr.frozen? ⟨B + 1, i, none⟩ = false := fun i => HL.out.1.bz.free i
            go_wp2_with fail
            refine ack_end _ (B + 1) #[.slice p5 r1 m5, .slice p6 r2 m6, .slice ao k c] rfl _ 0 _ rfl rfl (mk_put _ _ _ HL.out.1.bz ⟨_, _, _, rfl⟩) ?_
            refine ⟨⟨m.refs, m.toks, o, .slice p5 r1 m5, .slice p6 r2 m6, .slice ao k c⟩, 0, rfl, reads3 HL.out.1.reads HL.out.1.bz _ _ _ _ _ _ _ _ _, ?_, .inr ⟨⟨HG.out.symm, HND.out⟩, ?_, rfl⟩⟩
            · exact below3 HL.out.1.hb (Nat.le_succ B) _ _ _
            · have h1 := HL.out.2
              rw [HN.out.2.2, show m.tombs.length = (m.tombs.map (·.t)).length by rw [List.length_map], List.take_length] at h1
              unfold MkR.mk_
              rw [h1]
    · go_simp
      refine hK.out _ _ ?_ (fun hHeld4 => ?_)
      · exact HK.out _ (hba)
      clear hK K
      refine wpAnyH_ready (rs := [2]) (by kernel_rfl) (by simp) ?_
      refine AllReadyH.cons rfl (fun K hK => ?_) AllReadyH.nil
      go_simp
      go_wp2_with (
        go_at_call 43
        refine (R.out _ (HBW.out _ hba)).mono ?_
        rintro e w5 ⟨v5, rfl, hs5, hb⟩
        obtain ⟨p5, m5, rfl, -, -, -⟩ := hs5.form
        have HS5 := Lib.hid hs5
        clear hs5)
      have hb5 : Below w4.heap.size w4 w5 := hba.trans (hb.mono hba.size)
      have hbb := Lib.hid hb
      refine hK.out _ _ ?_ (fun hHeld2 => ?_)
      · exact HK.out _ hb5
      clear hK K hb
      refine wpAnyH_ready (rs := [5]) (by kernel_rfl) (by simp) ?_
      refine AllReadyH.cons rfl (fun K hK => ?_) AllReadyH.nil
      go_simp
      go_wp2_with (
        go_at_call 44
        refine (T.out _ (HBW.out _ hb5)).mono ?_
        rintro e w6 ⟨v6, rfl, hs6, hb⟩
        obtain ⟨p6, m6, rfl, -, -, -⟩ := hs6.form
        have HS6 := Lib.hid hs6
        clear hs6)
      have hb6 : Below w4.heap.size w4 w6 := hb5.trans (hb.mono hb5.size)
      have hbc := Lib.hid hb
      refine hK.out _ _ ?_ (fun hHeld3 => ?_)
      · exact HK.out _ hb6
      clear hK K hb
      have B6 := Lib.hid (show BlkIs w6 (w4.heap.size) 26 #[.slice none 0 0, .slice none 0 0, .slice none 0 0] from BlkIs.below (BlkIs.below (BlkIs.new w4.drew _ _) hbb.out (by simp)) hbc.out (Nat.lt_of_lt_of_le (BlkIs.below (BlkIs.new w4.drew _ _) hbb.out (by simp)).lt (Nat.le_refl _)))
      have y0 : w6.cell? ⟨w4.heap.size, 0, none⟩ = some (.slice none 0 0) := B6.out.cell 0
      have y1 : w6.cell? ⟨w4.heap.size, 1, none⟩ = some (.slice none 0 0) := B6.out.cell 1
      have y2 : w6.cell? ⟨w4.heap.size, 2, none⟩ = some (.slice none 0 0) := B6.out.cell 2
      have yf : ∀ i, w6.frozen? ⟨w4.heap.size, i, none⟩ = false := fun i => B6.out.free i
      refine wpAnyH_take (i := 6) (v := .agg #[.slice p5 (m.refs.length) m5, .slice p6 (m.toks.length) m6, .slice none 0 0]) rfl (by kernel_rfl) (by kernel_rfl) (by kernel_rfl) (fun _ _ _ h => h) (Or.inl ⟨by kernel_rfl, fun w hSw => ?_⟩) (by assumption) ?_
      · dsimp only at hSw
        go_simp
      simp only [Act.put, List.setIfInBounds_toArray, List.set_cons_zero, List.set_cons_succ]
      refine wpAnyH_ready (rs := [8]) (by kernel_rfl) (by simp) ?_
      refine AllReadyH.cons rfl (fun K hK => ?_) AllReadyH.nil
      go_simp
      refine hK.out _ _ ?_ (fun hHeld5 => ?_)
      · exact HK.out _ (((hb6.setCell (Nat.le_refl _) _).setCell (Nat.le_refl _) _).setCell (Nat.le_refl _) _)
      clear hK K
      refine wpAnyH_done (by kernel_rfl) ?_ _
      obtain ⟨W7, hW7⟩ : ∃ W7, W7 = ((((w6.setCell ⟨w4.heap.size, 0, none⟩ (.slice p5 m.refs.length m5)).setCell ⟨w4.heap.size, 1, none⟩ (.slice p6 m.toks.length m6)).setCell ⟨w4.heap.size, 2, none⟩ (.slice none 0 0))) := ⟨_, rfl⟩
      obtain ⟨M, hM⟩ : ∃ M, M = w4.heap.size := ⟨_, rfl⟩
      have S7 := Lib.hid (show AkSt w W7 B M #[.slice o1 n1 f1, .slice o2 n2 f2, .slice o3 n3 f3] (.slice p5 m.refs.length m5) (.slice p6 m.toks.length m6) (.slice none 0 0) (.slice none 0 0) m.refs m.toks 0 [] from by
        rw [hW7, hM]
        exact ack_start (K4.out.1.below hb6 K4.out.1.lt) (K4.out.2.1.below hb6 K4.out.2.1.lt) (K4.out.2.2.1.trans (hb6.mono (by have := K4.out.2.2.2; omega))) (by have := K4.out.2.2.2; omega) ((HS5.out.later hbc.out).mono (by have := K4.out.2.2.2; simp; omega)) (HS6.out.mono (by have := K4.out.2.2.2; have := hb5.size; omega)) B6.out)
      rw [← hW7, ← hM]
      obtain ⟨r1, hr1⟩ : ∃ n, n = m.refs.length := ⟨_, rfl⟩
      obtain ⟨r2, hr2⟩ : ∃ n, n = m.toks.length := ⟨_, rfl⟩
      rw [← hr1, ← hr2] at S7 ⊢
      clear hW7 hM hr1 hr2 hbd hba HK HBW hb5 hb6 R T G1 y0 y1 y2 yf B6
      have x2 : W7.cell? ⟨B, 2, none⟩ = some (.slice o3 n3 f3) := S7.out.bx.cell 2
      go_wp2_with fail
      clear x2
      go_loopw [31] (fun i wr => ∃ (k : Nat) (o : List TbR) (ao : Option Addr) (c : Nat), i = .int .i64 (k : Int) ∧ k ≤ n3 ∧ Hid (AkSt w wr B M #[.slice o1 n1 f1, .slice o2 n2 f2, .slice o3 n3 f3] (.slice p5 r1 m5) (.slice p6 r2 m6) (.slice ao k c) (.slice ao k c) m.refs m.toks k o ∧ o.map (·.t) = ((m.tombs.map (·.t)).take k).map fun t => plus t [node])) (fun i _ => ((n3 : Int) - intOf i).toNat)
      case atStart => exact ⟨0, [], none, 0, rfl, Nat.zero_le _, Lib.hid ⟨S7.out, by simp⟩⟩
      case round =>
        obtain ⟨k, o, ao, c, rfl, hkn, HL⟩ := hrel
        rcases Nat.lt_or_ge k n3 with hlt | hge
        · have ki : (k : Int) < n3 := by omega
          have kw : IntKind.i64.wrap ((k : Int) + 1) = ((k + 1 : Nat) : Int) := IntWalk.i64_in _ (by omega)
          have hka : k < m.tombs.length := by have := HN.out.2.2; omega
          have hBw : Below w.heap.size w wr := by rw [← HB.out]; exact HL.out.1.hb
          obtain ⟨go, off, hag, hgl, hc⟩ := (HR3.out.later hBw).at_ (by omega)
          subst hag
          obtain ⟨x, hx⟩ : ∃ x, x = m.tombs[k] := ⟨_, rfl⟩
          have hxr : x.Reads w := by rw [hx]; exact HM.out.2.2.2 _ (List.getElem_mem hka)
          have hxs : x.t.cov.length ≤ 256 ∧ x.t.acks.length ≤ 7 := good_small HG.out.symm (t := x.t) (by rw [hx]; exact List.mem_map_of_mem (List.getElem_mem hka))
          obtain ⟨xp3, xm3, ex3, -, -⟩ := hxr.1.form
          obtain ⟨xp4, xm4, ex4, -, -⟩ := hxr.2.form
          obtain ⟨xl3, fx3⟩ : ∃ q, q = x.t.cov.length := ⟨_, rfl⟩
          obtain ⟨xl4, fx4⟩ : ∃ q, q = x.t.acks.length := ⟨_, rfl⟩
          rw [← fx3] at ex3
          rw [← fx4] at ex4
          have u0 : wr.cell? ⟨go, off + k * 5, none⟩ = some (.int .i64 x.t.node) := by rw [hx]; exact hc k hka 0 _ rfl
          have u1 : wr.cell? ⟨go, off + k * 5 + 1, none⟩ = some (.int .i64 x.t.n) := by rw [hx]; exact hc k hka 1 _ rfl
          have u2 : wr.cell? ⟨go, off + k * 5 + 2, none⟩ = some (.string x.t.id) := by rw [hx]; exact hc k hka 2 _ rfl
          have u3 : wr.cell? ⟨go, off + k * 5 + 3, none⟩ = some (.slice xp3 xl3 xm3) := by rw [← ex3, hx]; exact hc k hka 3 _ rfl
          have u4 : wr.cell? ⟨go, off + k * 5 + 4, none⟩ = some (.slice xp4 xl4 xm4) := by rw [← ex4, hx]; exact hc k hka 4 _ rfl
          have eX : aTb x = .agg #[.int .i64 x.t.node, .int .i64 x.t.n, .string x.t.id, .slice xp3 xl3 xm3, .slice xp4 xl4 xm4] := by unfold aTb; rw [ex3, ex4]
          have HX := Lib.hid hx
          obtain ⟨G, hG⟩ : ∃ G, G = wr.heap.size := ⟨_, rfl⟩
          obtain ⟨W8, hW8⟩ : ∃ W8, W8 = (wr.alloc (.cells #[.int .i64 x.t.node, .int .i64 x.t.n, .string x.t.id, .slice xp3 xl3 xm3, .slice xp4 xl4 xm4] 43)).alloc (.cells #[.int .i64 node] 3) := ⟨_, rfl⟩
          have hb8 : Below wr.heap.size wr W8 := by rw [hW8]; exact ((Below.refl _ _).alloc (Nat.le_refl _) _).alloc (by simp) _
          have S8 := Lib.hid (show AkSt w W8 B M #[.slice o1 n1 f1, .slice o2 n2 f2, .slice (some ⟨go, off, none⟩) n3 f3] (.slice p5 r1 m5) (.slice p6 r2 m6) (.slice ao k c) (.slice ao k c) m.refs m.toks k o ∧ BlkIs W8 G 43 #[.int .i64 x.t.node, .int .i64 x.t.n, .string x.t.id, .slice xp3 xl3 xm3, .slice xp4 xl4 xm4] ∧ BlkIs W8 (G + 1) 3 #[.int .i64 node] ∧ G + 2 ≤ W8.heap.size from
            ⟨HL.out.1.later hb8, by rw [hW8, hG]; exact (BlkIs.new _ _ _).alloc _, by rw [hW8, hG]; exact BlkIs.new2 _ _ _ _, by rw [hW8, hG]; simp⟩)
          have HO := Lib.hid (show (Value.slice ao k c).ownBlock ≠ some G ∧ B ≤ G from ⟨fun h => by have := (HL.out.1.s3.lt _ h).2; omega, by rw [hG]; exact Nat.le_trans (Nat.le_of_lt HL.out.1.bx.lt) (Nat.le_refl _)⟩)
          obtain ⟨zt, hzt⟩ : ∃ zt, zt = plus x.t [node] := ⟨_, rfl⟩
          have T8 := Lib.hid (show Calls Tryz.prog 45 #[.agg #[.int .i64 x.t.node, .int .i64 x.t.n, .string x.t.id, .slice xp3 xl3 xm3, .slice xp4 xl4 xm4], .agg #[.int .i64 0, .int .i64 0, .string ⟨#[]⟩, .slice none 0 0, .slice (some ⟨G + 1, 0, none⟩) 1 1]] W8 fun e w' => ∃ (z : TbR) (zp3 : Option Addr) (zl3 zm3 : Nat) (zp4 : Option Addr) (zl4 zm4 : Nat) (q : Bool), e = .returned (.tuple #[.agg #[.int .i64 z.t.node, .int .i64 z.t.n, .string z.t.id, .slice zp3 zl3 zm3, .slice zp4 zl4 zm4], .bool q]) ∧ (z.t = zt ∧ (z.cv = .slice zp3 zl3 zm3 ∧ z.av = .slice zp4 zl4 zm4) ∧ KeptN B w' z) ∧ Below W8.heap.size W8 w' from by
            have hb0 : Below w.heap.size w W8 := hBw.trans (hb8.mono hBw.size)
            have hy : TbR.Reads W8 ⟨⟨0, 0, ⟨#[]⟩, [], [node]⟩, .slice none 0 0, .slice (some ⟨G + 1, 0, none⟩) 1 1⟩ := ⟨RowAt.nil_ _ _ _ _ _ (by decide), RowAt.of_sl (base := 0) (e := 3) (fun _ => rfl) (SlIs.made S8.out.2.2.1 (Nat.zero_le _) rfl (by decide))⟩
            have h0 := meets_any x ⟨⟨0, 0, ⟨#[]⟩, [], [node]⟩, .slice none 0 0, .slice (some ⟨G + 1, 0, none⟩) 1 1⟩ W8 ⟨hxr.1.later hb0, hxr.2.later hb0⟩ hy ⟨by omega, by omega⟩ ⟨by simp, by simp⟩
            rw [eX] at h0
            refine h0.mono ?_
            rintro e w' ⟨cv, av, rfl, ⟨h1, h2⟩, h3⟩
            obtain ⟨zp3, zm3, rfl, -, -, -⟩ := h1.form
            obtain ⟨zp4, zm4, rfl, -, -, -⟩ := h2.form
            have hsz : B ≤ W8.heap.size := Nat.le_of_lt S8.out.1.bx.lt
            exact ⟨⟨plus x.t [node], _, _⟩, _, _, _, _, _, _, _, rfl, ⟨hzt.symm, ⟨rfl, rfl⟩, h1.mono hsz, h2.mono hsz⟩, h3⟩)
          have HZT := Lib.hid hzt
          have HW8 := Lib.hid (And.intro hW8 hG)
          clear hc hx hxr hxs ex3 ex4 fx3 fx4 eX hgl hBw hb8 hW8 hG hzt
          go_upto_region 7 with (fail)
          clear u0 u1 u2 u3 u4
          rw [← HW8.out.2]
          obtain ⟨W7b, hW7b⟩ : ∃ W7b, W7b = wr.alloc (.cells #[.int .i64 x.t.node, .int .i64 x.t.n, .string x.t.id, .slice xp3 xl3 xm3, .slice xp4 xl4 xm4] 43) := ⟨_, rfl⟩
          have B7 := Lib.hid (show BlkIs W7b G 43 #[.int .i64 x.t.node, .int .i64 x.t.n, .string x.t.id, .slice xp3 xl3 xm3, .slice xp4 xl4 xm4] ∧ W7b.heap.size = G + 1 from by rw [hW7b, HW8.out.2]; exact ⟨BlkIs.new _ _ _, by simp⟩)
          have EW8 := Lib.hid (show W8 = W7b.alloc (.cells #[.int .i64 node] 3) from by rw [hW7b]; exact HW8.out.1)
          rw [← hW7b]
          clear hW7b
          have D0 : W7b.cell? ⟨G, 0, none⟩ = some (.int .i64 x.t.node) := B7.out.1.cell 0
          have D1 : W7b.cell? ⟨G, 1, none⟩ = some (.int .i64 x.t.n) := B7.out.1.cell 1
          have D2 : W7b.cell? ⟨G, 2, none⟩ = some (.string x.t.id) := B7.out.1.cell 2
          have D3 : W7b.cell? ⟨G, 3, none⟩ = some (.slice xp3 xl3 xm3) := B7.out.1.cell 3
          have D4 : W7b.cell? ⟨G, 4, none⟩ = some (.slice xp4 xl4 xm4) := B7.out.1.cell 4
          have hz7 : W7b.heap.size = G + 1 := B7.out.2
          go_wp2_with fail
          rw [← EW8.out]
          clear D0 D1 D2 D3 D4 hz7
          refine T8.out.mono ?_
          rintro e w9 ⟨z, zp3, zl3, zm3, zp4, zl4, zm4, q, rfl, hz, hb9⟩
          have S9 := Lib.hid (show AkSt w w9 B M #[.slice o1 n1 f1, .slice o2 n2 f2, .slice (some ⟨go, off, none⟩) n3 f3] (.slice p5 r1 m5) (.slice p6 r2 m6) (.slice ao k c) (.slice ao k c) m.refs m.toks k o ∧ BlkIs w9 G 43 #[.int .i64 x.t.node, .int .i64 x.t.n, .string x.t.id, .slice xp3 xl3 xm3, .slice xp4 xl4 xm4] ∧ KeptN B w9 z ∧ G + 2 ≤ w9.heap.size from
            ⟨S8.out.1.later hb9, S8.out.2.1.below hb9 S8.out.2.1.lt, hz.2.2, Nat.le_trans S8.out.2.2.2 hb9.size⟩)
          have HZ := Lib.hid hz
          clear hz hb9 T8
          have e0 : w9.cell? ⟨G, 0, none⟩ = some (.int .i64 x.t.node) := S9.out.2.1.cell 0
          have e1 : w9.cell? ⟨G, 1, none⟩ = some (.int .i64 x.t.n) := S9.out.2.1.cell 1
          have e2 : w9.cell? ⟨G, 2, none⟩ = some (.string x.t.id) := S9.out.2.1.cell 2
          have e3 : w9.cell? ⟨G, 3, none⟩ = some (.slice xp3 xl3 xm3) := S9.out.2.1.cell 3
          have e4 : w9.cell? ⟨G, 4, none⟩ = some (.slice xp4 xl4 xm4) := S9.out.2.1.cell 4
          have ef : ∀ i, w9.frozen? ⟨G, i, none⟩ = false := fun i => S9.out.2.1.free i
          obtain ⟨W10, hW10⟩ : ∃ W10, W10 = ((((w9.setCell ⟨G, 0, none⟩ (.int .i64 z.t.node)).setCell ⟨G, 1, none⟩ (.int .i64 z.t.n)).setCell ⟨G, 2, none⟩ (.string z.t.id)).setCell ⟨G, 3, none⟩ (.slice zp3 zl3 zm3)).setCell ⟨G, 4, none⟩ (.slice zp4 zl4 zm4) := ⟨_, rfl⟩
          have S10 := Lib.hid (show AkSt w W10 B M #[.slice o1 n1 f1, .slice o2 n2 f2, .slice (some ⟨go, off, none⟩) n3 f3] (.slice p5 r1 m5) (.slice p6 r2 m6) (.slice ao k c) (.slice ao k c) m.refs m.toks k o ∧ BlkIs W10 G 43 #[.int .i64 z.t.node, .int .i64 z.t.n, .string z.t.id, .slice zp3 zl3 zm3, .slice zp4 zl4 zm4] ∧ KeptN B W10 z ∧ G + 2 ≤ W10.heap.size from by
            rw [hW10]
            exact ⟨S9.out.1.five S9.out.2.1 HO.out.1 HO.out.2 _ _ _ _ _, tb_put _ _ _ _ _ S9.out.2.1 ⟨_, _, _, _, _, rfl⟩, ⟨sl_five S9.out.2.2.1.1 (S9.out.2.2.1.1.ne_blk S9.out.2.1 (by decide)), sl_five S9.out.2.2.1.2 (S9.out.2.2.1.2.ne_blk S9.out.2.1 (by decide))⟩, by have := S9.out.2.2.2; simpa [World.setCell] using this⟩)
          have HW10 := Lib.hid hW10
          clear hW10
          go_upto_region 8 with (fail)
          rw [← HW10.out]
          clear e0 e1 e2 e3 e4 ef
          have g0 : W10.cell? ⟨G, 0, none⟩ = some (.int .i64 z.t.node) := S10.out.2.1.cell 0
          have g1 : W10.cell? ⟨G, 1, none⟩ = some (.int .i64 z.t.n) := S10.out.2.1.cell 1
          have g2 : W10.cell? ⟨G, 2, none⟩ = some (.string z.t.id) := S10.out.2.1.cell 2
          have g3 : W10.cell? ⟨G, 3, none⟩ = some (.slice zp3 zl3 zm3) := S10.out.2.1.cell 3
          have g4 : W10.cell? ⟨G, 4, none⟩ = some (.slice zp4 zl4 zm4) := S10.out.2.1.cell 4
          have h2 : W10.cell? ⟨M, 2, none⟩ = some (.slice ao k c) := S10.out.1.bm.cell 2
          have kc := S10.out.1.s3.capLe
          go_wp2_with (refine wpList_append_sl rfl _ _ _ 24 (by rfl) el_tb (base := B) (.slice ao k c) k (rowCells vTb o) (by rfl) (S10.out.1.s3.alloc _) _ 1 [.int .i64 z.t.node, .int .i64 z.t.n, .string z.t.id, .slice zp3 zl3 zm3, .slice zp4 zl4 zm4] (by rfl) (SrcIs.own Tryz.underlying24 (SlIs.made (base := 0) (BlkIs.new _ _ _) (Nat.zero_le _) rfl (by decide))) (by intro u hu; simp at hu; rcases hu with rfl | rfl | rfl | rfl | rfl <;> rfl) (by unfold maxLen; omega) (by omega) (by have := S10.out.1.bx.lt; simp; omega) ?_)
          intro v11 w11 hs11 hg11 hat11
          have S11 := Lib.hid (show AkSt w w11 B M #[.slice o1 n1 f1, .slice o2 n2 f2, .slice (some ⟨go, off, none⟩) n3 f3] (.slice p5 r1 m5) (.slice p6 r2 m6) (.slice ao k c) v11 m.refs m.toks (k + 1) (o ++ [z]) from by
            refine (S10.out.1.later ((Below.refl _ _).alloc (Nat.le_refl _) _)).grown hg11 ?_ (by rw [List.length_append, List.length_singleton, ← S10.out.1.len]) (fun u hu => (List.mem_append.1 hu).imp id fun h => by rw [List.mem_singleton.1 h]; exact ⟨S10.out.2.2.1.1.alloc _, S10.out.2.2.1.2.alloc _⟩)
            rw [rowCells_app, rowCells_one]
            unfold vTb
            rw [HZ.out.2.1.1, HZ.out.2.1.2]
            exact hs11)
          obtain ⟨ao5, c5, rfl, -, -, -⟩ := hs11.form
          have HMAP := Lib.hid (show (o ++ [z]).map (·.t) = ((m.tombs.map (·.t)).take (k + 1)).map (fun t => plus t [node]) from by
            rw [List.map_append, HL.out.2, Mk.take_snoc' (by rw [List.length_map]; exact hka), List.map_append]
            show _ ++ [z.t] = _ ++ [plus ((m.tombs.map (·.t))[k]'(by rw [List.length_map]; exact hka)) [node]]
            rw [List.getElem_map, HZ.out.1, HZT.out, HX.out])
          clear hs11 hg11 hat11 h2 g0 g1 g2 g3 g4
          have h3 : w11.cell? ⟨M, 2, none⟩ = some (.slice ao k c) := S11.out.bm.cell 2
          have hf3 : w11.frozen? ⟨M, 2, none⟩ = false := S11.out.bm.free 2
          obtain ⟨W12, hW12⟩ : ∃ W12, W12 = w11.setCell ⟨M, 2, none⟩ (.slice ao5 (k + 1) c5) := ⟨_, rfl⟩
          have S12 := Lib.hid (show AkSt w W12 B M #[.slice o1 n1 f1, .slice o2 n2 f2, .slice (some ⟨go, off, none⟩) n3 f3] (.slice p5 r1 m5) (.slice p6 r2 m6) (.slice ao5 (k + 1) c5) (.slice ao5 (k + 1) c5) m.refs m.toks (k + 1) (o ++ [z]) from by
            rw [hW12]
            exact S11.out.putM _)
          have HW12 := Lib.hid hW12
          clear hW12
          go_upto_region 9 with (fail)
          rw [← HW12.out]
          clear h3 hf3
          go_wp2_with fail
          exact ⟨⟨k + 1, o ++ [z], ao5, c5, by simp, by omega, Lib.hid ⟨S12.out, HMAP.out⟩⟩, by simp [intOf]; omega⟩
        · have ki : ¬ ((k : Int) < n3) := by omega
          have ki2 : decide ((k : Int) < n3) = false := decide_eq_false ki
          obtain rfl : k = n3 := Nat.le_antisymm hkn hge
          clear ki
          have x0 : wr.cell? ⟨M, 0, none⟩ = some (.slice p5 r1 m5) := HL.out.1.bm.cell 0
          have x1 : wr.cell? ⟨M, 1, none⟩ = some (.slice p6 r2 m6) := HL.out.1.bm.cell 1
          have x2 : wr.cell? ⟨M, 2, none⟩ = some (.slice ao k c) := HL.out.1.bm.cell 2
          have y0 : wr.cell? ⟨B + 1, 0, none⟩ = some (.slice none 0 0) := HL.out.1.bz.cell 0
          have y1 : wr.cell? ⟨B + 1, 1, none⟩ = some (.slice none 0 0) := HL.out.1.bz.cell 1
          have y2 : wr.cell? ⟨B + 1, 2, none⟩ = some (.slice none 0 0) := HL.out.1.bz.cell 2
          have yf : ∀ i, wr.frozen? ⟨B + 1, i, none⟩ = false := fun i => HL.out.1.bz.free i
          go_wp2_with fail
          refine ack_end _ (B + 1) #[.slice p5 r1 m5, .slice p6 r2 m6, .slice ao k c] rfl _ 0 _ rfl rfl (mk_put _ _ _ HL.out.1.bz ⟨_, _, _, rfl⟩) ?_
          refine ⟨⟨m.refs, m.toks, o, .slice p5 r1 m5, .slice p6 r2 m6, .slice ao k c⟩, 0, rfl, reads3 HL.out.1.reads HL.out.1.bz _ _ _ _ _ _ _ _ _, ?_, .inr ⟨⟨HG.out.symm, HND.out⟩, ?_, rfl⟩⟩
          · exact below3 HL.out.1.hb (Nat.le_succ B) _ _ _
          · have h1 := HL.out.2
            rw [HN.out.2.2, show m.tombs.length = (m.tombs.map (·.t)).length by rw [List.length_map], List.take_length] at h1
            unfold MkR.mk_
            rw [h1]
end Go.Proofs.YtbmknmjcoeinkaaGreat.Mg
