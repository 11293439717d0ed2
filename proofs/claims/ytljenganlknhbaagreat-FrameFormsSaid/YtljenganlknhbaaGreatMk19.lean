/- mark.Decode, walked. (Layer 12.) -/
import Derived.Test.YtljenganlknhbaaGreatMk18
import Derived.Test.YtljenganlknhbaaGreatMk11
namespace Go.Proofs.YtljenganlknhbaaGreat.Mk
set_option linter.unusedVariables false
open Go.RowKit Oct
theorem rList_len {α : Type} (one : RS → α × RS) : ∀ (n : Nat) (s : RS), (rList one n s).1.length ≤ n
  | 0, s => by simp [rList]
  | n + 1, s => by
    rw [rList]
    split
    · simp
    · have := rList_len one n (one s).2
      simp only [List.length_cons]
      omega
theorem rList_all {α : Type} {one : RS → α × RS} {P : α → Prop} (h : ∀ s, P (one s).1) : ∀ (n : Nat) (s : RS), ∀ x ∈ (rList one n s).1, P x
  | 0, s => by simp [rList]
  | n + 1, s => by
    rw [rList]
    split
    · simp
    · intro x hx
      rcases List.mem_cons.1 hx with rfl | hx
      · exact h s
      · exact rList_all h n _ x hx
theorem rMany_len {α : Type} (one : RS → α × RS) (most : Int) (s : RS) (h : 0 ≤ most) : ((rMany one most s).1.length : Int) ≤ most := by
  unfold rMany
  split
  · next hc => rw [rList_bad one _ spoilt rfl]; simpa using h
  · next hc =>
    have h1 := rList_len one (rNum s).1.toNat (rNum s).2
    have h2 := (rNum_lt s).1
    omega
theorem rTb_fit (s : RS) : (rTb s).1.acks.length ≤ 1000000 ∧ (rTb s).1.cov.length ≤ 1000000 := by
  have h1 := rMany_len rNum 7 (rMany (rCov (rTok s).1.id) 256 (rTok s).2).2 (by decide)
  have h2 := rMany_len (rCov (rTok s).1.id) 256 (rTok s).2 (by decide)
  exact ⟨by show (rMany rNum 7 (rMany (rCov (rTok s).1.id) 256 (rTok s).2).2).1.length ≤ _; omega, by show (rMany (rCov (rTok s).1.id) 256 (rTok s).2).1.length ≤ _; omega⟩
theorem moved_below {g : Nat} {w w' : World} (h : Moved g w w') (hg : w.heap.size ≤ g) : Below w.heap.size w w' := ⟨h.os, h.tape, h.output, h.size, fun k hk => h.block k hk (by simp; omega)⟩
theorem St3.moved {w : World} {g : Nat} {s s' : RS} {B : Nat} {t : TypeId} {cs : Array Value} {B2 : Nat} {t2 : TypeId} {cs2 : Array Value} {T : Nat} {t3 : TypeId} {cs3 : Array Value} {W W' : World} (h : St3 w g s B t cs B2 t2 cs2 T t3 cs3 W) (hr : Rd W' g s'.1 s'.2) (hm : Moved g W W') : St3 w g s' B t cs B2 t2 cs2 T t3 cs3 W' :=
  ⟨h.1.moved hr hm, hm.blk h.2.1 h.2.2, h.2.2⟩
theorem St3.put {w : World} {g : Nat} {s : RS} {B : Nat} {t : TypeId} {cs : Array Value} {B2 : Nat} {t2 : TypeId} {cs2 : Array Value} {T : Nat} {t3 : TypeId} {cs3 : Array Value} {W : World} (h : St3 w g s B t cs B2 t2 cs2 T t3 cs3 W) (hB : B ≠ B2) (hT : T ≠ B2) (hw : w.heap.size ≤ B2) (i : Nat) (v : Value) :
    St3 w g s B t cs B2 t2 (cs2.setIfInBounds i v) T t3 cs3 (W.setCell ⟨B2, i, none⟩ v) := ⟨h.1.store hB hw i v, h.2.1.far (p := ⟨B2, i, none⟩) hT v, h.2.2⟩
/-- Nothing has been read. -/
def MkR.none_ : MkR := ⟨[], [], [], .slice none 0 0, .slice none 0 0, .slice none 0 0⟩
theorem RowAt.nil_ {k : Nat} {α : Type} (enc : α → List Value) (hk : ∀ x, (enc x).length = k) (w : World) : RowAt k enc w (.slice none 0 0) [] := RowAt.of_sl (base := 0) (e := 0) hk (SlIs.nil_ _ _ _ _)
theorem MkR.none_reads (w : World) : MkR.none_.Reads w := ⟨RowAt.nil_ vRf (fun _ => rfl) w, RowAt.nil_ vTok (fun _ => rfl) w, RowAt.nil_ vTb (fun _ => rfl) w, fun z hz => by cases hz⟩
theorem MkR.none_small : MkR.none_.Small := ⟨by decide, by decide, by decide, fun z hz => by cases hz⟩
/-- Marks whose lists a call has made itself, from base on. -/
def MkR.Own (base : Nat) (w : World) (m : MkR) : Prop := SlIs w base 51 3 m.rv m.refs.length (rowCells vRf m.refs) ∧ SlIs w base 102 3 m.kv m.toks.length (rowCells vTok m.toks) ∧ SlIs w base 54 5 m.bv m.tombs.length (rowCells vTb m.tombs) ∧ ∀ z ∈ m.tombs, z.Own base w
theorem MkR.Own.later {base : Nat} {w w' : World} {m : MkR} (h : m.Own base w) (hb : Below w.heap.size w w') : m.Own base w' := ⟨h.1.later hb, h.2.1.later hb, h.2.2.1.later hb, fun z hz => (h.2.2.2 z hz).later hb⟩
theorem TbR.Own.far {base : Nat} {w : World} {x : TbR} (h : x.Own base w) {g : Nat} {cs : Array Value} (hB : BlkIs w g 28 cs) (i : Nat) (u : Value) : x.Own base (w.setCell ⟨g, i, none⟩ u) :=
  ⟨h.1.far (p := ⟨g, i, none⟩) (h.1.ne_blk hB (by decide)) u, h.2.far (p := ⟨g, i, none⟩) (h.2.ne_blk hB (by decide)) u⟩
theorem MkR.Own.far {base : Nat} {w : World} {m : MkR} (h : m.Own base w) {g : Nat} {cs : Array Value} (hB : BlkIs w g 28 cs) (i : Nat) (u : Value) : m.Own base (w.setCell ⟨g, i, none⟩ u) :=
  ⟨h.1.far (p := ⟨g, i, none⟩) (h.1.ne_blk hB (by decide)) u, h.2.1.far (p := ⟨g, i, none⟩) (h.2.1.ne_blk hB (by decide)) u, h.2.2.1.far (p := ⟨g, i, none⟩) (h.2.2.1.ne_blk hB (by decide)) u, fun z hz => (h.2.2.2 z hz).far hB i u⟩
theorem MkR.Own.reads {base : Nat} {w : World} {m : MkR} (h : m.Own base w) : m.Reads w := ⟨RowAt.of_sl (fun _ => rfl) h.1, RowAt.of_sl (fun _ => rfl) h.2.1, RowAt.of_sl (fun _ => rfl) h.2.2.1, fun z hz => (h.2.2.2 z hz).reads⟩
/-- What Decode hands back. -/
def DecOut (s : ByteArray) (w : World) (e : Ending) (w' : World) : Prop :=
  ∃ (m : MkR) (k : Int), e = .returned (.tuple #[aMk m, .int .i64 k]) ∧ m.Reads w' ∧ m.Small ∧ Below w.heap.size w w' ∧ ((dec s = some m.mk_ ∧ k = 0) ∨ (dec s = none ∧ m = MkR.none_ ∧ k = 4))
/-- The same; its lists are the call's own. -/
def DecOwn (s : ByteArray) (w : World) (e : Ending) (w' : World) : Prop :=
  ∃ (m : MkR) (k : Int), e = .returned (.tuple #[aMk m, .int .i64 k]) ∧ m.Own w.heap.size w' ∧ m.Small ∧ Below w.heap.size w w' ∧ ((dec s = some m.mk_ ∧ k = 0) ∨ (dec s = none ∧ m = MkR.none_ ∧ k = 4))
theorem DecOwn.out {s : ByteArray} {w w' : World} {e : Ending} (h : DecOwn s w e w') : DecOut s w e w' := by
  obtain ⟨m, k, h1, h2, h3⟩ := h
  exact ⟨m, k, h1, h2.reads, h3⟩
theorem MkR.none_own (base : Nat) (w : World) : MkR.none_.Own base w := ⟨SlIs.nil_ _ _ _ _, SlIs.nil_ _ _ _ _, SlIs.nil_ _ _ _ _, fun z hz => by cases hz⟩
theorem MkR.Own.mono {base base' : Nat} {w : World} {m : MkR} (h : m.Own base w) (hb : base' ≤ base) : m.Own base' w := ⟨h.1.mono hb, h.2.1.mono hb, h.2.2.1.mono hb, fun z hz => (h.2.2.2 z hz).mono hb⟩
set_option maxRecDepth 100000 in
set_option maxHeartbeats 4000000 in
theorem decode_own (s : ByteArray) (w : World) : Calls Tryz.prog 53 #[.string s] w fun e w' => DecOwn s w e w' := by
  obtain ⟨W1, hW1⟩ : ∃ W1, W1 = w.alloc (.cells #[.slice none 0 0, .slice none 0 0, .slice none 0 0] 28) := ⟨_, rfl⟩
  have k0 : BlkIs W1 w.heap.size 28 #[.slice none 0 0, .slice none 0 0, .slice none 0 0] := by rw [hW1]; exact BlkIs.new _ _ _
  have hb0 : Below w.heap.size w W1 := by rw [hW1]; exact (Below.refl _ _).alloc (Nat.le_refl _) _
  have HW := Lib.hid hW1
  have H1 := Lib.hid (And.intro k0 hb0)
  clear hW1 k0 hb0
  go_enter Tryz.func53, Tryz.ntmps53
  go_wp2_with fail
  rw [← HW.out]
  refine (rd_new s W1).mono ?_
  rintro e w2 ⟨rfl, hr2, hb2⟩
  obtain ⟨g, hg⟩ : ∃ g, g = W1.heap.size := ⟨_, rfl⟩
  rw [← hg] at hr2 ⊢
  obtain ⟨B, hB⟩ : ∃ B, B = w2.heap.size := ⟨_, rfl⟩
  obtain ⟨M, hM⟩ : ∃ M, M = w2.heap.size + 1 := ⟨_, rfl⟩
  have hwW : w.heap.size < W1.heap.size := H1.out.1.lt
  obtain ⟨W3, hW3⟩ : ∃ W3, W3 = (w2.alloc (.cells #[.pointer (some ⟨g, 0, none⟩)] 119)).alloc (.cells #[.slice none 0 0, .slice none 0 0, .slice none 0 0] 28) := ⟨_, rfl⟩
  have hbW : Below w2.heap.size w2 W3 := by rw [hW3]; exact ((Below.refl _ _).alloc (Nat.le_refl _) _).alloc (by simp) _
  have k1 : BlkIs W3 B 119 #[.pointer (some ⟨g, 0, none⟩)] := by rw [hW3, hB]; exact (BlkIs.new _ _ _).alloc _
  have k2 : BlkIs W3 M 28 #[.slice none 0 0, .slice none 0 0, .slice none 0 0] := by rw [hW3, hM]; exact BlkIs.new2 _ _ _ _
  have hgl : g < w2.heap.size := hr2.lt
  have k0 : BlkIs W3 w.heap.size 28 #[.slice none 0 0, .slice none 0 0, .slice none 0 0] := BlkIs.below (BlkIs.below H1.out.1 hb2 hwW) hbW (by omega)
  have bW : Below w.heap.size w W3 := H1.out.2.trans ((hb2.mono (by omega)).trans (hbW.mono (by omega)))
  have HS := Lib.hid (show St3 w g (s, false) B 119 #[.pointer (some ⟨g, 0, none⟩)] M 28 #[.slice none 0 0, .slice none 0 0, .slice none 0 0] w.heap.size 28 #[.slice none 0 0, .slice none 0 0, .slice none 0 0] W3 from
    ⟨⟨BlkIs.below hr2 hbW hgl, Moved.of_below bW, k1, k2, by omega, by omega⟩, k0, by omega⟩)
  have NB : B ≠ M := by omega
  have NB' : M ≠ B := by omega
  have NR : w.heap.size ≠ M := by omega
  have NR' : M ≠ w.heap.size := by omega
  have NRB : w.heap.size ≠ B := by omega
  have NRB' : B ≠ w.heap.size := by omega
  have HN := Lib.hid (show w.heap.size ≤ g ∧ w.heap.size ≤ M ∧ M < W3.heap.size from ⟨by omega, by omega, k2.lt⟩)
  have d0 : W3.cell? ⟨B, 0, none⟩ = some (.pointer (some ⟨g, 0, none⟩)) := k1.cell 0
  have HW3 := Lib.hid (show W3 = (w2.alloc (.cells #[.pointer (some ⟨g, 0, none⟩)] 119)).alloc (.cells #[.slice none 0 0, .slice none 0 0, .slice none 0 0] 28) from hW3)
  have HB := Lib.hid hB
  have HM := Lib.hid hM
  clear hg hb2 hB hM hwW hW3 hbW k1 k2 hgl k0 bW hr2
  go_wp2_with fail
  rw [← HM.out, ← HB.out, ← HW3.out]
  clear HB HM HW3 H1 HW
  have OK : OneOk 106 #[.agg #[.pointer (some ⟨g, 0, none⟩)]] #[] aRf (fun x : Rf => x) (fun _ _ => True) rRf g W3 :=
    ⟨fun _ _ => rfl, fun s V hm hr => (rd_ref g s V hr).mono fun e V' h => ⟨_, h.1, rfl, trivial, h.2.1, h.2.2⟩⟩
  refine (list_rf g (s, false) 64 _ _ _ rRf W3 HS.out.1.1 (by decide) (by decide) OK).mono ?_
  rintro e Y0 ⟨v, l0, rfl, hs, hl, hr, hm, hown⟩
  clear OK
  obtain ⟨o0, c0, rfl, -, -, -⟩ := hs.form
  obtain ⟨n0, hn⟩ : ∃ n, n = l0.length := ⟨_, rfl⟩
  rw [← hn] at hs ⊢
  have S2 : St3 w g (rMany rRf 64 (s, false)).2 B 119 #[.pointer (some ⟨g, 0, none⟩)] M 28 #[.slice none 0 0, .slice none 0 0, .slice none 0 0] w.heap.size 28 #[.slice none 0 0, .slice none 0 0, .slice none 0 0] Y0 := HS.out.moved hr hm
  have d1 : Y0.cell? ⟨B, 0, none⟩ = some (.pointer (some ⟨g, 0, none⟩)) := S2.1.2.2.1.cell 0
  have e0 : Y0.cell? ⟨M, 0, none⟩ = some (.slice none 0 0) := S2.1.2.2.2.1.cell 0
  have f0 : Y0.frozen? ⟨M, 0, none⟩ = false := S2.1.2.2.2.1.free 0
  have gW : g + 1 ≤ W3.heap.size := HS.out.1.1.lt
  have hs2 := (hs.far (p := ⟨M, 0, none⟩) (hs.ne_blk S2.1.2.2.2.1 (by decide)) (.slice o0 n0 c0)).mono (base' := g + 1) gW
  have S3 := S2.put NB NR HN.out.2.1 0 (.slice o0 n0 c0)
  have HT0 := Lib.hid (show St3 w g (rMany rRf 64 (s, false)).2 B 119 #[.pointer (some ⟨g, 0, none⟩)] M 28 #[.slice o0 n0 c0, .slice none 0 0, .slice none 0 0] w.heap.size 28 #[.slice none 0 0, .slice none 0 0, .slice none 0 0] (Y0.setCell ⟨M, 0, none⟩ (.slice o0 n0 c0)) from S3)
  have HL0 := Lib.hid (And.intro hl hn)
  have HO0 := Lib.hid (And.intro hs2 trivial)
  clear hs hl hr hm hown hn S2 S3 gW hs2  d0
  go_wp2_with fail
  obtain ⟨X0, hX⟩ : ∃ X, X = Y0.setCell ⟨M, 0, none⟩ (.slice o0 n0 c0) := ⟨_, rfl⟩
  rw [← hX] at HT0 HO0 ⊢
  clear hX
  have OK : OneOk 108 #[.agg #[.pointer (some ⟨g, 0, none⟩)]] #[] aTok (fun x : Tok => x) (fun _ _ => True) rTok g X0 :=
    ⟨fun _ _ => rfl, fun s V hm hr => (rd_token g s V hr).mono fun e V' h => ⟨_, h.1, rfl, trivial, h.2.1, h.2.2⟩⟩
  refine (list_tok g (rMany rRf 64 (s, false)).2 256 _ _ _ rTok X0 HT0.out.1.1 (by decide) (by decide) OK).mono ?_
  rintro e Y1 ⟨v, l1, rfl, hs, hl, hr, hm, hown⟩
  clear OK
  obtain ⟨o1, c1, rfl, -, -, -⟩ := hs.form
  obtain ⟨n1, hn⟩ : ∃ n, n = l1.length := ⟨_, rfl⟩
  rw [← hn] at hs ⊢
  have S2 : St3 w g (rMany rTok 256 (rMany rRf 64 (s, false)).2).2 B 119 #[.pointer (some ⟨g, 0, none⟩)] M 28 #[.slice o0 n0 c0, .slice none 0 0, .slice none 0 0] w.heap.size 28 #[.slice none 0 0, .slice none 0 0, .slice none 0 0] Y1 := HT0.out.moved hr hm
  have d2 : Y1.cell? ⟨B, 0, none⟩ = some (.pointer (some ⟨g, 0, none⟩)) := S2.1.2.2.1.cell 0
  have e1 : Y1.cell? ⟨M, 1, none⟩ = some (.slice none 0 0) := S2.1.2.2.2.1.cell 1
  have f1 : Y1.frozen? ⟨M, 1, none⟩ = false := S2.1.2.2.2.1.free 1
  have gW : g + 1 ≤ X0.heap.size := HT0.out.1.1.lt
  have hs2 := (hs.far (p := ⟨M, 1, none⟩) (hs.ne_blk S2.1.2.2.2.1 (by decide)) (.slice o1 n1 c1)).mono (base' := g + 1) gW
  have hq0 := hm.sl HO0.out.1 (Nat.lt_succ_self g)
  have hq0 := hq0.far (p := ⟨M, 1, none⟩) (hq0.ne_blk S2.1.2.2.2.1 (by decide)) (.slice o1 n1 c1)
  have S3 := S2.put NB NR HN.out.2.1 1 (.slice o1 n1 c1)
  have HT1 := Lib.hid (show St3 w g (rMany rTok 256 (rMany rRf 64 (s, false)).2).2 B 119 #[.pointer (some ⟨g, 0, none⟩)] M 28 #[.slice o0 n0 c0, .slice o1 n1 c1, .slice none 0 0] w.heap.size 28 #[.slice none 0 0, .slice none 0 0, .slice none 0 0] (Y1.setCell ⟨M, 1, none⟩ (.slice o1 n1 c1)) from S3)
  have HL1 := Lib.hid (And.intro hl hn)
  have HO0 := Lib.hid (And.intro hq0 trivial)
  have HO1 := Lib.hid (And.intro hs2 trivial)
  clear hs hl hr hm hown hn S2 S3 gW hs2 hq0 d1
  go_wp2_with fail
  obtain ⟨X1, hX⟩ : ∃ X, X = Y1.setCell ⟨M, 1, none⟩ (.slice o1 n1 c1) := ⟨_, rfl⟩
  rw [← hX] at HT1 HO0 HO1 ⊢
  clear hX
  have OK : OneOk 110 #[.agg #[.pointer (some ⟨g, 0, none⟩)]] #[] aTb (fun x : TbR => x.t) (fun W (x : TbR) => x.Own X1.heap.size W) rTb g X1 :=
    ⟨fun _ _ => rfl, fun s V hm hr => (rd_tomb g s V hr).mono fun e V' h => let ⟨r, h1, h2, h3, h4, h5⟩ := h; ⟨r, h1, h2, h3.mono hm.size, h4, h5⟩⟩
  refine (list_tb g (rMany rTok 256 (rMany rRf 64 (s, false)).2).2 64 _ _ _ rTb X1 HT1.out.1.1 (by decide) (by decide) OK).mono ?_
  rintro e Y2 ⟨v, l2, rfl, hs, hl, hr, hm, hown⟩
  clear OK
  obtain ⟨o2, c2, rfl, -, -, -⟩ := hs.form
  obtain ⟨n2, hn⟩ : ∃ n, n = l2.length := ⟨_, rfl⟩
  rw [← hn] at hs ⊢
  have S2 : St3 w g (rMany rTb 64 (rMany rTok 256 (rMany rRf 64 (s, false)).2).2).2 B 119 #[.pointer (some ⟨g, 0, none⟩)] M 28 #[.slice o0 n0 c0, .slice o1 n1 c1, .slice none 0 0] w.heap.size 28 #[.slice none 0 0, .slice none 0 0, .slice none 0 0] Y2 := HT1.out.moved hr hm
  have d3 : Y2.cell? ⟨B, 0, none⟩ = some (.pointer (some ⟨g, 0, none⟩)) := S2.1.2.2.1.cell 0
  have e2 : Y2.cell? ⟨M, 2, none⟩ = some (.slice none 0 0) := S2.1.2.2.2.1.cell 2
  have f2 : Y2.frozen? ⟨M, 2, none⟩ = false := S2.1.2.2.2.1.free 2
  have gW : g + 1 ≤ X1.heap.size := HT1.out.1.1.lt
  have hs2 := (hs.far (p := ⟨M, 2, none⟩) (hs.ne_blk S2.1.2.2.2.1 (by decide)) (.slice o2 n2 c2)).mono (base' := g + 1) gW
  have hq0 := hm.sl HO0.out.1 (Nat.lt_succ_self g)
  have hq0 := hq0.far (p := ⟨M, 2, none⟩) (hq0.ne_blk S2.1.2.2.2.1 (by decide)) (.slice o2 n2 c2)
  have hq1 := hm.sl HO1.out.1 (Nat.lt_succ_self g)
  have hq1 := hq1.far (p := ⟨M, 2, none⟩) (hq1.ne_blk S2.1.2.2.2.1 (by decide)) (.slice o2 n2 c2)
  have hown := fun z hz => ((hown z hz).far S2.1.2.2.2.1 2 (.slice o2 n2 c2)).mono (base' := g + 1) gW
  have S3 := S2.put NB NR HN.out.2.1 2 (.slice o2 n2 c2)
  have HT2 := Lib.hid (show St3 w g (rMany rTb 64 (rMany rTok 256 (rMany rRf 64 (s, false)).2).2).2 B 119 #[.pointer (some ⟨g, 0, none⟩)] M 28 #[.slice o0 n0 c0, .slice o1 n1 c1, .slice o2 n2 c2] w.heap.size 28 #[.slice none 0 0, .slice none 0 0, .slice none 0 0] (Y2.setCell ⟨M, 2, none⟩ (.slice o2 n2 c2)) from S3)
  have HL2 := Lib.hid (And.intro hl hn)
  have HO0 := Lib.hid (And.intro hq0 trivial)
  have HO1 := Lib.hid (And.intro hq1 trivial)
  have HO2 := Lib.hid (And.intro hs2 hown)
  clear hs hl hr hm hown hn S2 S3 gW hs2 hq0 hq1 d2
  go_wp2_with fail
  obtain ⟨X2, hX⟩ : ∃ X, X = Y2.setCell ⟨M, 2, none⟩ (.slice o2 n2 c2) := ⟨_, rfl⟩
  rw [← hX] at HT2 HO0 HO1 HO2 ⊢
  clear hX
  clear e0 f0 e1 f1 e2 f2
  have hO : MkR.Own (g + 1) X2 ⟨l0, l1, l2, .slice o0 n0 c0, .slice o1 n1 c1, .slice o2 n2 c2⟩ := by
    obtain ⟨-, q0⟩ := HL0.out
    obtain ⟨-, q1⟩ := HL1.out
    obtain ⟨-, q2⟩ := HL2.out
    have p0 := HO0.out.1
    have p1 := HO1.out.1
    have p2 := HO2.out.1
    subst q0 q1 q2
    exact ⟨p0, p1, p2, HO2.out.2⟩
  obtain ⟨sE, hsE⟩ : ∃ sE, sE = (rMany rTb 64 (rMany rTok 256 (rMany rRf 64 (s, false)).2).2).2 := ⟨_, rfl⟩
  have hT := HT2.out
  rw [← hsE] at hT
  obtain ⟨m, hm⟩ : ∃ m : MkR, m = ⟨l0, l1, l2, .slice o0 n0 c0, .slice o1 n1 c1, .slice o2 n2 c2⟩ := ⟨_, rfl⟩
  have hma : aMk m = .agg #[.slice o0 n0 c0, .slice o1 n1 c1, .slice o2 n2 c2] := by rw [hm]; rfl
  have hmk : m.mk_ = (rMk (s, false)).1 := by
    have q0 := HL0.out.1
    have q1 := HL1.out.1
    have q2 := HL2.out.1
    simp only [List.map_id'] at q0 q1
    rw [hm]
    show (⟨l0, l1, l2.map (fun x : TbR => x.t)⟩ : Mks) = ⟨_, _, _⟩
    rw [q0, q1, q2]
  have hmS : m.Small := by
    have q0 := rMany_len rRf 64 (s, false) (by decide)
    have q1 := rMany_len rTok 256 (rMany rRf 64 (s, false)).2 (by decide)
    have q2 := rMany_len rTb 64 (rMany rTok 256 (rMany rRf 64 (s, false)).2).2 (by decide)
    rw [← HL0.out.1, List.length_map] at q0
    rw [← HL1.out.1, List.length_map] at q1
    rw [← HL2.out.1, List.length_map] at q2
    rw [hm]
    refine ⟨by show l0.length ≤ _; omega, by show l1.length ≤ _; omega, by show l2.length ≤ _; omega, fun z hz => ?_⟩
    have hz' : z.t ∈ (rMany rTb 64 (rMany rTok 256 (rMany rRf 64 (s, false)).2).2).1 := by
      rw [← HL2.out.1]
      exact List.mem_map.2 ⟨z, hz, rfl⟩
    exact rList_all (P := fun t : Tb => t.acks.length ≤ 1000000 ∧ t.cov.length ≤ 1000000) rTb_fit _ _ _ hz'
  rw [← hm] at hO
  have HD := Lib.hid (show dec s = if sE.2 = false ∧ sE.1.size = 0 ∧ goodB m.mk_ = true then some m.mk_ else none by rw [hmk, hsE]; rfl)
  have HA := Lib.hid hma
  have HX := Lib.hid (And.intro hO hmS)
  have HT := Lib.hid hT
  have c0_ : X2.cell? ⟨M, 0, none⟩ = some (.slice o0 n0 c0) := hT.1.2.2.2.1.cell 0
  have c1_ : X2.cell? ⟨M, 1, none⟩ = some (.slice o1 n1 c1) := hT.1.2.2.2.1.cell 1
  have c2_ : X2.cell? ⟨M, 2, none⟩ = some (.slice o2 n2 c2) := hT.1.2.2.2.1.cell 2
  clear hO hm hma hmk hmS hT hsE HO0 HO1 HO2 HL0 HL1 HL2 HT0 HT1 HT2 HS
  obtain ⟨r, b⟩ := sE
  refine (rd_whole g r b X2 HT.out.1.1).mono ?_
  rintro e X3 ⟨rfl, rfl⟩
  by_cases hw : b = false ∧ r.size = 0
  · have ew : (!b && decide (r.size = 0)) = true := by simp [hw.1, hw.2]
    rw [ew]
    go_wp2_with fail
    have GD := good_any m X2 HX.out.1.reads HX.out.2.2.2.2
    rw [HA.out] at GD
    obtain ⟨q, hq⟩ : ∃ q, q = goodB m.mk_ := ⟨_, rfl⟩
    rw [← hq] at GD
    have HQ := Lib.hid hq
    clear hq
    refine GD.mono ?_
    rintro e X3 ⟨rfl, hb3⟩
    have hT3 := HT.out
    have kM : BlkIs X3 M 28 #[.slice o0 n0 c0, .slice o1 n1 c1, .slice o2 n2 c2] := BlkIs.below hT3.1.2.2.2.1 hb3 hT3.1.2.2.2.1.lt
    have kR : BlkIs X3 w.heap.size 28 #[.slice none 0 0, .slice none 0 0, .slice none 0 0] := BlkIs.below hT3.2.1 hb3 hT3.2.1.lt
    have bB : Below w.heap.size w X3 := (moved_below hT3.1.2.1 HN.out.1).trans (hb3.mono hT3.1.2.1.size)
    have r0 : X3.cell? ⟨w.heap.size, 0, none⟩ = some (.slice none 0 0) := kR.cell 0
    have r1 : X3.cell? ⟨w.heap.size, 1, none⟩ = some (.slice none 0 0) := kR.cell 1
    have r2 : X3.cell? ⟨w.heap.size, 2, none⟩ = some (.slice none 0 0) := kR.cell 2
    have z0 : X3.frozen? ⟨w.heap.size, 0, none⟩ = false := kR.free 0
    have z1 : X3.frozen? ⟨w.heap.size, 1, none⟩ = false := kR.free 1
    have z2 : X3.frozen? ⟨w.heap.size, 2, none⟩ = false := kR.free 2
    have m0 : X3.cell? ⟨M, 0, none⟩ = some (.slice o0 n0 c0) := kM.cell 0
    have m1 : X3.cell? ⟨M, 1, none⟩ = some (.slice o1 n1 c1) := kM.cell 1
    have m2 : X3.cell? ⟨M, 2, none⟩ = some (.slice o2 n2 c2) := kM.cell 2
    have HO3 := Lib.hid (HX.out.1.later hb3)
    have HBB := Lib.hid bB
    have HKR := Lib.hid kR
    clear GD hT3 kM kR bB hb3 c0_ c1_ c2_
    cases q
    · go_wp2_with fail
      refine bodyPost_ret (v := .tuple #[.agg #[.slice none 0 0, .slice none 0 0, .slice none 0 0], .int .i64 4]) (by simp [results, Tryz.results53, go_sem, r0, r1, r2]) rfl
        ⟨MkR.none_, 4, rfl, MkR.none_own _ _, MkR.none_small, ((HBB.out.setCell (p := ⟨w.heap.size, 0, none⟩) (Nat.le_refl _) _).setCell (p := ⟨w.heap.size, 1, none⟩) (Nat.le_refl _) _).setCell (p := ⟨w.heap.size, 2, none⟩) (Nat.le_refl _) _, .inr ⟨?_, rfl, rfl⟩⟩
      rw [HD.out, if_neg]
      intro h
      rw [← HQ.out] at h
      exact Bool.noConfusion h.2.2
    · go_wp2_with fail
      refine bodyPost_ret (v := .tuple #[.agg #[.slice o0 n0 c0, .slice o1 n1 c1, .slice o2 n2 c2], .int .i64 0]) (by simp [results, Tryz.results53, go_sem, r0, r1, r2]) rfl
        ⟨m, 0, by rw [HA.out], ?_, HX.out.2, ((HBB.out.setCell (p := ⟨w.heap.size, 0, none⟩) (Nat.le_refl _) _).setCell (p := ⟨w.heap.size, 1, none⟩) (Nat.le_refl _) _).setCell (p := ⟨w.heap.size, 2, none⟩) (Nat.le_refl _) _, .inl ⟨?_, rfl⟩⟩
      · exact (((HO3.out.far HKR.out 0 _).far (HKR.out.put 0 _) 1 _).far ((HKR.out.put 0 _).put 1 _) 2 _).mono (by have := HN.out; omega)
      · rw [HD.out, if_pos ⟨hw.1, hw.2, HQ.out.symm⟩]
  · have ew : (!b && decide (r.size = 0)) = false := by
      cases b
      · simpa using fun h => hw ⟨rfl, h⟩
      · rfl
    rw [ew]
    have kR : BlkIs X2 w.heap.size 28 #[.slice none 0 0, .slice none 0 0, .slice none 0 0] := HT.out.2.1
    have bB : Below w.heap.size w X2 := moved_below HT.out.1.2.1 HN.out.1
    have r0 : X2.cell? ⟨w.heap.size, 0, none⟩ = some (.slice none 0 0) := kR.cell 0
    have r1 : X2.cell? ⟨w.heap.size, 1, none⟩ = some (.slice none 0 0) := kR.cell 1
    have r2 : X2.cell? ⟨w.heap.size, 2, none⟩ = some (.slice none 0 0) := kR.cell 2
    have z0 : X2.frozen? ⟨w.heap.size, 0, none⟩ = false := kR.free 0
    have z1 : X2.frozen? ⟨w.heap.size, 1, none⟩ = false := kR.free 1
    have z2 : X2.frozen? ⟨w.heap.size, 2, none⟩ = false := kR.free 2
    have HBB := Lib.hid bB
    have HKR := Lib.hid kR
    have HWN := Lib.hid hw
    clear kR bB hw
    go_wp2_with fail
    refine bodyPost_ret (v := .tuple #[.agg #[.slice none 0 0, .slice none 0 0, .slice none 0 0], .int .i64 4]) (by simp [results, Tryz.results53, go_sem, r0, r1, r2]) rfl
      ⟨MkR.none_, 4, rfl, MkR.none_own _ _, MkR.none_small, ((HBB.out.setCell (p := ⟨w.heap.size, 0, none⟩) (Nat.le_refl _) _).setCell (p := ⟨w.heap.size, 1, none⟩) (Nat.le_refl _) _).setCell (p := ⟨w.heap.size, 2, none⟩) (Nat.le_refl _) _, .inr ⟨?_, rfl, rfl⟩⟩
    rw [HD.out, if_neg]
    intro h
    exact HWN.out ⟨h.1, h.2.1⟩
theorem decode_any (s : ByteArray) (w : World) : Calls Tryz.prog 53 #[.string s] w fun e w' => DecOut s w e w' := (decode_own s w).mono fun _ _ h => h.out
end Go.Proofs.YtljenganlknhbaaGreat.Mk
