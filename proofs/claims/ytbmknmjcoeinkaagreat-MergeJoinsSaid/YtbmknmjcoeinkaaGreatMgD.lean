/- Several texts in one. (Layer 12.) -/
import Derived.Test.YtbmknmjcoeinkaaGreatMg15
import Derived.Test.YtbmknmjcoeinkaaGreatMk11
/- merge.tombs: joined, each copied; merge.refs, merge.tokens, walked. (Layer 13.) -/
namespace Go.Proofs.YtbmknmjcoeinkaaGreat.Mg
set_option linter.unusedVariables false
set_option linter.unusedSimpArgs false
open Go.RowKit Go.Lib
open Mk (Rf Tok Tb TbR aTb vRf vTok vTb vInt TombsAt)
open Set (El)
theorem sortU_len (l : List Int) : (sortU l).length ≤ l.length := by
  rw [← sortU_of]
  exact Nat.le_trans (compact_length_le _) (by rw [List.length_mergeSort]; exact Nat.le_refl _)
/-- What joined makes is short enough. -/
theorem join_small {a b L : List TbR} (h : JoinIs kTb mTb (a.map (·.t)) (b.map (·.t)) (L.map (·.t))) (sa : ∀ z ∈ a, Sm z) (sb : ∀ z ∈ b, Sm z) : ∀ z ∈ L, z.t.cov.length ≤ 1000000 ∧ z.t.acks.length ≤ 1000000 := by
  intro z hz
  rcases join_mem h (List.mem_map_of_mem hz) with h1 | h1 | ⟨x, hx, y, hy, -, hm⟩
  · obtain ⟨u, hu, e⟩ := List.mem_map.1 h1
    have := sa u hu
    rw [← show u.t = z.t from e]
    exact ⟨this.1, by have := this.2; omega⟩
  · obtain ⟨u, hu, e⟩ := List.mem_map.1 h1
    have := sb u hu
    rw [← show u.t = z.t from e]
    exact ⟨this.1, by have := this.2; omega⟩
  · obtain ⟨u, hu, rfl⟩ := List.mem_map.1 hx
    obtain ⟨v, hv, rfl⟩ := List.mem_map.1 hy
    have h1 := sa u hu
    have h2 := sb v hv
    unfold mTb at hm
    split at hm
    · have hm := Option.some.inj hm
      rw [← hm]
      refine ⟨h1.1, ?_⟩
      have h3 := sortU_len (u.t.acks ++ v.t.acks)
      rw [List.length_append] at h3
      have := h1.2
      have := h2.2
      show (sortU (u.t.acks ++ v.t.acks)).length ≤ _
      omega
    · cases hm
/-- Where tombs stands. -/
structure TbSt (w : World) (v : Value) (n : Nat) (o : List TbR) (wr : World) : Prop where
  below : Below w.heap.size w wr
  sl : SlIs wr (w.heap.size + 1) 43 5 v n (rowCells vTb o)
  kept : ∀ z ∈ o, Kept w wr z
  len : n = o.length
theorem TbSt.later {w wr w' : World} {v : Value} {n : Nat} {o : List TbR} (h : TbSt w v n o wr) (hb : Below wr.heap.size wr w') : TbSt w v n o w' :=
  ⟨h.below.trans (hb.mono h.below.size), h.sl.later hb, fun z hz => (h.kept z hz).later hb, h.len⟩
theorem TbSt.setRow {w wr : World} {b off n cap : Nat} {o : List TbR} (h : TbSt w (.slice (some ⟨b, off, none⟩) n cap) n o wr) (i : Nat) (hi : i < o.length) (z : TbR) (hz : Kept w wr z) :
    TbSt w (.slice (some ⟨b, off, none⟩) n cap) n (o.set i z) (wr.setCells b (off + i * 5) (vTb z)) :=
  ⟨h.below.grown (setCells_grown' _ _ _) h.below.size (fun j hj => by have := (h.sl.lt j hj).1; omega), SlIs.setRow (k := 5) (fun _ => rfl) (by decide) h.sl h.len i hi z,
    fun u hu => ((List.mem_or_eq_of_mem_set hu).elim (h.kept u) (fun e => by rw [e]; exact hz)).grown h.sl (setCells_grown' _ _ _), by rw [List.length_set]; exact h.len⟩
/-- What tombs hands back. -/
def TombsOut (a b : List TbR) (w w' : World) (e : Ending) : Prop :=
  ∃ v q L, e = .returned (.tuple #[v, .bool q]) ∧ TombsAt w' v L ∧ Below w.heap.size w w' ∧ ((q = true ∧ JoinIs kTb mTb (a.map (·.t)) (b.map (·.t)) (L.map (·.t))) ∨ (q = false ∧ Clash kTb mTb (a.map (·.t)) (b.map (·.t))))
set_option maxRecDepth 100000 in
set_option maxHeartbeats 4000000 in
theorem tombs_any (av bv : Value) (a b : List TbR) (w : World) (hta : TombsAt w av a) (htb : TombsAt w bv b) (ra : Rk kTb (a.map (·.t))) (rb : Rk kTb (b.map (·.t))) (hn : a.length ≤ 1000000) (hm : b.length ≤ 1000000) (sa : ∀ z ∈ a, Sm z) (sb : ∀ z ∈ b, Sm z) :
    Calls Tryz.prog 23 #[av, bv] w fun e w' => TombsOut a b w w' e := by
  have J := Lib.hid (show Calls Tryz.prog 70 #[av, bv, .func (.func 35) #[] #[], .func (.func 71) #[] #[], .func (.func 45) #[] #[]] w fun e w' =>
      ∃ v n q L, e = .returned (.tuple #[v, .bool q]) ∧ TbSt w v n L w' ∧ ((q = true ∧ JoinIs kTb mTb (a.map (·.t)) (b.map (·.t)) (L.map (·.t))) ∨ (q = false ∧ Clash kTb mTb (a.map (·.t)) (b.map (·.t)))) ∧ ∀ z ∈ L, z.t.cov.length ≤ 1000000 ∧ z.t.acks.length ≤ 1000000 from by
    refine (joined_tb av bv a b w hta htb ra rb hn hm sa sb).mono ?_
    rintro e w' (⟨v, L, rfl, h1, h2, h3, h4⟩ | ⟨rfl, h1, h2⟩)
    · exact ⟨v, _, true, L, rfl, ⟨h4, h2, h3, rfl⟩, .inl ⟨rfl, h1⟩, join_small h1 sa sb⟩
    · exact ⟨_, 0, false, [], rfl, ⟨h2, SlIs.nil_ _ _ _ _, fun z hz => absurd hz (by simp), rfl⟩, .inr ⟨rfl, h1⟩, fun z hz => absurd hz (by simp)⟩)
  obtain ⟨ao, ac, rfl, -, -⟩ := hta.1.form
  obtain ⟨bo, bc, rfl, -, -⟩ := htb.1.form
  obtain ⟨na, hna⟩ : ∃ n, n = a.length := ⟨_, rfl⟩
  obtain ⟨nb, hnb⟩ : ∃ n, n = b.length := ⟨_, rfl⟩
  rw [← hna] at J ⊢
  rw [← hnb] at J ⊢
  clear hta htb ra rb hn hm sa sb hna hnb
  go_enter Tryz.func23, Tryz.ntmps23
  go_wp2_with fail
  refine J.out.mono ?_
  rintro e w1 ⟨v, n, q, L, rfl, hst, hj, hsm⟩
  obtain ⟨p, c, rfl, hnc, hcm, -⟩ := hst.sl.form
  have hnm : n ≤ maxLen := Nat.le_trans hnc hcm
  unfold maxLen at hnm
  have HS := Lib.hid hst
  have HJ := Lib.hid hj
  have HM := Lib.hid hsm
  clear hst hj hsm J hnc hcm
  go_wp2_with fail
  go_loopw [17] (fun i wr => ∃ (k : Nat) (o : List TbR), i = .int .i64 (k : Int) ∧ k ≤ n ∧ Hid (TbSt w (.slice p n c) n o wr ∧ o.map (·.t) = L.map (·.t))) (fun i _ => ((n : Int) - intOf i).toNat)
  case atStart => exact ⟨0, L, rfl, Nat.zero_le _, Lib.hid ⟨HS.out, rfl⟩⟩
  case round =>
    obtain ⟨k, o, rfl, hkn, HL⟩ := hrel
    rcases Nat.lt_or_ge k n with hlt | hge
    · have ki : (k : Int) < n := by omega
      have kw : IntKind.i64.wrap ((k : Int) + 1) = ((k + 1 : Nat) : Int) := IntWalk.i64_in _ (by omega)
      have hko : k < o.length := by have := HL.out.1.len; omega
      obtain ⟨x, hx⟩ : ∃ x, x = o[k] := ⟨_, rfl⟩
      have hrx : x.Reads wr := by rw [hx]; exact (HL.out.1.kept _ (List.getElem_mem hko)).reads HL.out.1.below
      have hsx : x.t.cov.length ≤ 1000000 ∧ x.t.acks.length ≤ 1000000 := by
        have h1 : x.t ∈ L.map (·.t) := by rw [← HL.out.2, hx]; exact List.mem_map_of_mem (List.getElem_mem hko)
        obtain ⟨u, hu, e⟩ := List.mem_map.1 h1
        rw [← show u.t = x.t from e]
        exact HM.out u hu
      obtain ⟨xp3, xm3, ex3, -, -⟩ := hrx.1.form
      obtain ⟨xp4, xm4, ex4, -, -⟩ := hrx.2.form
      obtain ⟨xl3, fx3⟩ : ∃ q, q = x.t.cov.length := ⟨_, rfl⟩
      obtain ⟨xl4, fx4⟩ : ∃ q, q = x.t.acks.length := ⟨_, rfl⟩
      rw [← fx3] at ex3
      rw [← fx4] at ex4
      have T := copied_any x wr hrx hsx
      have e1 : aTb x = .agg #[.int .i64 x.t.node, .int .i64 x.t.n, .string x.t.id, .slice xp3 xl3 xm3, .slice xp4 xl4 xm4] := by unfold aTb; rw [ex3, ex4]
      rw [e1] at T
      have T := Lib.hid T
      have HXE := Lib.hid (And.intro ex3 ex4)
      have HX := Lib.hid hx
      obtain ⟨g, off, c2, hv, hg1, hg2, -, -, hxc, hxf⟩ := HL.out.1.sl.at_ (by omega)
      injection hv with e4 e5 e6
      subst e4
      have hl2 := rowCells_len (k := 5) (enc := vTb) (fun _ => rfl) o
      have hlo : n = o.length := HL.out.1.len
      have q0 : wr.cell? ⟨g, off + k * 5, none⟩ = some (.int .i64 x.t.node) := by rw [hxc (k * 5) (by omega), hx]; exact rowCells_get (k := 5) (enc := vTb) (fun _ => rfl) o k hko 0 (by decide)
      have q1 : wr.cell? ⟨g, off + k * 5 + 1, none⟩ = some (.int .i64 x.t.n) := by rw [Nat.add_assoc, hxc (k * 5 + 1) (by omega), hx]; exact rowCells_get (k := 5) (enc := vTb) (fun _ => rfl) o k hko 1 (by decide)
      have q2 : wr.cell? ⟨g, off + k * 5 + 2, none⟩ = some (.string x.t.id) := by rw [Nat.add_assoc, hxc (k * 5 + 2) (by omega), hx]; exact rowCells_get (k := 5) (enc := vTb) (fun _ => rfl) o k hko 2 (by decide)
      have q3 : wr.cell? ⟨g, off + k * 5 + 3, none⟩ = some (.slice xp3 xl3 xm3) := by rw [← ex3, Nat.add_assoc, hxc (k * 5 + 3) (by omega), hx]; exact rowCells_get (k := 5) (enc := vTb) (fun _ => rfl) o k hko 3 (by decide)
      have q4 : wr.cell? ⟨g, off + k * 5 + 4, none⟩ = some (.slice xp4 xl4 xm4) := by rw [← ex4, Nat.add_assoc, hxc (k * 5 + 4) (by omega), hx]; exact rowCells_get (k := 5) (enc := vTb) (fun _ => rfl) o k hko 4 (by decide)
      have HG := Lib.hid (And.intro hg1 hg2)
      clear hx hrx hsx ex3 ex4 fx3 fx4 e1 hg1 hg2 hxc hxf hl2 hlo e5 e6
      go_wp2_with fail
      refine T.out.mono ?_
      rintro e w5 ⟨cv, av, rfl, ⟨hs3, hs4⟩, hb5⟩
      obtain ⟨zp3, zm3, rfl, -, -, -⟩ := hs3.form
      obtain ⟨zp4, zm4, rfl, -, -, -⟩ := hs4.form
      have HL5 := Lib.hid (show TbSt w (.slice (some ⟨g, off, none⟩) n c) n o w5 ∧ Kept w w5 ⟨x.t, .slice zp3 x.t.cov.length zm3, .slice zp4 x.t.acks.length zm4⟩ from
        ⟨HL.out.1.later hb5, .inr (hs3.mono (Nat.le_trans HG.out.1 (Nat.le_of_lt HG.out.2))), .inr (hs4.mono (Nat.le_trans HG.out.1 (Nat.le_of_lt HG.out.2)))⟩)
      dsimp only [aTb]
      obtain ⟨zl3, fz3⟩ : ∃ q, q = x.t.cov.length := ⟨_, rfl⟩
      obtain ⟨zl4, fz4⟩ : ∃ q, q = x.t.acks.length := ⟨_, rfl⟩
      rw [← fz3] at HL5 ⊢
      rw [← fz4] at HL5 ⊢
      clear hs3 hs4 hb5 T q0 q1 q2 q3 q4 fz3 fz4
      have hi3 : k * 5 + 4 < n * 5 := by omega
      obtain ⟨g3, off3, c3, hv, -, -, -, -, hx3, hf3⟩ := HL5.out.1.sl.at_ (by omega)
      injection hv with e1 e2 e3
      injection e1 with e1
      injection e1 with e1 e4
      subst e1 e4
      have hl3 := rowCells_len (k := 5) (enc := vTb) (fun _ => rfl) o
      have hlo : n = o.length := HL5.out.1.len
      have s0 : w5.cell? ⟨g, off + k * 5, none⟩ = some (.int .i64 x.t.node) := by rw [hx3 (k * 5) (by omega), HX.out]; exact rowCells_get (k := 5) (enc := vTb) (fun _ => rfl) o k hko 0 (by decide)
      have s1 : w5.cell? ⟨g, off + k * 5 + 1, none⟩ = some (.int .i64 x.t.n) := by rw [Nat.add_assoc, hx3 (k * 5 + 1) (by omega), HX.out]; exact rowCells_get (k := 5) (enc := vTb) (fun _ => rfl) o k hko 1 (by decide)
      have s2 : w5.cell? ⟨g, off + k * 5 + 2, none⟩ = some (.string x.t.id) := by rw [Nat.add_assoc, hx3 (k * 5 + 2) (by omega), HX.out]; exact rowCells_get (k := 5) (enc := vTb) (fun _ => rfl) o k hko 2 (by decide)
      have s3 : w5.cell? ⟨g, off + k * 5 + 3, none⟩ = some (.slice xp3 xl3 xm3) := by rw [← HXE.out.1, Nat.add_assoc, hx3 (k * 5 + 3) (by omega), HX.out]; exact rowCells_get (k := 5) (enc := vTb) (fun _ => rfl) o k hko 3 (by decide)
      have s4 : w5.cell? ⟨g, off + k * 5 + 4, none⟩ = some (.slice xp4 xl4 xm4) := by rw [← HXE.out.2, Nat.add_assoc, hx3 (k * 5 + 4) (by omega), HX.out]; exact rowCells_get (k := 5) (enc := vTb) (fun _ => rfl) o k hko 4 (by decide)
      have r0 : w5.frozen? ⟨g, off + k * 5, none⟩ = false := hf3 (k * 5) (by omega)
      have r1 : w5.frozen? ⟨g, off + k * 5 + 1, none⟩ = false := by rw [Nat.add_assoc]; exact hf3 (k * 5 + 1) (by omega)
      have r2 : w5.frozen? ⟨g, off + k * 5 + 2, none⟩ = false := by rw [Nat.add_assoc]; exact hf3 (k * 5 + 2) (by omega)
      have r3 : w5.frozen? ⟨g, off + k * 5 + 3, none⟩ = false := by rw [Nat.add_assoc]; exact hf3 (k * 5 + 3) (by omega)
      have r4 : w5.frozen? ⟨g, off + k * 5 + 4, none⟩ = false := by rw [Nat.add_assoc]; exact hf3 (k * 5 + 4) (by omega)
      have HN6 := Lib.hid (show TbSt w (.slice (some ⟨g, off, none⟩) n c) n (o.set k ⟨x.t, .slice zp3 zl3 zm3, .slice zp4 zl4 zm4⟩) (((((w5.setCell ⟨g, off + k * 5, none⟩ (.int .i64 x.t.node)).setCell ⟨g, off + k * 5 + 1, none⟩ (.int .i64 x.t.n)).setCell ⟨g, off + k * 5 + 2, none⟩ (.string x.t.id)).setCell ⟨g, off + k * 5 + 3, none⟩ (.slice zp3 zl3 zm3)).setCell ⟨g, off + k * 5 + 4, none⟩ (.slice zp4 zl4 zm4)) ∧ (o.set k ⟨x.t, .slice zp3 zl3 zm3, .slice zp4 zl4 zm4⟩).map (·.t) = L.map (·.t) from
        ⟨TbSt.setRow HL5.out.1 k hko _ HL5.out.2, by
          rw [List.map_set, ← HL.out.2]
          apply List.ext_getElem
          · simp
          · intro i h1 h2
            rw [List.getElem_set]
            split
            · next h => subst h; rw [List.getElem_map, HX.out]
            · rfl⟩)
      clear hx3 hf3 hl3 hlo e2 e3
      go_wp2_with fail
      exact ⟨⟨k + 1, _, by simp, by omega, HN6⟩, by simp [intOf]; omega⟩
    · have ki : ¬ ((k : Int) < n) := by omega
      have ki2 : decide ((k : Int) < n) = false := decide_eq_false ki
      clear ki
      go_wp2_with fail
      refine bodyPost_ret (v := .tuple #[.slice p n c, .bool q]) (by simp [results, Tryz.results23, go_sem]) rfl ?_
      unfold TombsOut
      refine ⟨_, q, o, rfl, ⟨RowAt.of_sl (base := w.heap.size + 1) (e := 43) (fun _ => rfl) ?_, fun z hz => (HL.out.1.kept z hz).reads HL.out.1.below⟩, HL.out.1.below, ?_⟩
      · have h1 := HL.out.1.sl
        rw [HL.out.1.len] at h1
        rw [HL.out.1.len]
        exact h1
      · rw [HL.out.2]
        exact HJ.out
theorem refs_any (av bv : Value) (a b : List Rf) (w : World) (ha : RowAt 3 vRf w av a) (hb : RowAt 3 vRf w bv b) (ra : Rk kRf a) (rb : Rk kRf b) (hn : a.length ≤ 1000000) (hm : b.length ≤ 1000000) :
    Calls Tryz.prog 21 #[av, bv] w fun e w' => ∃ v L, e = .returned v ∧ RowAt 3 vRf w' v L ∧ Below w.heap.size w w' ∧ JoinIs kRf mRf a b L := by
  have J := joined_rf av bv a b w ha hb ra rb hn hm
  obtain ⟨ao, ac, rfl, -, -⟩ := ha.form
  obtain ⟨bo, bc, rfl, -, -⟩ := hb.form
  obtain ⟨na, hna⟩ : ∃ n, n = a.length := ⟨_, rfl⟩
  obtain ⟨nb, hnb⟩ : ∃ n, n = b.length := ⟨_, rfl⟩
  rw [← hna] at J ⊢
  rw [← hnb] at J ⊢
  have J := Lib.hid J
  clear ha hb ra rb hn hm hna hnb
  go_enter Tryz.func21, Tryz.ntmps21
  go_wp2_with fail
  refine J.out.mono ?_
  rintro e w1 ⟨v, L, rfl, h1, h2, h3⟩
  have H := Lib.hid (And.intro h2 (And.intro h3 h1))
  obtain ⟨p, c, rfl, -, -⟩ := h2.form
  clear h1 h2 h3 J
  go_wp2_with fail
  go_ret
  exact ⟨_, L, rfl, H.out⟩
theorem toks_any (av bv : Value) (a b : List Tok) (w : World) (ha : RowAt 3 vTok w av a) (hb : RowAt 3 vTok w bv b) (ra : Rk kTok a) (rb : Rk kTok b) (hn : a.length ≤ 1000000) (hm : b.length ≤ 1000000) :
    Calls Tryz.prog 22 #[av, bv] w fun e w' => ∃ v q L, e = .returned (.tuple #[v, .bool q]) ∧ RowAt 3 vTok w' v L ∧ Below w.heap.size w w' ∧ ((q = true ∧ JoinIs kTok mTok a b L) ∨ (q = false ∧ Clash kTok mTok a b)) := by
  have J : Calls Tryz.prog 65 #[av, bv, .func (.func 66) #[] #[], .func (.func 67) #[] #[], .func (.func 69) #[] #[]] w fun e w' =>
      ∃ v q L, e = .returned (.tuple #[v, .bool q]) ∧ RowAt 3 vTok w' v L ∧ Below w.heap.size w w' ∧ ((q = true ∧ JoinIs kTok mTok a b L) ∨ (q = false ∧ Clash kTok mTok a b)) := by
    refine (joined_tok av bv a b w ha hb ra rb hn hm).mono ?_
    rintro e w' (⟨v, L, rfl, h1, h2, h3⟩ | ⟨rfl, h1, h2⟩)
    · exact ⟨v, true, L, rfl, h2, h3, .inl ⟨rfl, h1⟩⟩
    · exact ⟨_, false, [], rfl, RowAt.nil_ _ _ _ _ _ (by decide), h2, .inr ⟨rfl, h1⟩⟩
  obtain ⟨ao, ac, rfl, -, -⟩ := ha.form
  obtain ⟨bo, bc, rfl, -, -⟩ := hb.form
  obtain ⟨na, hna⟩ : ∃ n, n = a.length := ⟨_, rfl⟩
  obtain ⟨nb, hnb⟩ : ∃ n, n = b.length := ⟨_, rfl⟩
  rw [← hna] at J ⊢
  rw [← hnb] at J ⊢
  have J := Lib.hid J
  clear ha hb ra rb hn hm hna hnb
  go_enter Tryz.func22, Tryz.ntmps22
  go_wp2_with fail
  refine J.out.mono ?_
  rintro e w1 ⟨v, q, L, rfl, h⟩
  have H := Lib.hid h
  obtain ⟨p, c, rfl, -, -⟩ := h.1.form
  clear h J
  go_wp2_with fail
  refine bodyPost_ret (v := .tuple #[.slice p L.length c, .bool q]) (by simp [results, Tryz.results22, go_sem]) rfl ?_
  exact ⟨_, q, L, rfl, H.out⟩
end Go.Proofs.YtbmknmjcoeinkaaGreat.Mg

/- merge.Join, walked. (Layer 13.) -/
namespace Go.Proofs.YtbmknmjcoeinkaaGreat.Mg
set_option linter.unusedVariables false
set_option linter.unusedSimpArgs false
open Go.RowKit Go.Lib
open Mk (Rf Tok Tb TbR Mks MkR aMk aTb vRf vTok vTb vInt TombsAt goodB goodB_at good_any tombB_at tokensB_at)
open Set (El)
/-- Cells that are slices. -/
def Slices (cs : Array Value) : Prop := ∀ u ∈ cs, ∃ p n c, u = .slice p n c
/-- Things whose first cell is no slice. -/
def Ns {α : Type} (enc : α → List Value) : Prop := ∀ x, ∃ u r, enc x = u :: r ∧ ∀ p n c, u ≠ .slice p n c
theorem ns_rf : Ns vRf := fun x => ⟨_, _, rfl, fun _ _ _ h => by cases h⟩
theorem ns_tok : Ns vTok := fun x => ⟨_, _, rfl, fun _ _ _ h => by cases h⟩
theorem ns_tb : Ns vTb := fun x => ⟨_, _, rfl, fun _ _ _ h => by cases h⟩
theorem ns_int : Ns vInt := fun x => ⟨_, _, rfl, fun _ _ _ h => by cases h⟩
theorem row_put {α : Type} {k : Nat} {enc : α → List Value} {w : World} {v : Value} {l : List α} (h : RowAt k enc w v l) (hn : Ns enc) {g : Nat} {t : TypeId} {cs : Array Value} (hb : BlkIs w g t cs) (hs : Slices cs) (i : Nat) (u : Value) : RowAt k enc (w.setCell ⟨g, i, none⟩ u) v l := by
  obtain ⟨ao, cap, hv, h1, h2, h3⟩ := h
  refine ⟨ao, cap, hv, h1, h2, fun hp => ?_⟩
  obtain ⟨b, off, ha, hlt, hc⟩ := h3 hp
  have hne : b ≠ g := by
    rintro rfl
    obtain ⟨u, r, he, hu⟩ := hn l[0]
    have h4 := hc 0 hp 0 u (by rw [he]; rfl)
    rw [hb.cell] at h4
    have h5 := Array.mem_of_getElem? h4
    obtain ⟨p, n, c, rfl⟩ := hs u h5
    exact hu _ _ _ rfl
  refine ⟨b, off, ha, by simpa [World.setCell] using hlt, fun i hi j u hu => ?_⟩
  rw [World.cell?_setCell_far _ _ _ _ (by exact fun e => hne e.symm)]
  exact hc i hi j u hu
theorem reads_put {w : World} {m : MkR} (h : m.Reads w) {g : Nat} {t : TypeId} {cs : Array Value} (hb : BlkIs w g t cs) (hs : Slices cs) (i : Nat) (u : Value) : m.Reads (w.setCell ⟨g, i, none⟩ u) :=
  ⟨row_put h.1 ns_rf hb hs i u, row_put h.2.1 ns_tok hb hs i u, row_put h.2.2.1 ns_tb hb hs i u, fun z hz => ⟨row_put (h.2.2.2 z hz).1 ns_tok hb hs i u, row_put (h.2.2.2 z hz).2 ns_int hb hs i u⟩⟩
theorem tombs_put {w : World} {v : Value} {l : List TbR} (h : TombsAt w v l) {g : Nat} {t : TypeId} {cs : Array Value} (hb : BlkIs w g t cs) (hs : Slices cs) (i : Nat) (u : Value) : TombsAt (w.setCell ⟨g, i, none⟩ u) v l :=
  ⟨row_put h.1 ns_tb hb hs i u, fun z hz => ⟨row_put (h.2 z hz).1 ns_tok hb hs i u, row_put (h.2 z hz).2 ns_int hb hs i u⟩⟩
theorem slices_put {cs : Array Value} (hs : Slices cs) (i : Nat) (p : Option Addr) (n c : Nat) : Slices (cs.setIfInBounds i (.slice p n c)) := by
  intro u hu
  rcases Array.mem_or_eq_of_mem_setIfInBounds hu with h | h
  · exact hs u h
  · exact ⟨p, n, c, h⟩
theorem slices3 (p1 p2 p3 : Option Addr) (n1 c1 n2 c2 n3 c3 : Nat) : Slices #[.slice p1 n1 c1, .slice p2 n2 c2, .slice p3 n3 c3] := by
  intro u hu
  simp at hu
  rcases hu with rfl | rfl | rfl <;> exact ⟨_, _, _, rfl⟩
/-- Few numbers between two, rising. -/
theorem few_rise : ∀ (l : List Int) (a b : Int), l.Pairwise El.lt → (∀ n ∈ l, a ≤ n ∧ n ≤ b) → (l.length : Int) ≤ max 0 (b - a + 1) := by
  intro l
  induction l with
  | nil => intro a b _ _; simp; omega
  | cons x l ih =>
    intro a b hp hb
    obtain ⟨h1, h2⟩ := List.pairwise_cons.1 hp
    have h3 := ih (x + 1) b h2 fun n hn => ⟨(show x < n from h1 n hn), (hb n (List.mem_cons_of_mem _ hn)).2⟩
    have h4 := hb x (List.mem_cons_self)
    rw [List.length_cons]
    push_cast
    omega
theorem good_small {m : Mks} (h : goodB m = true) {t : Tb} (ht : t ∈ m.tombs) : t.cov.length ≤ 256 ∧ t.acks.length ≤ 7 := by
  have h1 := tombB_at ((goodB_at h).2.1.2.1 t ht)
  have h2 := few_rise t.acks 1 7 (good_acks h ht) h1.2.2.2.1
  exact ⟨(tokensB_at h1.2.1).1, by omega⟩
theorem good_sm {m : MkR} (h : goodB m.mk_ = true) : ∀ z ∈ m.tombs, Sm z := fun z hz => by
  have := good_small h (t := z.t) (List.mem_map_of_mem hz)
  exact ⟨by omega, by omega⟩
/-- Where Join stands. -/
structure JoSt (w W : World) (B M : Nat) (xs ys zs : Array Value) (c0 c1 c2 : Value) : Prop where
  bx : BlkIs W B 26 xs
  by_ : BlkIs W (B + 1) 26 ys
  bz : BlkIs W (B + 2) 26 zs
  bg : BlkIs W M 26 #[c0, c1, c2]
  hb : Below B w W
  hM : B + 3 ≤ M
section
variable {w W W' : World} {B M : Nat} {xs ys zs : Array Value} {c0 c1 c2 : Value}
theorem JoSt.later (h : JoSt w W B M xs ys zs c0 c1 c2) (hb : Below W.heap.size W W') : JoSt w W' B M xs ys zs c0 c1 c2 :=
  ⟨h.bx.below hb h.bx.lt, h.by_.below hb h.by_.lt, h.bz.below hb h.bz.lt, h.bg.below hb h.bg.lt, h.hb.trans (hb.mono (by have := h.bx.lt; omega)), h.hM⟩
theorem JoSt.put1 (h : JoSt w W B M xs ys zs c0 c1 c2) (u : Value) : JoSt w (W.setCell ⟨M, 1, none⟩ u) B M xs ys zs c0 u c2 := by
  have hM := h.hM
  exact ⟨h.bx.far (by show B ≠ M; omega) _, h.by_.far (by show B + 1 ≠ M; omega) _, h.bz.far (by show B + 2 ≠ M; omega) _, h.bg.put 1 _, h.hb.setCell (by show B ≤ M; omega) _, h.hM⟩
theorem JoSt.put2 (h : JoSt w W B M xs ys zs c0 c1 c2) (u : Value) : JoSt w (W.setCell ⟨M, 2, none⟩ u) B M xs ys zs c0 c1 u := by
  have hM := h.hM
  exact ⟨h.bx.far (by show B ≠ M; omega) _, h.by_.far (by show B + 1 ≠ M; omega) _, h.bz.far (by show B + 2 ≠ M; omega) _, h.bg.put 2 _, h.hb.setCell (by show B ≤ M; omega) _, h.hM⟩
end
theorem join_end (w8 : World) (b : Nat) (cs : Array Value) (hs : cs.size = 3) (tmps : Array Value) (c : Int) (Q : Ending → World → Prop) (h2 : tmps.getD 4 undef = .pointer (some ⟨b, 0, none⟩)) (h3 : tmps.getD 5 undef = .int .i64 c) (k : BlkIs w8 b 26 cs) (hQ : Q (.returned (.tuple #[.agg cs, .int .i64 c])) w8) :
    bodyPost Tryz.prog Tryz.f11 Q Exit.ret ⟨tmps, []⟩ w8 :=
  bodyPost_ret (results_cell_tmp' rfl _ _ b 26 cs (0, 0) _ h2 k Tryz.underlying26 rfl (by rw [hs]; show _ = some 3; kernel_rfl)) rfl (by rw [h3]; exact hQ)
/-- No marks, as they lie. -/
def mk0 : MkR := ⟨[], [], [], .slice none 0 0, .slice none 0 0, .slice none 0 0⟩
theorem mk0_reads (w : World) : mk0.Reads w := ⟨RowAt.nil_ _ _ _ _ _ (by decide), RowAt.nil_ _ _ _ _ _ (by decide), RowAt.nil_ _ _ _ _ _ (by decide), fun z hz => absurd hz (by simp [mk0])⟩
theorem mk0_is : mk0.mk_ = Mks.empty := rfl
theorem mk_put {w : World} {g : Nat} {cs : Array Value} (c0 c1 c2 : Value) (h : BlkIs w g 26 cs) (hs : ∃ a b c, cs = #[a, b, c]) :
    BlkIs (((w.setCell ⟨g, 0, none⟩ c0).setCell ⟨g, 1, none⟩ c1).setCell ⟨g, 2, none⟩ c2) g 26 #[c0, c1, c2] := by
  obtain ⟨a, b, c, rfl⟩ := hs
  exact ((h.put 0 _).put 1 _).put 2 _
theorem reads3 {w : World} {m : MkR} {g : Nat} (h : m.Reads w) (hb : BlkIs w g 26 #[.slice none 0 0, .slice none 0 0, .slice none 0 0]) (p1 p2 p3 : Option Addr) (n1 f1 n2 f2 n3 f3 : Nat) : m.Reads (((w.setCell ⟨g, 0, none⟩ (.slice p1 n1 f1)).setCell ⟨g, 1, none⟩ (.slice p2 n2 f2)).setCell ⟨g, 2, none⟩ (.slice p3 n3 f3)) := by
  have s0 := slices3 none none none 0 0 0 0 0 0
  have s1 := slices_put s0 0 p1 n1 f1
  have s2 := slices_put s1 1 p2 n2 f2
  exact reads_put (reads_put (reads_put h hb s0 0 _) (hb.put 0 _) s1 1 _) ((hb.put 0 _).put 1 _) s2 2 _
theorem below3 {b g : Nat} {w w' : World} (h : Below b w w') (hg : b ≤ g) (c0 c1 c2 : Value) : Below b w (((w'.setCell ⟨g, 0, none⟩ c0).setCell ⟨g, 1, none⟩ c1).setCell ⟨g, 2, none⟩ c2) :=
  ((h.setCell hg _).setCell hg _).setCell hg _
/-- What Join hands back. -/
def JoinOut (a b : MkR) (B : Nat) (w w' : World) (e : Ending) : Prop :=
  ∃ m c, e = .returned (.tuple #[aMk m, .int .i64 c]) ∧ m.Reads w' ∧ Below B w w' ∧ JOut a.mk_ b.mk_ m.mk_ c
/-- Refused. -/
theorem out_none {a b : MkR} {B : Nat} {w w8 : World} (c : Int) (hb : Below B w w8) (hj : JOut a.mk_ b.mk_ Mks.empty c) (hz : BlkIs w8 (B + 2) 26 #[.slice none 0 0, .slice none 0 0, .slice none 0 0]) :
    JoinOut a b B w (((w8.setCell ⟨B + 1 + 1, 0, none⟩ (.slice none 0 0)).setCell ⟨B + 1 + 1, 1, none⟩ (.slice none 0 0)).setCell ⟨B + 1 + 1, 2, none⟩ (.slice none 0 0)) (.returned (.tuple #[.agg #[.slice none 0 0, .slice none 0 0, .slice none 0 0], .int .i64 c])) :=
  ⟨mk0, c, rfl, mk0_reads _, below3 hb (Nat.le_add_right B 2) _ _ _, hj⟩
set_option maxRecDepth 100000 in
set_option maxHeartbeats 8000000 in
theorem join_any (a b : MkR) (w : World) (ha : a.Reads w) (hb : b.Reads w) (hsa : a.Small) (hsb : b.Small) : Calls Tryz.prog 11 #[aMk a, aMk b] w fun e w' => JoinOut a b w.heap.size w w' e := by
  have HAB := Lib.hid (And.intro ha hb)
  obtain ⟨ga, hga⟩ : ∃ q, q = goodB a.mk_ := ⟨_, rfl⟩
  obtain ⟨gb, hgb⟩ : ∃ q, q = goodB b.mk_ := ⟨_, rfl⟩
  have HG := Lib.hid (And.intro hga hgb)
  have G1 := fun W (hW : Below w.heap.size w W) => good_any a W (HAB.out.1.later hW) hsa.2.2.2
  have G2 := fun W (hW : Below w.heap.size w W) => good_any b W (HAB.out.2.later hW) hsb.2.2.2
  rw [← hga] at G1
  rw [← hgb] at G2
  have R := fun (h1 : goodB a.mk_ = true) (h2 : goodB b.mk_ = true) W (hW : Below w.heap.size w W) => refs_any a.rv b.rv a.refs b.refs W (HAB.out.1.1.later hW) (HAB.out.2.1.later hW) (good_rk h1).1 (good_rk h2).1 hsa.1 hsb.1
  have T := fun (h1 : goodB a.mk_ = true) (h2 : goodB b.mk_ = true) W (hW : Below w.heap.size w W) => toks_any a.kv b.kv a.toks b.toks W (HAB.out.1.2.1.later hW) (HAB.out.2.2.1.later hW) (good_rk h1).2.1 (good_rk h2).2.1 hsa.2.1 hsb.2.1
  have U := fun (h1 : goodB a.mk_ = true) (h2 : goodB b.mk_ = true) W (hW : Below w.heap.size w W) => tombs_any a.bv b.bv a.tombs b.tombs W (HAB.out.1.2.2.later hW) (HAB.out.2.2.2.later hW) (good_rk h1).2.2 (good_rk h2).2.2 hsa.2.2.1 hsb.2.2.1 (good_sm h1) (good_sm h2)
  obtain ⟨o1, f1, e1, -, -⟩ := ha.1.form
  obtain ⟨o2, f2, e2, -, -⟩ := ha.2.1.form
  obtain ⟨o3, f3, e3, -, -⟩ := ha.2.2.1.form
  obtain ⟨p1, g1, e4, -, -⟩ := hb.1.form
  obtain ⟨p2, g2, e5, -, -⟩ := hb.2.1.form
  obtain ⟨p3, g3, e6, -, -⟩ := hb.2.2.1.form
  obtain ⟨n1, hn1⟩ : ∃ n, n = a.refs.length := ⟨_, rfl⟩
  obtain ⟨n2, hn2⟩ : ∃ n, n = a.toks.length := ⟨_, rfl⟩
  obtain ⟨n3, hn3⟩ : ∃ n, n = a.tombs.length := ⟨_, rfl⟩
  obtain ⟨m1, hm1⟩ : ∃ n, n = b.refs.length := ⟨_, rfl⟩
  obtain ⟨m2, hm2⟩ : ∃ n, n = b.toks.length := ⟨_, rfl⟩
  obtain ⟨m3, hm3⟩ : ∃ n, n = b.tombs.length := ⟨_, rfl⟩
  rw [← hn1] at e1
  rw [← hn2] at e2
  rw [← hn3] at e3
  rw [← hm1] at e4
  rw [← hm2] at e5
  rw [← hm3] at e6
  have ea : aMk a = .agg #[.slice o1 n1 f1, .slice o2 n2 f2, .slice o3 n3 f3] := by unfold aMk; rw [e1, e2, e3]
  have eb : aMk b = .agg #[.slice p1 m1 g1, .slice p2 m2 g2, .slice p3 m3 g3] := by unfold aMk; rw [e4, e5, e6]
  rw [ea] at G1 ⊢
  rw [eb] at G2 ⊢
  rw [e1, e4] at R
  rw [e2, e5] at T
  rw [e3, e6] at U
  have G1 := Lib.hid G1
  have G2 := Lib.hid G2
  have R := Lib.hid R
  have T := Lib.hid T
  have U := Lib.hid U
  clear ha hb hsa hsb ea eb e1 e2 e3 e4 e5 e6 hn1 hn2 hn3 hm1 hm2 hm3 hga hgb
  obtain ⟨B, hB⟩ : ∃ B, B = w.heap.size := ⟨_, rfl⟩
  obtain ⟨W3, hW3⟩ : ∃ W3, W3 = ((w.alloc (.cells #[.slice o1 n1 f1, .slice o2 n2 f2, .slice o3 n3 f3] 26)).alloc (.cells #[.slice p1 m1 g1, .slice p2 m2 g2, .slice p3 m3 g3] 26)).alloc (.cells #[.slice none 0 0, .slice none 0 0, .slice none 0 0] 26) := ⟨_, rfl⟩
  have K := Lib.hid (show BlkIs W3 B 26 #[.slice o1 n1 f1, .slice o2 n2 f2, .slice o3 n3 f3] ∧ BlkIs W3 (B + 1) 26 #[.slice p1 m1 g1, .slice p2 m2 g2, .slice p3 m3 g3] ∧ BlkIs W3 (B + 2) 26 #[.slice none 0 0, .slice none 0 0, .slice none 0 0] ∧ Below B w W3 ∧ W3.heap.size = B + 3 from by
    rw [hW3, hB]
    exact ⟨((BlkIs.new _ _ _).alloc _).alloc _, (BlkIs.new2 _ _ _ _).alloc _, BlkIs.new3 _ _ _ _ _, (((Below.refl _ _).alloc (Nat.le_refl _) _).alloc (by simp) _).alloc (by simp; omega) _, by simp⟩)
  have HW := Lib.hid hW3
  clear hW3
  rw [← hB] at G1 G2 R T U ⊢
  go_enter Tryz.func11, Tryz.ntmps11
  go_upto_region 1 with (fail)
  rw [← hB]
  rw [← HW.out]
  have HB := Lib.hid hB
  clear hB
  obtain ⟨k1, k2, k3, -, -⟩ := K.out
  have d0 : W3.cell? ⟨B, 0, none⟩ = some (.slice o1 n1 f1) := k1.cell 0
  have d1 : W3.cell? ⟨B, 1, none⟩ = some (.slice o2 n2 f2) := k1.cell 1
  have d2 : W3.cell? ⟨B, 2, none⟩ = some (.slice o3 n3 f3) := k1.cell 2
  clear k1 k2 k3
  go_wp2_with fail
  refine (G1.out _ K.out.2.2.2.1).mono ?_
  rintro e w4 ⟨rfl, hb4⟩
  have K4 := Lib.hid (show BlkIs w4 B 26 #[.slice o1 n1 f1, .slice o2 n2 f2, .slice o3 n3 f3] ∧ BlkIs w4 (B + 1) 26 #[.slice p1 m1 g1, .slice p2 m2 g2, .slice p3 m3 g3] ∧ BlkIs w4 (B + 2) 26 #[.slice none 0 0, .slice none 0 0, .slice none 0 0] ∧ Below B w w4 ∧ B + 3 ≤ w4.heap.size from
    ⟨K.out.1.below hb4 K.out.1.lt, K.out.2.1.below hb4 K.out.2.1.lt, K.out.2.2.1.below hb4 K.out.2.2.1.lt, K.out.2.2.2.1.trans (hb4.mono (by rw [K.out.2.2.2.2]; omega)), by have := hb4.size; rw [K.out.2.2.2.2] at this; exact this⟩)
  clear hb4 d0 d1 d2 K
  cases ga with
  | false =>
    have z0 : w4.cell? ⟨B + 1 + 1, 0, none⟩ = some (.slice none 0 0) := K4.out.2.2.1.cell 0
    have z1 : w4.cell? ⟨B + 1 + 1, 1, none⟩ = some (.slice none 0 0) := K4.out.2.2.1.cell 1
    have z2 : w4.cell? ⟨B + 1 + 1, 2, none⟩ = some (.slice none 0 0) := K4.out.2.2.1.cell 2
    have zf : ∀ i, w4.frozen? ⟨B + 1 + 1, i, none⟩ = false := fun i => K4.out.2.2.1.free i
    go_wp2_with fail
    refine join_end _ (B + 2) #[.slice none 0 0, .slice none 0 0, .slice none 0 0] rfl _ 1 _ rfl rfl (mk_put _ _ _ K4.out.2.2.1 ⟨_, _, _, rfl⟩) ?_
    exact out_none 1 K4.out.2.2.2.1 (.inl ⟨fun h => (by have h1 := HG.out.1; rw [h.1] at h1; cases h1), rfl, rfl⟩) K4.out.2.2.1
  | true =>
    have y0 : w4.cell? ⟨B + 1, 0, none⟩ = some (.slice p1 m1 g1) := K4.out.2.1.cell 0
    have y1 : w4.cell? ⟨B + 1, 1, none⟩ = some (.slice p2 m2 g2) := K4.out.2.1.cell 1
    have y2 : w4.cell? ⟨B + 1, 2, none⟩ = some (.slice p3 m3 g3) := K4.out.2.1.cell 2
    go_wp2_with fail
    refine (G2.out _ K4.out.2.2.2.1).mono ?_
    rintro e w5 ⟨rfl, hb5⟩
    have K5 := Lib.hid (show BlkIs w5 B 26 #[.slice o1 n1 f1, .slice o2 n2 f2, .slice o3 n3 f3] ∧ BlkIs w5 (B + 1) 26 #[.slice p1 m1 g1, .slice p2 m2 g2, .slice p3 m3 g3] ∧ BlkIs w5 (B + 2) 26 #[.slice none 0 0, .slice none 0 0, .slice none 0 0] ∧ Below B w w5 ∧ B + 3 ≤ w5.heap.size from
      ⟨K4.out.1.below hb5 K4.out.1.lt, K4.out.2.1.below hb5 K4.out.2.1.lt, K4.out.2.2.1.below hb5 K4.out.2.2.1.lt, K4.out.2.2.2.1.trans (hb5.mono (by have := K4.out.2.2.2.2; omega)), Nat.le_trans K4.out.2.2.2.2 hb5.size⟩)
    clear hb5 y0 y1 y2 K4
    cases gb with
    | false =>
      have z0 : w5.cell? ⟨B + 1 + 1, 0, none⟩ = some (.slice none 0 0) := K5.out.2.2.1.cell 0
      have z1 : w5.cell? ⟨B + 1 + 1, 1, none⟩ = some (.slice none 0 0) := K5.out.2.2.1.cell 1
      have z2 : w5.cell? ⟨B + 1 + 1, 2, none⟩ = some (.slice none 0 0) := K5.out.2.2.1.cell 2
      have zf : ∀ i, w5.frozen? ⟨B + 1 + 1, i, none⟩ = false := fun i => K5.out.2.2.1.free i
      go_wp2_with fail
      refine join_end _ (B + 2) #[.slice none 0 0, .slice none 0 0, .slice none 0 0] rfl _ 1 _ rfl rfl (mk_put _ _ _ K5.out.2.2.1 ⟨_, _, _, rfl⟩) ?_
      exact out_none 1 K5.out.2.2.2.1 (.inl ⟨fun h => (by have h1 := HG.out.2; rw [h.2] at h1; cases h1), rfl, rfl⟩) K5.out.2.2.1
    | true =>
      have HGG := Lib.hid (And.intro HG.out.1.symm HG.out.2.symm)
      have x0 : w5.cell? ⟨B, 0, none⟩ = some (.slice o1 n1 f1) := K5.out.1.cell 0
      have y0 : w5.cell? ⟨B + 1, 0, none⟩ = some (.slice p1 m1 g1) := K5.out.2.1.cell 0
      go_wp2_with fail
      refine (R.out HGG.out.1 HGG.out.2 _ K5.out.2.2.2.1).mono ?_
      rintro e w6 ⟨v1, L1, rfl, hr1, hb6, hj1⟩
      obtain ⟨q1, h1, rfl, -, -⟩ := hr1.form
      obtain ⟨l1, hl1⟩ : ∃ n, n = L1.length := ⟨_, rfl⟩
      rw [← hl1] at hr1 ⊢
      obtain ⟨W7, hW7⟩ : ∃ W7, W7 = w6.alloc (.cells #[.slice q1 l1 h1, .slice none 0 0, .slice none 0 0] 26) := ⟨_, rfl⟩
      obtain ⟨M, hM⟩ : ∃ M, M = w6.heap.size := ⟨_, rfl⟩
      have S7 := Lib.hid (show JoSt w W7 B M #[.slice o1 n1 f1, .slice o2 n2 f2, .slice o3 n3 f3] #[.slice p1 m1 g1, .slice p2 m2 g2, .slice p3 m3 g3] #[.slice none 0 0, .slice none 0 0, .slice none 0 0] (.slice q1 l1 h1) (.slice none 0 0) (.slice none 0 0) ∧ RowAt 3 vRf W7 (.slice q1 l1 h1) L1 from by
        have hz := hb6.size
        have e3 := K5.out.2.2.2.2
        have hba : Below w6.heap.size w6 W7 := by rw [hW7]; exact (Below.refl _ _).alloc (Nat.le_refl _) _
        refine ⟨⟨(K5.out.1.below hb6 K5.out.1.lt).below hba (Nat.lt_of_lt_of_le K5.out.1.lt hz), (K5.out.2.1.below hb6 K5.out.2.1.lt).below hba (Nat.lt_of_lt_of_le K5.out.2.1.lt hz), (K5.out.2.2.1.below hb6 K5.out.2.2.1.lt).below hba (Nat.lt_of_lt_of_le K5.out.2.2.1.lt hz), by rw [hW7, hM]; exact BlkIs.new _ _ _, (K5.out.2.2.2.1.trans (hb6.mono (by omega))).trans (hba.mono (by omega)), by omega⟩, hr1.later hba⟩)
      have HJ1 := Lib.hid hj1
      have HL1 := Lib.hid hl1
      have HW7 := Lib.hid (And.intro hW7 hM)
      clear hr1 hb6 hj1 hl1 hW7 hM x0 y0
      go_upto_region 4 with (fail)
      rw [← HW7.out.1, ← HW7.out.2]
      have x0 : W7.cell? ⟨B, 0, none⟩ = some (.slice o1 n1 f1) := S7.out.1.bx.cell 0
      have x1 : W7.cell? ⟨B, 1, none⟩ = some (.slice o2 n2 f2) := S7.out.1.bx.cell 1
      have x2 : W7.cell? ⟨B, 2, none⟩ = some (.slice o3 n3 f3) := S7.out.1.bx.cell 2
      have y0 : W7.cell? ⟨B + 1, 0, none⟩ = some (.slice p1 m1 g1) := S7.out.1.by_.cell 0
      have y1 : W7.cell? ⟨B + 1, 1, none⟩ = some (.slice p2 m2 g2) := S7.out.1.by_.cell 1
      have y2 : W7.cell? ⟨B + 1, 2, none⟩ = some (.slice p3 m3 g3) := S7.out.1.by_.cell 2
      go_wp2_with fail
      refine (T.out HGG.out.1 HGG.out.2 _ S7.out.1.hb).mono ?_
      rintro e w8 ⟨v2, t2, L2, rfl, hr2, hb8, hj2⟩
      obtain ⟨q2, h2, rfl, -, -⟩ := hr2.form
      obtain ⟨l2, hl2⟩ : ∃ n, n = L2.length := ⟨_, rfl⟩
      rw [← hl2] at hr2 ⊢
      have S8 := Lib.hid (show JoSt w w8 B M #[.slice o1 n1 f1, .slice o2 n2 f2, .slice o3 n3 f3] #[.slice p1 m1 g1, .slice p2 m2 g2, .slice p3 m3 g3] #[.slice none 0 0, .slice none 0 0, .slice none 0 0] (.slice q1 l1 h1) (.slice none 0 0) (.slice none 0 0) ∧ RowAt 3 vRf w8 (.slice q1 l1 h1) L1 ∧ RowAt 3 vTok w8 (.slice q2 l2 h2) L2 from
        ⟨S7.out.1.later hb8, S7.out.2.later hb8, hr2⟩)
      have HJ2 := Lib.hid hj2
      have HL2 := Lib.hid hl2
      clear hr2 hb8 hj2 hl2 x0 x1 x2 y0 y1 y2
      obtain ⟨W9, hW9⟩ : ∃ W9, W9 = w8.setCell ⟨M, 1, none⟩ (.slice q2 l2 h2) := ⟨_, rfl⟩
      have S9 := Lib.hid (show JoSt w W9 B M #[.slice o1 n1 f1, .slice o2 n2 f2, .slice o3 n3 f3] #[.slice p1 m1 g1, .slice p2 m2 g2, .slice p3 m3 g3] #[.slice none 0 0, .slice none 0 0, .slice none 0 0] (.slice q1 l1 h1) (.slice q2 l2 h2) (.slice none 0 0) ∧ RowAt 3 vRf W9 (.slice q1 l1 h1) L1 ∧ RowAt 3 vTok W9 (.slice q2 l2 h2) L2 from by
        rw [hW9]
        have s0 := slices3 q1 none none l1 h1 0 0 0 0
        exact ⟨S8.out.1.put1 _, row_put S8.out.2.1 ns_rf S8.out.1.bg s0 _ _, row_put S8.out.2.2 ns_tok S8.out.1.bg s0 _ _⟩)
      have HW9 := Lib.hid hW9
      clear hW9
      have c1 : w8.cell? ⟨M, 1, none⟩ = some (.slice none 0 0) := S8.out.1.bg.cell 1
      have r1 : w8.frozen? ⟨M, 1, none⟩ = false := S8.out.1.bg.free 1
      go_upto_region 6 with (fail)
      rw [← HW9.out]
      clear c1 r1
      have x0 : W9.cell? ⟨B, 0, none⟩ = some (.slice o1 n1 f1) := S9.out.1.bx.cell 0
      have x1 : W9.cell? ⟨B, 1, none⟩ = some (.slice o2 n2 f2) := S9.out.1.bx.cell 1
      have x2 : W9.cell? ⟨B, 2, none⟩ = some (.slice o3 n3 f3) := S9.out.1.bx.cell 2
      have y0 : W9.cell? ⟨B + 1, 0, none⟩ = some (.slice p1 m1 g1) := S9.out.1.by_.cell 0
      have y1 : W9.cell? ⟨B + 1, 1, none⟩ = some (.slice p2 m2 g2) := S9.out.1.by_.cell 1
      have y2 : W9.cell? ⟨B + 1, 2, none⟩ = some (.slice p3 m3 g3) := S9.out.1.by_.cell 2
      go_wp2_with fail
      refine (U.out HGG.out.1 HGG.out.2 _ S9.out.1.hb).mono ?_
      rintro e w10 ⟨v3, t3, L3, rfl, hr3, hb10, hj3⟩
      obtain ⟨q3, h3, rfl, -, -⟩ := hr3.1.form
      obtain ⟨l3, hl3⟩ : ∃ n, n = L3.length := ⟨_, rfl⟩
      rw [← hl3] at hr3 ⊢
      have S10 := Lib.hid (show JoSt w w10 B M #[.slice o1 n1 f1, .slice o2 n2 f2, .slice o3 n3 f3] #[.slice p1 m1 g1, .slice p2 m2 g2, .slice p3 m3 g3] #[.slice none 0 0, .slice none 0 0, .slice none 0 0] (.slice q1 l1 h1) (.slice q2 l2 h2) (.slice none 0 0) ∧ RowAt 3 vRf w10 (.slice q1 l1 h1) L1 ∧ RowAt 3 vTok w10 (.slice q2 l2 h2) L2 ∧ TombsAt w10 (.slice q3 l3 h3) L3 from
        ⟨S9.out.1.later hb10, S9.out.2.1.later hb10, S9.out.2.2.later hb10, hr3⟩)
      have HJ3 := Lib.hid hj3
      have HL3 := Lib.hid hl3
      clear hr3 hb10 hj3 hl3 x0 x1 x2 y0 y1 y2
      obtain ⟨W11, hW11⟩ : ∃ W11, W11 = w10.setCell ⟨M, 2, none⟩ (.slice q3 l3 h3) := ⟨_, rfl⟩
      have S11 := Lib.hid (show JoSt w W11 B M #[.slice o1 n1 f1, .slice o2 n2 f2, .slice o3 n3 f3] #[.slice p1 m1 g1, .slice p2 m2 g2, .slice p3 m3 g3] #[.slice none 0 0, .slice none 0 0, .slice none 0 0] (.slice q1 l1 h1) (.slice q2 l2 h2) (.slice q3 l3 h3) ∧ MkR.Reads W11 ⟨L1, L2, L3, .slice q1 l1 h1, .slice q2 l2 h2, .slice q3 l3 h3⟩ from by
        rw [hW11]
        have s0 := slices3 q1 q2 none l1 h1 l2 h2 0 0
        exact ⟨S10.out.1.put2 _, row_put S10.out.2.1 ns_rf S10.out.1.bg s0 _ _, row_put S10.out.2.2.1 ns_tok S10.out.1.bg s0 _ _, tombs_put S10.out.2.2.2 S10.out.1.bg s0 _ _⟩)
      have HW11 := Lib.hid hW11
      clear hW11
      have c2 : w10.cell? ⟨M, 2, none⟩ = some (.slice none 0 0) := S10.out.1.bg.cell 2
      have r2 : w10.frozen? ⟨M, 2, none⟩ = false := S10.out.1.bg.free 2
      go_upto_region 7 with (fail)
      rw [← HW11.out]
      clear c2 r2 R T U G1 G2
      have z0 : W11.cell? ⟨B + 1 + 1, 0, none⟩ = some (.slice none 0 0) := S11.out.1.bz.cell 0
      have z1 : W11.cell? ⟨B + 1 + 1, 1, none⟩ = some (.slice none 0 0) := S11.out.1.bz.cell 1
      have z2 : W11.cell? ⟨B + 1 + 1, 2, none⟩ = some (.slice none 0 0) := S11.out.1.bz.cell 2
      have zf : ∀ i, W11.frozen? ⟨B + 1 + 1, i, none⟩ = false := fun i => S11.out.1.bz.free i
      have x0 : W11.cell? ⟨M, 0, none⟩ = some (.slice q1 l1 h1) := S11.out.1.bg.cell 0
      have x1 : W11.cell? ⟨M, 1, none⟩ = some (.slice q2 l2 h2) := S11.out.1.bg.cell 1
      have x2 : W11.cell? ⟨M, 2, none⟩ = some (.slice q3 l3 h3) := S11.out.1.bg.cell 2
      cases t2 with
      | false =>
        go_wp2_with fail
        refine join_end _ (B + 2) #[.slice none 0 0, .slice none 0 0, .slice none 0 0] rfl _ 32 _ rfl rfl (mk_put _ _ _ S11.out.1.bz ⟨_, _, _, rfl⟩) ?_
        exact out_none 32 S11.out.1.hb (.inr (.inl ⟨HGG.out, .inl (HJ2.out.elim (fun h => by cases h.1) (fun h => h.2)), rfl, rfl⟩)) S11.out.1.bz
      | true =>
        cases t3 with
        | false =>
          go_wp2_with fail
          refine join_end _ (B + 2) #[.slice none 0 0, .slice none 0 0, .slice none 0 0] rfl _ 32 _ rfl rfl (mk_put _ _ _ S11.out.1.bz ⟨_, _, _, rfl⟩) ?_
          exact out_none 32 S11.out.1.hb (.inr (.inl ⟨HGG.out, .inr (HJ3.out.elim (fun h => by cases h.1) (fun h => h.2)), rfl, rfl⟩)) S11.out.1.bz
        | true =>
          have HM := Lib.hid (show JM a.mk_ b.mk_ ⟨L1, L2, L3.map (·.t)⟩ from ⟨HJ1.out, HJ2.out.elim (fun h => h.2) (fun h => by cases h.1), HJ3.out.elim (fun h => h.2) (fun h => by cases h.1)⟩)
          have HB3 := Lib.hid (show Big ⟨L1, L2, L3.map (·.t)⟩ ↔ (64 < l1 ∨ 256 < l2 ∨ 64 < l3) from by
            unfold Big
            rw [List.length_map, HL1.out, HL2.out, HL3.out])
          by_cases hbig : 64 < l1 ∨ 256 < l2 ∨ 64 < l3
          · have HBG := Lib.hid hbig
            have ge : ∀ {P : Prop} [Decidable P], P → decide P = true := fun h => decide_eq_true h
            have gn : ∀ {P : Prop} [Decidable P], ¬ P → decide P = false := fun h => decide_eq_false h
            by_cases b1 : (64 : Int) < l1
            · clear hbig
              go_wp2_with fail
              refine join_end _ (B + 2) #[.slice none 0 0, .slice none 0 0, .slice none 0 0] rfl _ 6 _ rfl rfl (mk_put _ _ _ S11.out.1.bz ⟨_, _, _, rfl⟩) ?_
              exact out_none 6 S11.out.1.hb (.inr (.inr (.inl ⟨HGG.out, ⟨_, HM.out, HB3.out.2 HBG.out⟩, rfl, rfl⟩))) S11.out.1.bz
            · have d1 := gn b1
              by_cases b2 : (256 : Int) < l2
              · clear hbig b1
                go_wp2_with fail
                refine join_end _ (B + 2) #[.slice none 0 0, .slice none 0 0, .slice none 0 0] rfl _ 6 _ rfl rfl (mk_put _ _ _ S11.out.1.bz ⟨_, _, _, rfl⟩) ?_
                exact out_none 6 S11.out.1.hb (.inr (.inr (.inl ⟨HGG.out, ⟨_, HM.out, HB3.out.2 HBG.out⟩, rfl, rfl⟩))) S11.out.1.bz
              · have d2 := gn b2
                have b3 : (64 : Int) < l3 := by omega
                clear hbig b1 b2
                go_wp2_with fail
                refine join_end _ (B + 2) #[.slice none 0 0, .slice none 0 0, .slice none 0 0] rfl _ 6 _ rfl rfl (mk_put _ _ _ S11.out.1.bz ⟨_, _, _, rfl⟩) ?_
                exact out_none 6 S11.out.1.hb (.inr (.inr (.inl ⟨HGG.out, ⟨_, HM.out, HB3.out.2 HBG.out⟩, rfl, rfl⟩))) S11.out.1.bz
          · have HBG := Lib.hid hbig
            have d1 : decide ((64 : Int) < l1) = false := decide_eq_false (by omega)
            have d2 : decide ((256 : Int) < l2) = false := decide_eq_false (by omega)
            have d3 : decide ((64 : Int) < l3) = false := decide_eq_false (by omega)
            clear hbig
            go_wp2_with fail
            refine join_end _ (B + 2) #[.slice q1 l1 h1, .slice q2 l2 h2, .slice q3 l3 h3] rfl _ 0 _ rfl rfl (mk_put _ _ _ S11.out.1.bz ⟨_, _, _, rfl⟩) ?_
            exact ⟨⟨L1, L2, L3, .slice q1 l1 h1, .slice q2 l2 h2, .slice q3 l3 h3⟩, 0, rfl, reads3 S11.out.2 S11.out.1.bz _ _ _ _ _ _ _ _ _, below3 S11.out.1.hb (Nat.le_add_right B 2) _ _ _, .inr (.inr (.inr ⟨HGG.out, HM.out, fun h => HBG.out (HB3.out.1 h), rfl⟩))⟩
end Go.Proofs.YtbmknmjcoeinkaaGreat.Mg

