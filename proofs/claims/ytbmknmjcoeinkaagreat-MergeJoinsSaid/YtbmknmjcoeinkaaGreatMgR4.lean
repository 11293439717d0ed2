/- The reference's Ack, walked. Printed by gen_rack.py. (Layer 13.) -/
import Derived.Test.YtbmknmjcoeinkaaGreatMgR3
import Derived.Test.YtbmknmjcoeinkaaGreatMg21
import Derived.Test.YtbmknmjcoeinkaaGreatMk9
namespace Go.Proofs.YtbmknmjcoeinkaaGreat.Mg
set_option linter.unusedVariables false
set_option linter.unusedSimpArgs false
open Go.RowKit Go.Lib
open Mk (Rf Tok Tb TbR Mks MkR aMk aTb vRf vTok vTb vInt goodB rgood_any)
open Set (El)
/-- Where the reference's Ack stands. -/
structure RkSt (w wr : World) (M : Nat) (ms : Array Value) (v1 v2 c3 v3 : Value) (n : Nat) (o : List TbR) : Prop where
  bx : BlkIs wr w.heap.size 26 ms
  bz : BlkIs wr (w.heap.size + 1) 26 #[.slice none 0 0, .slice none 0 0, .slice none 0 0]
  bm : BlkIs wr M 26 #[v1, v2, c3]
  s3 : SlIs wr (w.heap.size + 1) 43 5 v3 n (rowCells vTb o)
  kept : ∀ z ∈ o, Kept w wr z
  hb : Below w.heap.size w wr
  hM : w.heap.size + 2 ≤ M
  len : n = o.length
section
variable {w wr w' : World} {M : Nat} {ms : Array Value} {v1 v2 c3 v3 v3' : Value} {n n' : Nat} {o o' : List TbR}
theorem RkSt.later (h : RkSt w wr M ms v1 v2 c3 v3 n o) (hb : Below wr.heap.size wr w') : RkSt w w' M ms v1 v2 c3 v3 n o :=
  ⟨h.bx.below hb h.bx.lt, h.bz.below hb h.bz.lt, h.bm.below hb h.bm.lt, h.s3.later hb, fun z hz => (h.kept z hz).later hb, h.hb.trans (hb.mono h.hb.size), h.hM, h.len⟩
theorem Kept.put {z : TbR} (h : Kept w wr z) {g : Nat} {t : TypeId} {cs : Array Value} (hg : BlkIs wr g t cs) (h1 : 45 ≠ t) (h2 : 3 ≠ t) (i : Nat) (u : Value) : Kept w (wr.setCell ⟨g, i, none⟩ u) z :=
  ⟨h.cv.imp id (fun h => h.far (h.ne_blk hg h1) _), h.av.imp id (fun h => h.far (h.ne_blk hg h2) _)⟩
theorem RkSt.cell4 (h : RkSt w wr M ms v1 v2 c3 v3 n o) {g : Nat} {cs : Array Value} (hg : BlkIs wr g 43 cs) (hn : v3.ownBlock ≠ some g) (hB : w.heap.size ≤ g) (u : Value) : RkSt w (wr.setCell ⟨g, 4, none⟩ u) M ms v1 v2 c3 v3 n o :=
  ⟨h.bx.far (blk_ne h.bx hg (by decide)) _, h.bz.far (blk_ne h.bz hg (by decide)) _, h.bm.far (blk_ne h.bm hg (by decide)) _, h.s3.far hn _, fun z hz => (h.kept z hz).put hg (by decide) (by decide) _ _, h.hb.setCell hB _, h.hM, h.len⟩
theorem RkSt.grown (h : RkSt w wr M ms v1 v2 c3 v3 n o) (hg : wr.grownBy w' v3.ownBlock) (hs : SlIs w' (w.heap.size + 1) 43 5 v3' n' (rowCells vTb o')) (hl : n' = o'.length) (hk : ∀ z ∈ o', z ∈ o ∨ Kept w wr z) : RkSt w w' M ms v1 v2 c3 v3' n' o' :=
  ⟨h.bx.grown hg (Ne.symm (h.s3.ne_blk h.bx (by decide))), h.bz.grown hg (Ne.symm (h.s3.ne_blk h.bz (by decide))), h.bm.grown hg (Ne.symm (h.s3.ne_blk h.bm (by decide))), hs, fun z hz => ((hk z hz).elim (h.kept z) id).grown h.s3 hg,
    h.hb.grown hg h.hb.size (fun j hj => Nat.le_of_succ_le (h.s3.lt j hj).1), h.hM, hl⟩
theorem RkSt.putM (h : RkSt w wr M ms v1 v2 c3 v3 n o) (u : Value) : RkSt w (wr.setCell ⟨M, 2, none⟩ u) M ms v1 v2 u v3 n o := by
  have hM := h.hM
  exact ⟨h.bx.far (by show _ ≠ M; omega) _, h.bz.far (by show _ ≠ M; omega) _, h.bm.put 2 _, h.s3.far (h.s3.ne_blk h.bm (by decide)) _, fun z hz => (h.kept z hz).put h.bm (by decide) (by decide) _ _, h.hb.setCell (by show _ ≤ M; omega) _, hM, h.len⟩
end
theorem rack_end (w8 : World) (b : Nat) (cs : Array Value) (hs : cs.size = 3) (tmps : Array Value) (c : Int) (Q : Ending → World → Prop) (h2 : tmps.getD 4 undef = .pointer (some ⟨b, 0, none⟩)) (h3 : tmps.getD 5 undef = .int .i64 c) (k : BlkIs w8 b 26 cs) (hQ : Q (.returned (.tuple #[.agg cs, .int .i64 c])) w8) :
    bodyPost Tryz.prog Tryz.f17 Q Exit.ret ⟨tmps, []⟩ w8 :=
  bodyPost_ret (results_cell_tmp' rfl _ _ b 26 cs (0, 0) _ h2 k Tryz.underlying26 rfl (by rw [hs]; show _ = some 3; kernel_rfl)) rfl (by rw [h3]; exact hQ)
set_option maxRecDepth 100000 in
set_option maxHeartbeats 8000000 in
theorem rack_any (m : MkR) (node : Int) (w : World) (hm : m.Reads w) (hsm : m.Small) : Calls Tryz.prog 17 #[aMk m, .int .i64 node] w fun e w' => AckOut m node w.heap.size w w' e := by
  have HM := Lib.hid hm
  obtain ⟨gm, hgm⟩ : ∃ q, q = goodB m.mk_ := ⟨_, rfl⟩
  have HG := Lib.hid hgm
  have G1 := fun W (hW : Below w.heap.size w W) => rgood_any m W (HM.out.later hW) hsm.2.2.2 hsm.2.1
  rw [← hgm] at G1
  obtain ⟨o1, f1, e1, -, -⟩ := hm.1.form
  obtain ⟨o2, f2, e2, -, -⟩ := hm.2.1.form
  obtain ⟨o3, f3, e3, -, -⟩ := hm.2.2.1.form
  obtain ⟨n1, hn1⟩ : ∃ n, n = m.refs.length := ⟨_, rfl⟩
  obtain ⟨n2, hn2⟩ : ∃ n, n = m.toks.length := ⟨_, rfl⟩
  obtain ⟨n3, hn3⟩ : ∃ n, n = m.tombs.length := ⟨_, rfl⟩
  have h3n : n3 ≤ 1000000 := by rw [hn3]; exact hsm.2.2.1
  rw [← hn1] at e1
  rw [← hn2] at e2
  rw [← hn3] at e3
  have ea : aMk m = .agg #[.slice o1 n1 f1, .slice o2 n2 f2, .slice o3 n3 f3] := by unfold aMk; rw [e1, e2, e3]
  rw [ea] at G1 ⊢
  have G1 := Lib.hid G1
  have HR3 := Lib.hid (show RowAt 5 vTb w (.slice o3 n3 f3) m.tombs from by rw [← e3]; exact HM.out.2.2.1)
  have HN := Lib.hid (And.intro hn1 (And.intro hn2 hn3))
  have HE := Lib.hid (And.intro e1 (And.intro e2 e3))
  have HSM := Lib.hid hsm
  clear hm hsm ea e1 e2 e3 hn1 hn2 hn3 hgm
  obtain ⟨W3, hW3⟩ : ∃ W3, W3 = (w.alloc (.cells #[.slice o1 n1 f1, .slice o2 n2 f2, .slice o3 n3 f3] 26)).alloc (.cells #[.slice none 0 0, .slice none 0 0, .slice none 0 0] 26) := ⟨_, rfl⟩
  have K := Lib.hid (show BlkIs W3 w.heap.size 26 #[.slice o1 n1 f1, .slice o2 n2 f2, .slice o3 n3 f3] ∧ BlkIs W3 (w.heap.size + 1) 26 #[.slice none 0 0, .slice none 0 0, .slice none 0 0] ∧ Below w.heap.size w W3 ∧ w.heap.size + 2 ≤ W3.heap.size from by
    rw [hW3]
    exact ⟨(BlkIs.new _ _ _).alloc _, BlkIs.new2 _ _ _ _, ((Below.refl _ _).alloc (Nat.le_refl _) _).alloc (by simp) _, by simp⟩)
  have HW := Lib.hid hW3
  clear hW3
  go_enter Tryz.func17, Tryz.ntmps17
  go_upto_region 1 with (fail)
  rw [← HW.out]
  obtain ⟨k1, -, -, -⟩ := K.out
  have d0 : W3.cell? ⟨w.heap.size, 0, none⟩ = some (.slice o1 n1 f1) := k1.cell 0
  have d1 : W3.cell? ⟨w.heap.size, 1, none⟩ = some (.slice o2 n2 f2) := k1.cell 1
  have d2 : W3.cell? ⟨w.heap.size, 2, none⟩ = some (.slice o3 n3 f3) := k1.cell 2
  clear k1
  go_wp2_with fail
  refine (G1.out _ K.out.2.2.1).mono ?_
  rintro e w4 ⟨rfl, hb4⟩
  have K4 := Lib.hid (show BlkIs w4 w.heap.size 26 #[.slice o1 n1 f1, .slice o2 n2 f2, .slice o3 n3 f3] ∧ BlkIs w4 (w.heap.size + 1) 26 #[.slice none 0 0, .slice none 0 0, .slice none 0 0] ∧ Below w.heap.size w w4 ∧ w.heap.size + 2 ≤ w4.heap.size from
    ⟨K.out.1.below hb4 K.out.1.lt, K.out.2.1.below hb4 K.out.2.1.lt, K.out.2.2.1.trans (hb4.mono (by have := K.out.2.2.2; omega)), Nat.le_trans K.out.2.2.2 hb4.size⟩)
  clear hb4 d0 d1 d2 K
  have z0 : w4.cell? ⟨w.heap.size + 1, 0, none⟩ = some (.slice none 0 0) := K4.out.2.1.cell 0
  have z1 : w4.cell? ⟨w.heap.size + 1, 1, none⟩ = some (.slice none 0 0) := K4.out.2.1.cell 1
  have z2 : w4.cell? ⟨w.heap.size + 1, 2, none⟩ = some (.slice none 0 0) := K4.out.2.1.cell 2
  have zf : ∀ i, w4.frozen? ⟨w.heap.size + 1, i, none⟩ = false := fun i => K4.out.2.1.free i
  cases gm with
  | false =>
    go_wp2_with fail
    refine rack_end _ (w.heap.size + 1) #[.slice none 0 0, .slice none 0 0, .slice none 0 0] rfl _ 1 _ rfl rfl (mk_put _ _ _ K4.out.2.1 ⟨_, _, _, rfl⟩) ?_
    exact ack_none K4.out.2.2.1 (fun h => by have h1 := HG.out; rw [h.1] at h1; cases h1) K4.out.2.1
  | true =>
    by_cases b1 : node < 1
    · go_wp2_with fail
      refine rack_end _ (w.heap.size + 1) #[.slice none 0 0, .slice none 0 0, .slice none 0 0] rfl _ 1 _ rfl rfl (mk_put _ _ _ K4.out.2.1 ⟨_, _, _, rfl⟩) ?_
      exact ack_none K4.out.2.2.1 (fun h => by omega) K4.out.2.1
    have d1 : decide (node < 1) = false := decide_eq_false b1
    by_cases b2 : 7 < node
    · have HB2 := Lib.hid b1
      clear b1
      go_wp2_with fail
      refine rack_end _ (w.heap.size + 1) #[.slice none 0 0, .slice none 0 0, .slice none 0 0] rfl _ 1 _ rfl rfl (mk_put _ _ _ K4.out.2.1 ⟨_, _, _, rfl⟩) ?_
      exact ack_none K4.out.2.2.1 (fun h => by omega) K4.out.2.1
    have d2 : decide (7 < node) = false := decide_eq_false b2
    have HND := Lib.hid (show 1 ≤ node ∧ node ≤ 7 from ⟨by omega, by omega⟩)
    clear b1 b2 z0 z1 z2 zf
    go_upto_region 3 with (fail)
    clear d1 d2
    have d0 : w4.cell? ⟨w.heap.size, 0, none⟩ = some (.slice o1 n1 f1) := K4.out.1.cell 0
    have d1 : w4.cell? ⟨w.heap.size, 1, none⟩ = some (.slice o2 n2 f2) := K4.out.1.cell 1
    obtain ⟨W7, hW7⟩ : ∃ W7, W7 = w4.alloc (.cells #[.slice o1 n1 f1, .slice o2 n2 f2, .slice none 0 0] 26) := ⟨_, rfl⟩
    obtain ⟨M, hM⟩ : ∃ M, M = w4.heap.size := ⟨_, rfl⟩
    have S7 := Lib.hid (show RkSt w W7 M #[.slice o1 n1 f1, .slice o2 n2 f2, .slice o3 n3 f3] (.slice o1 n1 f1) (.slice o2 n2 f2) (.slice none 0 0) (.slice none 0 0) 0 [] from by
      rw [hW7, hM]
      exact ⟨K4.out.1.alloc _, K4.out.2.1.alloc _, BlkIs.new _ _ _, SlIs.nil_ _ _ _ _, fun z hz => absurd hz (by simp), K4.out.2.2.1.alloc (by have := K4.out.2.2.2; omega) _, K4.out.2.2.2, rfl⟩)
    have HW7 := Lib.hid (And.intro hW7 hM)
    clear hW7 hM
    go_upto_region 4 with (fail)
    rw [← HW7.out.1, ← HW7.out.2]
    clear d0 d1 G1
    go_wp2_with fail
    go_loopw [7] (fun i wr => ∃ (k : Nat) (o : List TbR) (ao : Option Addr) (c : Nat), i = .int .i64 (k : Int) ∧ k ≤ n3 ∧ Hid (RkSt w wr M #[.slice o1 n1 f1, .slice o2 n2 f2, .slice o3 n3 f3] (.slice o1 n1 f1) (.slice o2 n2 f2) (.slice ao k c) (.slice ao k c) k o ∧ o.map (·.t) = ((m.tombs.map (·.t)).take k).map fun t => plus t [node])) (fun i _ => ((n3 : Int) - intOf i).toNat)
    case atStart => exact ⟨0, [], none, 0, rfl, Nat.zero_le _, Lib.hid ⟨S7.out, by simp⟩⟩
    case round =>
      obtain ⟨k, o, ao, c, rfl, hkn, HL⟩ := hrel
      rcases Nat.lt_or_ge k n3 with hlt | hge
      · have ki : (k : Int) < n3 := by omega
        have kw : IntKind.i64.wrap ((k : Int) + 1) = ((k + 1 : Nat) : Int) := IntWalk.i64_in _ (by omega)
        have hka : k < m.tombs.length := by have := HN.out.2.2; omega
        have hBw : Below w.heap.size w wr := HL.out.1.hb
        obtain ⟨go, off, hag, hgl, hc⟩ := (HR3.out.later hBw).at_ (by omega)
        subst hag
        obtain ⟨x, hx⟩ : ∃ x, x = m.tombs[k] := ⟨_, rfl⟩
        have hxm : x ∈ m.tombs := by rw [hx]; exact List.getElem_mem hka
        have hxr : x.Reads w := HM.out.2.2.2 _ hxm
        have hxs : x.t.cov.length ≤ 256 ∧ x.t.acks.length ≤ 7 := good_small HG.out.symm (t := x.t) (List.mem_map_of_mem hxm)
        have hxa := good_acks HG.out.symm (t := x.t) (List.mem_map_of_mem hxm)
        obtain ⟨xp3, xm3, ex3, -, -⟩ := hxr.1.form
        obtain ⟨xp4, xm4, ex4, -, -⟩ := hxr.2.form
        obtain ⟨xl3, fx3⟩ : ∃ q, q = x.t.cov.length := ⟨_, rfl⟩
        obtain ⟨xl4, fx4⟩ : ∃ q, q = x.t.acks.length := ⟨_, rfl⟩
        rw [← fx3] at ex3
        rw [← fx4] at ex4
        have u0 : wr.cell? ⟨go, off + k * 5, none⟩ = some (.int .i64 x.t.node) := by rw [hx]; exact hc k hka 0 _ rfl
        have u1 : wr.cell? ⟨go, off + k * 5 + 1, none⟩ = some (.int .i64 x.t.n) := by rw [hx]; exact hc k hka 1 _ rfl
        have u2 : wr.cell? ⟨go, off + k * 5 + 2, none⟩ = some (.string x.t.id) := by rw [hx]; exact hc k hka 2 _ rfl
        have u3 : wr.cell? ⟨go, off + k * 5 + 3, none⟩ = some (.slice xp3 xl3 xm3) := by rw [← ex3, hx]; exact hc k hka 3 _ rfl
        have u4 : wr.cell? ⟨go, off + k * 5 + 4, none⟩ = some (.slice xp4 xl4 xm4) := by rw [← ex4, hx]; exact hc k hka 4 _ rfl
        have x2 : wr.cell? ⟨w.heap.size, 2, none⟩ = some (.slice (some ⟨go, off, none⟩) n3 f3) := HL.out.1.bx.cell 2
        have HX := Lib.hid hx
        obtain ⟨G, hG⟩ : ∃ G, G = wr.heap.size := ⟨_, rfl⟩
        obtain ⟨W8, hW8⟩ : ∃ W8, W8 = wr.alloc (.cells #[.int .i64 x.t.node, .int .i64 x.t.n, .string x.t.id, .slice xp3 xl3 xm3, .slice xp4 xl4 xm4] 43) := ⟨_, rfl⟩
        have hb8 : Below wr.heap.size wr W8 := by rw [hW8]; exact (Below.refl _ _).alloc (Nat.le_refl _) _
        have S8 := Lib.hid (show RkSt w W8 M #[.slice o1 n1 f1, .slice o2 n2 f2, .slice (some ⟨go, off, none⟩) n3 f3] (.slice o1 n1 f1) (.slice o2 n2 f2) (.slice ao k c) (.slice ao k c) k o ∧ BlkIs W8 G 43 #[.int .i64 x.t.node, .int .i64 x.t.n, .string x.t.id, .slice xp3 xl3 xm3, .slice xp4 xl4 xm4] from
          ⟨HL.out.1.later hb8, by rw [hW8, hG]; exact BlkIs.new _ _ _⟩)
        have HO := Lib.hid (show (Value.slice ao k c).ownBlock ≠ some G ∧ w.heap.size + 1 ≤ G from ⟨fun h => by have := (HL.out.1.s3.lt _ h).2; omega, by rw [hG]; exact HL.out.1.bx.lt⟩)
        have T8 := racks_any x.av x.t.acks node W8 (hxr.2.later (hBw.trans (hb8.mono hBw.size))) hxa (by omega)
        obtain ⟨zl, hzl⟩ : ∃ zl, zl = sortU (x.t.acks ++ [node]) := ⟨_, rfl⟩
        rw [← hzl, ex4] at T8
        have T8 := Lib.hid T8
        have HZL := Lib.hid hzl
        have HXR := Lib.hid (And.intro hxr (And.intro ex3 ex4))
        have HW8 := Lib.hid (And.intro hW8 hG)
        have hsz8 : w.heap.size + 1 ≤ W8.heap.size := Nat.le_trans HL.out.1.bx.lt hb8.size
        have HSZ := Lib.hid hsz8
        clear hc hx hxr hxs hxa ex3 ex4 fx3 fx4 hgl hBw hb8 hW8 hG hzl hxm hsz8
        go_upto_region 8 with (fail)
        clear u0 u1 u2 u3 u4 x2
        rw [← HW8.out.1, ← HW8.out.2]
        have D4 : W8.cell? ⟨G, 4, none⟩ = some (.slice xp4 xl4 xm4) := S8.out.2.cell 4
        go_wp2_with fail
        refine T8.out.mono ?_
        rintro e w9 ⟨v', rfl, hv, hb9⟩
        clear D4 T8
        have hform : ∃ zp4 zl4 zm4, v' = .slice zp4 zl4 zm4 := by
          rcases hv with ⟨rfl, -⟩ | hv
          · exact ⟨_, _, _, rfl⟩
          · obtain ⟨p, m0, rfl, -, -, -⟩ := hv.form
            exact ⟨_, _, _, rfl⟩
        obtain ⟨zp4, zl4, zm4, rfl⟩ := hform
        obtain ⟨z, hz⟩ : ∃ z : TbR, z = ⟨plus x.t [node], x.cv, .slice zp4 zl4 zm4⟩ := ⟨_, rfl⟩
        have S9 := Lib.hid (show RkSt w w9 M #[.slice o1 n1 f1, .slice o2 n2 f2, .slice (some ⟨go, off, none⟩) n3 f3] (.slice o1 n1 f1) (.slice o2 n2 f2) (.slice ao k c) (.slice ao k c) k o ∧ BlkIs w9 G 43 #[.int .i64 x.t.node, .int .i64 x.t.n, .string x.t.id, .slice xp3 xl3 xm3, .slice xp4 xl4 xm4] ∧ Kept w w9 z from by
          refine ⟨S8.out.1.later hb9, S8.out.2.below hb9 S8.out.2.lt, ?_⟩
          rw [hz]
          refine ⟨.inl HXR.out.1.1, ?_⟩
          show RowAt 1 vInt w (.slice zp4 zl4 zm4) (sortU (x.t.acks ++ [node])) ∨ SlIs w9 (w.heap.size + 1) 3 1 (.slice zp4 zl4 zm4) (sortU (x.t.acks ++ [node])).length (rowCells vInt (sortU (x.t.acks ++ [node])))
          rw [← HZL.out]
          rcases hv with ⟨h1, h2⟩ | hv
          · left
            rw [h1, h2, ← HXR.out.2.2]
            exact HXR.out.1.2
          · right
            exact hv.mono HSZ.out)
        have HZ := Lib.hid hz
        clear hz hv hb9
        have e0 : w9.cell? ⟨G, 0, none⟩ = some (.int .i64 x.t.node) := S9.out.2.1.cell 0
        have e1 : w9.cell? ⟨G, 1, none⟩ = some (.int .i64 x.t.n) := S9.out.2.1.cell 1
        have e2 : w9.cell? ⟨G, 2, none⟩ = some (.string x.t.id) := S9.out.2.1.cell 2
        have e3 : w9.cell? ⟨G, 3, none⟩ = some (.slice xp3 xl3 xm3) := S9.out.2.1.cell 3
        have e4 : w9.cell? ⟨G, 4, none⟩ = some (.slice xp4 xl4 xm4) := S9.out.2.1.cell 4
        have ef : ∀ i, w9.frozen? ⟨G, i, none⟩ = false := fun i => S9.out.2.1.free i
        obtain ⟨W10, hW10⟩ : ∃ W10, W10 = w9.setCell ⟨G, 4, none⟩ (.slice zp4 zl4 zm4) := ⟨_, rfl⟩
        have S10 := Lib.hid (show RkSt w W10 M #[.slice o1 n1 f1, .slice o2 n2 f2, .slice (some ⟨go, off, none⟩) n3 f3] (.slice o1 n1 f1) (.slice o2 n2 f2) (.slice ao k c) (.slice ao k c) k o ∧ BlkIs W10 G 43 #[.int .i64 x.t.node, .int .i64 x.t.n, .string x.t.id, .slice xp3 xl3 xm3, .slice zp4 zl4 zm4] ∧ Kept w W10 z from by
          rw [hW10]
          exact ⟨S9.out.1.cell4 S9.out.2.1 HO.out.1 (Nat.le_of_succ_le HO.out.2) _, S9.out.2.1.put 4 _, S9.out.2.2.put S9.out.2.1 (by decide) (by decide) _ _⟩)
        have HW10 := Lib.hid hW10
        clear hW10
        go_upto_region 9 with (fail)
        rw [← HW10.out]
        clear e0 e1 e2 e3 e4 ef
        have g0 : W10.cell? ⟨G, 0, none⟩ = some (.int .i64 x.t.node) := S10.out.2.1.cell 0
        have g1 : W10.cell? ⟨G, 1, none⟩ = some (.int .i64 x.t.n) := S10.out.2.1.cell 1
        have g2 : W10.cell? ⟨G, 2, none⟩ = some (.string x.t.id) := S10.out.2.1.cell 2
        have g3 : W10.cell? ⟨G, 3, none⟩ = some (.slice xp3 xl3 xm3) := S10.out.2.1.cell 3
        have g4 : W10.cell? ⟨G, 4, none⟩ = some (.slice zp4 zl4 zm4) := S10.out.2.1.cell 4
        have h2 : W10.cell? ⟨M, 2, none⟩ = some (.slice ao k c) := S10.out.1.bm.cell 2
        have kc := S10.out.1.s3.capLe
        go_wp2_with (at_builtin; refine wpList_append_sl rfl _ _ _ 24 (by rfl) el_tb (base := w.heap.size + 1) (.slice ao k c) k (rowCells vTb o) (by rfl) (S10.out.1.s3.alloc _) _ 1 [.int .i64 x.t.node, .int .i64 x.t.n, .string x.t.id, .slice xp3 xl3 xm3, .slice zp4 zl4 zm4] (by rfl) (SrcIs.own Tryz.underlying24 (SlIs.made (base := 0) (BlkIs.new _ _ _) (Nat.zero_le _) rfl (by decide))) (by intro u hu; simp at hu; rcases hu with rfl | rfl | rfl | rfl | rfl <;> rfl) (by unfold maxLen; omega) (by omega) (by have := S10.out.1.bx.lt; simp; omega) ?_)
        intro v11 w11 hs11 hg11 hat11
        have S11 := Lib.hid (show RkSt w w11 M #[.slice o1 n1 f1, .slice o2 n2 f2, .slice (some ⟨go, off, none⟩) n3 f3] (.slice o1 n1 f1) (.slice o2 n2 f2) (.slice ao k c) v11 (k + 1) (o ++ [z]) from by
          refine (S10.out.1.later ((Below.refl _ _).alloc (Nat.le_refl _) _)).grown hg11 ?_ (by rw [List.length_append, List.length_singleton, ← S10.out.1.len]) (fun u hu => (List.mem_append.1 hu).imp id fun h => by rw [List.mem_singleton.1 h]; exact S10.out.2.2.later ((Below.refl _ _).alloc (Nat.le_refl _) _))
          rw [rowCells_app, rowCells_one]
          rw [show vTb z = [.int .i64 x.t.node, .int .i64 x.t.n, .string x.t.id, .slice xp3 xl3 xm3, .slice zp4 zl4 zm4] from by rw [HZ.out]; unfold vTb; rw [HXR.out.2.1]; rfl]
          exact hs11)
        obtain ⟨ao5, c5, rfl, -, -, -⟩ := hs11.form
        have HMAP := Lib.hid (show (o ++ [z]).map (·.t) = ((m.tombs.map (·.t)).take (k + 1)).map (fun t => plus t [node]) from by
          rw [List.map_append, HL.out.2, Mk.take_snoc' (by rw [List.length_map]; exact hka), List.map_append]
          show _ ++ [z.t] = _ ++ [plus ((m.tombs.map (·.t))[k]'(by rw [List.length_map]; exact hka)) [node]]
          rw [List.getElem_map, HZ.out, HX.out])
        clear hs11 hg11 hat11 h2 g0 g1 g2 g3 g4
        have h3 : w11.cell? ⟨M, 2, none⟩ = some (.slice ao k c) := S11.out.bm.cell 2
        have hf3 : w11.frozen? ⟨M, 2, none⟩ = false := S11.out.bm.free 2
        obtain ⟨W12, hW12⟩ : ∃ W12, W12 = w11.setCell ⟨M, 2, none⟩ (.slice ao5 (k + 1) c5) := ⟨_, rfl⟩
        have S12 := Lib.hid (show RkSt w W12 M #[.slice o1 n1 f1, .slice o2 n2 f2, .slice (some ⟨go, off, none⟩) n3 f3] (.slice o1 n1 f1) (.slice o2 n2 f2) (.slice ao5 (k + 1) c5) (.slice ao5 (k + 1) c5) (k + 1) (o ++ [z]) from by
          rw [hW12]
          exact S11.out.putM _)
        have HW12 := Lib.hid hW12
        clear hW12
        go_upto_region 6 with (fail)
        rw [← HW12.out]
        clear h3 hf3
        go_wp2_with fail
        exact ⟨⟨k + 1, o ++ [z], ao5, c5, by simp, by omega, Lib.hid ⟨S12.out, HMAP.out⟩⟩, by simp [intOf]; omega⟩
      · have ki : ¬ ((k : Int) < n3) := by omega
        have ki2 : decide ((k : Int) < n3) = false := decide_eq_false ki
        obtain rfl : k = n3 := Nat.le_antisymm hkn hge
        clear ki
        have q2 : wr.cell? ⟨w.heap.size, 2, none⟩ = some (.slice o3 k f3) := HL.out.1.bx.cell 2
        have x0 : wr.cell? ⟨M, 0, none⟩ = some (.slice o1 n1 f1) := HL.out.1.bm.cell 0
        have x1 : wr.cell? ⟨M, 1, none⟩ = some (.slice o2 n2 f2) := HL.out.1.bm.cell 1
        have x2 : wr.cell? ⟨M, 2, none⟩ = some (.slice ao k c) := HL.out.1.bm.cell 2
        have y0 : wr.cell? ⟨w.heap.size + 1, 0, none⟩ = some (.slice none 0 0) := HL.out.1.bz.cell 0
        have y1 : wr.cell? ⟨w.heap.size + 1, 1, none⟩ = some (.slice none 0 0) := HL.out.1.bz.cell 1
        have y2 : wr.cell? ⟨w.heap.size + 1, 2, none⟩ = some (.slice none 0 0) := HL.out.1.bz.cell 2
        have yf : ∀ i, wr.frozen? ⟨w.heap.size + 1, i, none⟩ = false := fun i => HL.out.1.bz.free i
        have hrd : MkR.Reads wr ⟨m.refs, m.toks, o, .slice o1 n1 f1, .slice o2 n2 f2, .slice ao k c⟩ := by
          refine ⟨?_, ?_, ⟨RowAt.of_sl (base := w.heap.size + 1) (e := 43) (fun _ => rfl) (by have h1 := HL.out.1.s3; rwa [HL.out.1.len] at h1 ⊢), fun z hz => (HL.out.1.kept z hz).reads HL.out.1.hb⟩⟩
          · have h1 := HM.out.1.later HL.out.1.hb
            rw [HE.out.1] at h1
            exact h1
          · have h1 := HM.out.2.1.later HL.out.1.hb
            rw [HE.out.2.1] at h1
            exact h1
        have HRD := Lib.hid hrd
        clear hrd
        go_wp2_with fail
        refine rack_end _ (w.heap.size + 1) #[.slice o1 n1 f1, .slice o2 n2 f2, .slice ao k c] rfl _ 0 _ rfl rfl (mk_put _ _ _ HL.out.1.bz ⟨_, _, _, rfl⟩) ?_
        refine ⟨⟨m.refs, m.toks, o, .slice o1 n1 f1, .slice o2 n2 f2, .slice ao k c⟩, 0, rfl, reads3 HRD.out HL.out.1.bz _ _ _ _ _ _ _ _ _, below3 HL.out.1.hb (Nat.le_succ _) _ _ _, .inr ⟨⟨HG.out.symm, HND.out⟩, ?_, rfl⟩⟩
        have h1 := HL.out.2
        rw [HN.out.2.2, show m.tombs.length = (m.tombs.map (·.t)).length by rw [List.length_map], List.take_length] at h1
        unfold MkR.mk_
        rw [h1]
end Go.Proofs.YtbmknmjcoeinkaaGreat.Mg
