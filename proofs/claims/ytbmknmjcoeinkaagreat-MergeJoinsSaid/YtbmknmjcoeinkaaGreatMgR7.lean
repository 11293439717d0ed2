/- The reference's Join, walked. Printed by gen_rjoin.py. (Layer 13.) -/
import Derived.Test.YtbmknmjcoeinkaaGreatMgRA
namespace Go.Proofs.YtbmknmjcoeinkaaGreat.Mg
set_option linter.unusedVariables false
set_option linter.unusedSimpArgs false
open Go.RowKit Go.Lib
open Mk (Rf Tok Tb TbR Mks MkR aMk aTb vRf vTok vTb vInt TombsAt goodB goodB_at rgood_any tombB tombB_at tokensB_at)
open Set (El)
section
variable {α κ : Type} [El κ] {key : α → κ} {mt : α → α → Option α}
theorem len_sub {α : Type} : ∀ {l m : List α}, l.Pairwise (· ≠ ·) → (∀ x ∈ l, x ∈ m) → l.length ≤ m.length
  | [], _, _, _ => Nat.zero_le _
  | x :: l, m, hp, hs => by
    obtain ⟨h1, h2⟩ := List.pairwise_cons.1 hp
    obtain ⟨m1, m2, rfl⟩ := List.append_of_mem (hs x List.mem_cons_self)
    have h3 : l.length ≤ (m1 ++ m2).length := len_sub h2 fun y hy => by
      have h4 := hs y (List.mem_cons_of_mem _ hy)
      rw [List.mem_append, List.mem_cons] at h4
      rw [List.mem_append]
      rcases h4 with h | h | h
      · exact .inl h
      · exact absurd h.symm (h1 y hy)
      · exact .inr h
    rw [List.length_append] at h3
    rw [List.length_cons, List.length_append, List.length_cons]
    omega
theorem join_len (hk : ∀ x y z, mt x y = some z → key x = key y → key z = key x) {l o : List α} {y : α} (h : JoinIs key mt l [y] o) : o.length ≤ l.length + 1 := by
  have h1 : (o.map key).length ≤ (l.map key ++ [key y]).length := by
    refine len_sub ?_ ?_
    · rw [List.pairwise_map]
      exact h.1.imp fun {u v} hlt (he : key u = key v) => by rw [he] at hlt; exact El.irr _ hlt
    · intro k hk'
      obtain ⟨z, hz, rfl⟩ := List.mem_map.1 hk'
      rw [List.mem_append, List.mem_singleton]
      rcases join_keys hk h hz with h2 | ⟨x, hx, h2⟩
      · exact .inr h2
      · exact .inl (h2 ▸ List.mem_map_of_mem hx)
  simpa using h1
theorem join_up {a b o o' : List α} (hb : Rk key b) {k : Nat} {hk : k < b.length} (h : JoinIs key mt a (b.take k) o) {y : α} (hy : y = b[k]) (h' : JoinIs key mt o [y] o') : JoinIs key mt a (b.take (k + 1)) o' := by
  subst hy
  rw [take_succ hk]
  exact join_step h (gk_take_next hb hk) h'
theorem clash_up {a b o : List α} (hb : Rk key b) {k : Nat} {hk : k < b.length} (h : JoinIs key mt a (b.take k) o) {y : α} (hy : y = b[k]) (h' : Clash key mt o [y]) : Clash key mt a b := by
  subst hy
  have h1 := clash_step h (gk_take_next hb hk) h'
  rw [← take_succ hk] at h1
  exact clash_more h1 fun _ _ => gk_take (rk_uk hb) _
end
theorem joined_good {l o : List TbR} {x : Tb} (hl : ∀ z ∈ l, tombB z.t = true) (hx : tombB x = true) (h : JoinIs kTb mTb (l.map (·.t)) [x] (o.map (·.t))) : ∀ z ∈ o, tombB z.t = true := by
  intro z hz
  rcases join_mem h (List.mem_map_of_mem hz) with h1 | h1 | ⟨u, hu, v, hv, -, hm⟩
  · obtain ⟨y, hy, he⟩ := List.mem_map.1 h1
    rw [← he]; exact hl y hy
  · rw [List.mem_singleton.1 h1]; exact hx
  · obtain ⟨y, hy, rfl⟩ := List.mem_map.1 hu
    rw [List.mem_singleton] at hv
    subst hv
    unfold mTb at hm
    split at hm
    · rw [← Option.some.inj hm]; exact tombB_plus (hl y hy) (isNode_of hx)
    · cases hm
theorem good_few {m : MkR} (h : goodB m.mk_ = true) : m.refs.length ≤ 64 ∧ m.toks.length ≤ 256 ∧ m.tombs.length ≤ 64 := by
  obtain ⟨⟨h1, -, -⟩, ⟨h2, h3, -⟩, h4⟩ := goodB_at h
  have h5 := (tokensB_at h4).1
  unfold MkR.mk_ at h1 h2 h5
  dsimp only at h1 h2 h5
  rw [List.length_map] at h2
  exact ⟨h1, h5, h2⟩
theorem JoSt.put0 {w W : World} {B M : Nat} {xs ys zs : Array Value} {c0 c1 c2 : Value} (h : JoSt w W B M xs ys zs c0 c1 c2) (u : Value) : JoSt w (W.setCell ⟨M, 0, none⟩ u) B M xs ys zs u c1 c2 := by
  have hM := h.hM
  exact ⟨h.bx.far (by show B ≠ M; omega) _, h.by_.far (by show B + 1 ≠ M; omega) _, h.bz.far (by show B + 2 ≠ M; omega) _, h.bg.put 0 _, h.hb.setCell (by show B ≤ M; omega) _, h.hM⟩
theorem rjoin_end (w8 : World) (b : Nat) (cs : Array Value) (hs : cs.size = 3) (tmps : Array Value) (c : Int) (Q : Ending → World → Prop) (h2 : tmps.getD 4 undef = .pointer (some ⟨b, 0, none⟩)) (h3 : tmps.getD 5 undef = .int .i64 c) (k : BlkIs w8 b 26 cs) (hQ : Q (.returned (.tuple #[.agg cs, .int .i64 c])) w8) :
    bodyPost Tryz.prog Tryz.f12 Q Exit.ret ⟨tmps, []⟩ w8 :=
  bodyPost_ret (results_cell_tmp' rfl _ _ b 26 cs (0, 0) _ h2 k Tryz.underlying26 rfl (by rw [hs]; show _ = some 3; kernel_rfl)) rfl (by rw [h3]; exact hQ)
set_option maxRecDepth 100000 in
set_option maxHeartbeats 16000000 in
theorem rjoin_any (a b : MkR) (w : World) (ha : a.Reads w) (hb : b.Reads w) (hsa : a.Small) (hsb : b.Small) : Calls Tryz.prog 12 #[aMk a, aMk b] w fun e w' => JoinOut a b w.heap.size w w' e := by
  have HAB := Lib.hid (And.intro ha hb)
  obtain ⟨ga, hga⟩ : ∃ q, q = goodB a.mk_ := ⟨_, rfl⟩
  obtain ⟨gb, hgb⟩ : ∃ q, q = goodB b.mk_ := ⟨_, rfl⟩
  have HG := Lib.hid (And.intro hga hgb)
  have G1 := fun W (hW : Below w.heap.size w W) => rgood_any a W (HAB.out.1.later hW) hsa.2.2.2 hsa.2.1
  have G2 := fun W (hW : Below w.heap.size w W) => rgood_any b W (HAB.out.2.later hW) hsb.2.2.2 hsb.2.1
  rw [← hga] at G1
  rw [← hgb] at G2
  obtain ⟨o1, f1, e1, -, -⟩ := ha.1.form
  obtain ⟨o2, f2, e2, -, -⟩ := ha.2.1.form
  obtain ⟨o3, f3, e3, -, -⟩ := ha.2.2.1.form
  obtain ⟨p1, g1, e4, -, -⟩ := hb.1.form
  obtain ⟨p2, g2, e5, -, -⟩ := hb.2.1.form
  obtain ⟨p3, g3, e6, -, -⟩ := hb.2.2.1.form
  obtain ⟨n1, hn1⟩ : ∃ n, n = a.refs.length := ⟨_, rfl⟩
  obtain ⟨n2, hn2⟩ : ∃ n, n = a.toks.length := ⟨_, rfl⟩
  obtain ⟨n3, hn3⟩ : ∃ n, n = a.tombs.length := ⟨_, rfl⟩
  obtain ⟨m1, hm1⟩ : ∃ n, n = b.refs.length := ⟨_, rfl⟩
  obtain ⟨m2, hm2⟩ : ∃ n, n = b.toks.length := ⟨_, rfl⟩
  obtain ⟨m3, hm3⟩ : ∃ n, n = b.tombs.length := ⟨_, rfl⟩
  rw [← hn1] at e1
  rw [← hn2] at e2
  rw [← hn3] at e3
  rw [← hm1] at e4
  rw [← hm2] at e5
  rw [← hm3] at e6
  have ea : aMk a = .agg #[.slice o1 n1 f1, .slice o2 n2 f2, .slice o3 n3 f3] := by unfold aMk; rw [e1, e2, e3]
  have eb : aMk b = .agg #[.slice p1 m1 g1, .slice p2 m2 g2, .slice p3 m3 g3] := by unfold aMk; rw [e4, e5, e6]
  rw [ea] at G1 ⊢
  rw [eb] at G2 ⊢
  have G1 := Lib.hid G1
  have G2 := Lib.hid G2
  have HN := Lib.hid (And.intro hn1 (And.intro hn2 (And.intro hn3 (And.intro hm1 (And.intro hm2 hm3)))))
  have HRA := Lib.hid (show RowAt 3 vRf w (.slice o1 n1 f1) a.refs ∧ RowAt 3 vTok w (.slice o2 n2 f2) a.toks ∧ TombsAt w (.slice o3 n3 f3) a.tombs from by rw [← e1, ← e2, ← e3]; exact ha)
  have HRB := Lib.hid (show RowAt 3 vRf w (.slice p1 m1 g1) b.refs ∧ RowAt 3 vTok w (.slice p2 m2 g2) b.toks ∧ TombsAt w (.slice p3 m3 g3) b.tombs from by rw [← e4, ← e5, ← e6]; exact hb)
  clear ha hb hsa hsb ea eb e1 e2 e3 e4 e5 e6 hn1 hn2 hn3 hm1 hm2 hm3 hga hgb
  obtain ⟨B, hB⟩ : ∃ B, B = w.heap.size := ⟨_, rfl⟩
  obtain ⟨W3, hW3⟩ : ∃ W3, W3 = ((w.alloc (.cells #[.slice o1 n1 f1, .slice o2 n2 f2, .slice o3 n3 f3] 26)).alloc (.cells #[.slice p1 m1 g1, .slice p2 m2 g2, .slice p3 m3 g3] 26)).alloc (.cells #[.slice none 0 0, .slice none 0 0, .slice none 0 0] 26) := ⟨_, rfl⟩
  have K := Lib.hid (show BlkIs W3 B 26 #[.slice o1 n1 f1, .slice o2 n2 f2, .slice o3 n3 f3] ∧ BlkIs W3 (B + 1) 26 #[.slice p1 m1 g1, .slice p2 m2 g2, .slice p3 m3 g3] ∧ BlkIs W3 (B + 2) 26 #[.slice none 0 0, .slice none 0 0, .slice none 0 0] ∧ Below B w W3 ∧ W3.heap.size = B + 3 from by
    rw [hW3, hB]
    exact ⟨((BlkIs.new _ _ _).alloc _).alloc _, (BlkIs.new2 _ _ _ _).alloc _, BlkIs.new3 _ _ _ _ _, (((Below.refl _ _).alloc (Nat.le_refl _) _).alloc (by simp) _).alloc (by simp; omega) _, by simp⟩)
  have HW := Lib.hid hW3
  clear hW3
  rw [← hB] at G1 G2 ⊢
  go_enter Tryz.func12, Tryz.ntmps12
  go_upto_region 1 with (fail)
  rw [← hB]
  rw [← HW.out]
  have HB := Lib.hid hB
  clear hB
  obtain ⟨k1, k2, k3, -, -⟩ := K.out
  have d0 : W3.cell? ⟨B, 0, none⟩ = some (.slice o1 n1 f1) := k1.cell 0
  have d1 : W3.cell? ⟨B, 1, none⟩ = some (.slice o2 n2 f2) := k1.cell 1
  have d2 : W3.cell? ⟨B, 2, none⟩ = some (.slice o3 n3 f3) := k1.cell 2
  clear k1 k2 k3
  go_wp2_with fail
  refine (G1.out _ K.out.2.2.2.1).mono ?_
  rintro e w4 ⟨rfl, hb4⟩
  have K4 := Lib.hid (show BlkIs w4 B 26 #[.slice o1 n1 f1, .slice o2 n2 f2, .slice o3 n3 f3] ∧ BlkIs w4 (B + 1) 26 #[.slice p1 m1 g1, .slice p2 m2 g2, .slice p3 m3 g3] ∧ BlkIs w4 (B + 2) 26 #[.slice none 0 0, .slice none 0 0, .slice none 0 0] ∧ Below B w w4 ∧ B + 3 ≤ w4.heap.size from
    ⟨K.out.1.below hb4 K.out.1.lt, K.out.2.1.below hb4 K.out.2.1.lt, K.out.2.2.1.below hb4 K.out.2.2.1.lt, K.out.2.2.2.1.trans (hb4.mono (by rw [K.out.2.2.2.2]; omega)), by have := hb4.size; rw [K.out.2.2.2.2] at this; exact this⟩)
  clear hb4 d0 d1 d2 K
  cases ga with
  | false =>
    have z0 : w4.cell? ⟨B + 1 + 1, 0, none⟩ = some (.slice none 0 0) := K4.out.2.2.1.cell 0
    have z1 : w4.cell? ⟨B + 1 + 1, 1, none⟩ = some (.slice none 0 0) := K4.out.2.2.1.cell 1
    have z2 : w4.cell? ⟨B + 1 + 1, 2, none⟩ = some (.slice none 0 0) := K4.out.2.2.1.cell 2
    have zf : ∀ i, w4.frozen? ⟨B + 1 + 1, i, none⟩ = false := fun i => K4.out.2.2.1.free i
    go_wp2_with fail
    refine rjoin_end _ (B + 2) #[.slice none 0 0, .slice none 0 0, .slice none 0 0] rfl _ 1 _ rfl rfl (mk_put _ _ _ K4.out.2.2.1 ⟨_, _, _, rfl⟩) ?_
    exact out_none 1 K4.out.2.2.2.1 (.inl ⟨fun h => (by have h1 := HG.out.1; rw [h.1] at h1; cases h1), rfl, rfl⟩) K4.out.2.2.1
  | true =>
    have y0 : w4.cell? ⟨B + 1, 0, none⟩ = some (.slice p1 m1 g1) := K4.out.2.1.cell 0
    have y1 : w4.cell? ⟨B + 1, 1, none⟩ = some (.slice p2 m2 g2) := K4.out.2.1.cell 1
    have y2 : w4.cell? ⟨B + 1, 2, none⟩ = some (.slice p3 m3 g3) := K4.out.2.1.cell 2
    go_wp2_with fail
    refine (G2.out _ K4.out.2.2.2.1).mono ?_
    rintro e w5 ⟨rfl, hb5⟩
    have K5 := Lib.hid (show BlkIs w5 B 26 #[.slice o1 n1 f1, .slice o2 n2 f2, .slice o3 n3 f3] ∧ BlkIs w5 (B + 1) 26 #[.slice p1 m1 g1, .slice p2 m2 g2, .slice p3 m3 g3] ∧ BlkIs w5 (B + 2) 26 #[.slice none 0 0, .slice none 0 0, .slice none 0 0] ∧ Below B w w5 ∧ B + 3 ≤ w5.heap.size from
      ⟨K4.out.1.below hb5 K4.out.1.lt, K4.out.2.1.below hb5 K4.out.2.1.lt, K4.out.2.2.1.below hb5 K4.out.2.2.1.lt, K4.out.2.2.2.1.trans (hb5.mono (by have := K4.out.2.2.2.2; omega)), Nat.le_trans K4.out.2.2.2.2 hb5.size⟩)
    clear hb5 y0 y1 y2 K4
    cases gb with
    | false =>
      have z0 : w5.cell? ⟨B + 1 + 1, 0, none⟩ = some (.slice none 0 0) := K5.out.2.2.1.cell 0
      have z1 : w5.cell? ⟨B + 1 + 1, 1, none⟩ = some (.slice none 0 0) := K5.out.2.2.1.cell 1
      have z2 : w5.cell? ⟨B + 1 + 1, 2, none⟩ = some (.slice none 0 0) := K5.out.2.2.1.cell 2
      have zf : ∀ i, w5.frozen? ⟨B + 1 + 1, i, none⟩ = false := fun i => K5.out.2.2.1.free i
      go_wp2_with fail
      refine rjoin_end _ (B + 2) #[.slice none 0 0, .slice none 0 0, .slice none 0 0] rfl _ 1 _ rfl rfl (mk_put _ _ _ K5.out.2.2.1 ⟨_, _, _, rfl⟩) ?_
      exact out_none 1 K5.out.2.2.2.1 (.inl ⟨fun h => (by have h1 := HG.out.2; rw [h.2] at h1; cases h1), rfl, rfl⟩) K5.out.2.2.1
    | true =>
      have HGG := Lib.hid (And.intro HG.out.1.symm HG.out.2.symm)
      have HMB := Lib.hid (And.intro (good_few HGG.out.1) (good_few HGG.out.2))
      go_upto_region 3 with (fail)
      have x0 : w5.cell? ⟨B, 0, none⟩ = some (.slice o1 n1 f1) := K5.out.1.cell 0
      have x1 : w5.cell? ⟨B, 1, none⟩ = some (.slice o2 n2 f2) := K5.out.1.cell 1
      have x2 : w5.cell? ⟨B, 2, none⟩ = some (.slice o3 n3 f3) := K5.out.1.cell 2
      obtain ⟨W6, hW6⟩ : ∃ W6, W6 = w5.alloc (.cells #[.slice o1 n1 f1, .slice o2 n2 f2, .slice o3 n3 f3] 26) := ⟨_, rfl⟩
      obtain ⟨M, hM⟩ : ∃ M, M = w5.heap.size := ⟨_, rfl⟩
      have hba : Below w5.heap.size w5 W6 := by rw [hW6]; exact (Below.refl _ _).alloc (Nat.le_refl _) _
      have hbw : Below w.heap.size w W6 := by
        have h1 := K5.out.2.2.2.1.trans (hba.mono (by have := K5.out.2.2.2.2; omega))
        rwa [HB.out] at h1
      have S0 := Lib.hid (show (JoSt w W6 B M #[.slice o1 n1 f1, .slice o2 n2 f2, .slice o3 n3 f3] #[.slice p1 m1 g1, .slice p2 m2 g2, .slice p3 m3 g3] #[.slice none 0 0, .slice none 0 0, .slice none 0 0] (.slice o1 n1 f1) (.slice o2 n2 f2) (.slice o3 n3 f3)) ∧ RowAt 3 vRf W6 (.slice o1 n1 f1) a.refs ∧ n1 = a.refs.length ∧ JoinIs kRf mRf a.refs (b.refs.take 0) a.refs ∧ n1 ≤ n1 + 0 from
        ⟨⟨K5.out.1.below hba K5.out.1.lt, K5.out.2.1.below hba K5.out.2.1.lt, K5.out.2.2.1.below hba K5.out.2.2.1.lt, by rw [hW6, hM]; exact BlkIs.new _ _ _, K5.out.2.2.2.1.trans (hba.mono (by have := K5.out.2.2.2.2; omega)), by have := K5.out.2.2.2.2; omega⟩, HRA.out.1.later hbw, HN.out.1, join_nil (show Rk kRf a.refs from (good_rk HGG.out.1).1), Nat.le_refl _⟩)
      have HW6 := Lib.hid (And.intro hW6 hM)
      clear hW6 hM hba hbw
      go_upto_region 4 with (fail)
      rw [← HW6.out.1, ← HW6.out.2]
      clear x0 x1 x2 G1 G2
      have hm1000 : m1 ≤ 64 ∧ m2 ≤ 256 ∧ m3 ≤ 64 := by have := HMB.out.2; have := HN.out; omega
      go_wp2_with fail
      go_loopw [7] (fun i wr => ∃ (k l1 h1 : Nat) (q1 : Option Addr) (L1 : List Rf), i = .int .i64 (k : Int) ∧ k ≤ m1 ∧ Hid ((JoSt w wr B M #[.slice o1 n1 f1, .slice o2 n2 f2, .slice o3 n3 f3] #[.slice p1 m1 g1, .slice p2 m2 g2, .slice p3 m3 g3] #[.slice none 0 0, .slice none 0 0, .slice none 0 0] (.slice q1 l1 h1) (.slice o2 n2 f2) (.slice o3 n3 f3)) ∧ RowAt 3 vRf wr (.slice q1 l1 h1) L1 ∧ l1 = L1.length ∧ JoinIs kRf mRf a.refs (b.refs.take k) L1 ∧ l1 ≤ n1 + k)) (fun i _ => ((m1 : Int) - intOf i).toNat)
      case atStart => exact ⟨0, _, _, _, a.refs, rfl, Nat.zero_le _, S0⟩
      case round =>
        obtain ⟨k, l1, h1, q1, L1, rfl, hkn, HL⟩ := hrel
        clear S0
        rcases Nat.lt_or_ge k m1 with hlt | hge
        · have ki : (k : Int) < m1 := by omega
          have kw : IntKind.i64.wrap ((k : Int) + 1) = ((k + 1 : Nat) : Int) := IntWalk.i64_in _ (by omega)
          have hkb : k < b.refs.length := by have := HN.out.2.2.2.1; omega
          obtain ⟨gb, off, hag, hgl, hc⟩ := HRB.out.1.at_ (by omega)
          subst hag
          obtain ⟨y, hy⟩ : ∃ y, y = b.refs[k] := ⟨_, rfl⟩
          have HU0 := Lib.hid (show w.cell? ⟨gb, off + k * 3, none⟩ = some (.string y.name) from by rw [hy]; exact hc k hkb 0 _ rfl)
          have HU1 := Lib.hid (show w.cell? ⟨gb, off + k * 3 + 1, none⟩ = some (.string y.id) from by rw [hy]; exact hc k hkb 1 _ rfl)
          have HU2 := Lib.hid (show w.cell? ⟨gb, off + k * 3 + 2, none⟩ = some (.int .i64 y.h) from by rw [hy]; exact hc k hkb 2 _ rfl)
          have HY := Lib.hid hy
          have HGL := Lib.hid hgl
          clear hy hgl hc
          have y0 : wr.cell? ⟨B + 1, 0, none⟩ = some (.slice (some ⟨gb, off, none⟩) m1 g1) := HL.out.1.by_.cell 0
          go_upto_region 7 with (fail)
          clear y0
          have hbd : Below wr.heap.size wr wr.drew := ⟨rfl, rfl, rfl, Nat.le_refl _, fun _ _ => rfl⟩
          have e0 : wr.drew.cell? ⟨M, 0, none⟩ = some (.slice q1 l1 h1) := HL.out.1.bg.cell 0
          have HK := Lib.hid (show ∀ (c0 c1 c2 : Value) W, JoSt w W B M #[.slice o1 n1 f1, .slice o2 n2 f2, .slice o3 n3 f3] #[.slice (some ⟨gb, off, none⟩) m1 g1, .slice p2 m2 g2, .slice p3 m3 g3] #[.slice none 0 0, .slice none 0 0, .slice none 0 0] c0 c1 c2 → W.cell? ⟨B + 1, 0, none⟩ = some (.slice (some ⟨gb, off, none⟩) m1 g1) ∧ W.cell? ⟨gb, off + k * 3, none⟩ = some (.string y.name) ∧ W.cell? ⟨gb, off + k * 3 + 1, none⟩ = some (.string y.id) ∧ W.cell? ⟨gb, off + k * 3 + 2, none⟩ = some (.int .i64 y.h) from fun c0 c1 c2 W hb => by
            have hbw : Below w.heap.size w W := by rw [← HB.out]; exact hb.hb
            exact ⟨hb.by_.cell 0, (hbw.cell (p := ⟨gb, off + k * 3, none⟩) HGL.out).trans HU0.out, (hbw.cell (p := ⟨gb, off + k * 3 + 1, none⟩) HGL.out).trans HU1.out, (hbw.cell (p := ⟨gb, off + k * 3 + 2, none⟩) HGL.out).trans HU2.out⟩)
          have R := Lib.hid (rref_any (.slice q1 l1 h1) L1 y wr.drew (HL.out.2.1.later hbd) HL.out.2.2.2.1.1 (by have := good_few HGG.out.1; have := good_few HGG.out.2; have := HN.out; have := HL.out.2.2.2.2; have := HL.out.2.2.1; omega))
          refine wp_region_held_drew (S := fun W => W.cell? ⟨B + 1, 0, none⟩ = some (.slice (some ⟨gb, off, none⟩) m1 g1) ∧ W.cell? ⟨gb, off + k * 3, none⟩ = some (.string y.name) ∧ W.cell? ⟨gb, off + k * 3 + 1, none⟩ = some (.string y.id) ∧ W.cell? ⟨gb, off + k * 3 + 2, none⟩ = some (.int .i64 y.h)) (by kernel_rfl) (HK.out _ _ _ _ (HL.out.1.later hbd)) (fun hHeld => ?_)
          refine wpAnyH_take (i := 0) (v := .pointer (some ⟨M, 0, none⟩)) rfl (by kernel_rfl) (by kernel_rfl) (by kernel_rfl) (fun _ _ _ h => h) (Or.inl ⟨by kernel_rfl, fun w hSw => ?_⟩) (by assumption) ?_
          · dsimp only at hSw
            go_simp
          simp only [Act.put, List.setIfInBounds_toArray, List.set_cons_zero, List.set_cons_succ]
          refine wpAnyH_take (i := 2) (v := .pointer (some ⟨B + 1, 0, none⟩)) rfl (by kernel_rfl) (by kernel_rfl) (by kernel_rfl) (fun _ _ _ h => h) (Or.inl ⟨by kernel_rfl, fun w hSw => ?_⟩) (by assumption) ?_
          · dsimp only at hSw
            go_simp
          simp only [Act.put, List.setIfInBounds_toArray, List.set_cons_zero, List.set_cons_succ]
          refine wpAnyH_take (i := 3) (v := .slice (some ⟨gb, off, none⟩) m1 g1) rfl (by kernel_rfl) (by kernel_rfl) (by kernel_rfl) (fun _ _ _ h => h) (Or.inl ⟨by kernel_rfl, fun w hSw => ?_⟩) (by assumption) ?_
          · dsimp only at hSw
            go_simp
          simp only [Act.put, List.setIfInBounds_toArray, List.set_cons_zero, List.set_cons_succ]
          refine wpAnyH_take (i := 4) (v := .int .i64 (k : Int)) rfl (by kernel_rfl) (by kernel_rfl) (by kernel_rfl) (fun _ _ _ h => h) (Or.inl ⟨by kernel_rfl, fun w hSw => ?_⟩) (by assumption) ?_
          · dsimp only at hSw
            go_simp
          simp only [Act.put, List.setIfInBounds_toArray, List.set_cons_zero, List.set_cons_succ]
          refine wpAnyH_take (i := 5) (v := .pointer (some ⟨gb, off + k * 3, none⟩)) rfl (by kernel_rfl) (by kernel_rfl) (by kernel_rfl) (fun _ _ _ h => h) (Or.inl ⟨by kernel_rfl, fun w hSw => ?_⟩) (by assumption) ?_
          · dsimp only at hSw
            go_simp
          simp only [Act.put, List.setIfInBounds_toArray, List.set_cons_zero, List.set_cons_succ]
          refine wpAnyH_take (i := 6) (v := .agg #[.string y.name, .string y.id, .int .i64 y.h]) rfl (by kernel_rfl) (by kernel_rfl) (by kernel_rfl) (fun _ _ _ h => h) (Or.inl ⟨by kernel_rfl, fun w hSw => ?_⟩) (by assumption) ?_
          · dsimp only at hSw
            go_simp
          simp only [Act.put, List.setIfInBounds_toArray, List.set_cons_zero, List.set_cons_succ]
          refine wpAnyH_ready (rs := [1]) (by kernel_rfl) (by simp) ?_
          refine AllReadyH.cons rfl (fun K hK => ?_) AllReadyH.nil
          go_simp
          refine hK.out _ _ ?_ (fun hHeld2 => ?_)
          · exact hHeld
          clear hK K e0
          refine wpAnyH_ready (rs := [7]) (by kernel_rfl) (by simp) ?_
          refine AllReadyH.cons rfl (fun K hK => ?_) AllReadyH.nil
          go_simp
          go_wp2_with (
            go_at_call 25
            refine R.out.mono ?_
            rintro e w6 ⟨v6, L6, rfl, hr6, hj6, hb⟩
            obtain ⟨q6, h6, rfl, -, -⟩ := hr6.form
            obtain ⟨l6, hl6⟩ : ∃ n, n = L6.length := ⟨_, rfl⟩
            rw [← hl6] at hr6 ⊢
            have HR6 := Lib.hid (And.intro hr6 (And.intro hl6 hj6))
            clear hr6 hl6 hj6)
          have hb6 : Below wr.heap.size wr w6 := hbd.trans (hb.mono hbd.size)
          have S6 := Lib.hid (show (JoSt w w6 B M #[.slice o1 n1 f1, .slice o2 n2 f2, .slice o3 n3 f3] #[.slice (some ⟨gb, off, none⟩) m1 g1, .slice p2 m2 g2, .slice p3 m3 g3] #[.slice none 0 0, .slice none 0 0, .slice none 0 0] (.slice q1 l1 h1) (.slice o2 n2 f2) (.slice o3 n3 f3)) ∧ RowAt 3 vRf w6 (.slice q6 l6 h6) L6 from ⟨HL.out.1.later hb6, HR6.out.1⟩)
          refine hK.out _ _ ?_ (fun hHeld3 => ?_)
          · exact HK.out _ _ _ _ S6.out.1
          clear hK K hb hb6 R
          have f0 : w6.cell? ⟨M, 0, none⟩ = some (.slice q1 l1 h1) := S6.out.1.bg.cell 0
          have ff : w6.frozen? ⟨M, 0, none⟩ = false := S6.out.1.bg.free 0
          refine wpAnyH_take (i := 8) (v := .pointer (some ⟨M, 0, none⟩)) rfl (by kernel_rfl) (by kernel_rfl) (by kernel_rfl) (fun _ _ _ h => h) (Or.inl ⟨by kernel_rfl, fun w hSw => ?_⟩) (by assumption) ?_
          · dsimp only at hSw
            go_simp
          simp only [Act.put, List.setIfInBounds_toArray, List.set_cons_zero, List.set_cons_succ]
          refine wpAnyH_ready (rs := [9]) (by kernel_rfl) (by simp) ?_
          refine AllReadyH.cons rfl (fun K hK => ?_) AllReadyH.nil
          go_simp
          have S7 := Lib.hid (show (JoSt w (w6.setCell ⟨M, 0, none⟩ (.slice q6 l6 h6)) B M #[.slice o1 n1 f1, .slice o2 n2 f2, .slice o3 n3 f3] #[.slice (some ⟨gb, off, none⟩) m1 g1, .slice p2 m2 g2, .slice p3 m3 g3] #[.slice none 0 0, .slice none 0 0, .slice none 0 0] (.slice q6 l6 h6) (.slice o2 n2 f2) (.slice o3 n3 f3)) ∧ RowAt 3 vRf (w6.setCell ⟨M, 0, none⟩ (.slice q6 l6 h6)) (.slice q6 l6 h6) L6 from ⟨S6.out.1.put0 _, row_put S6.out.2 ns_rf S6.out.1.bg (slices3 q1 o2 o3 l1 h1 n2 f2 n3 f3) _ _⟩)
          refine hK.out _ _ ?_ (fun hHeld4 => ?_)
          · exact HK.out _ _ _ _ S7.out.1
          clear hK K f0 ff hHeld hHeld2 hHeld3 hHeld4
          refine wpAnyH_done (by kernel_rfl) ?_ _
          obtain ⟨W7, hW7⟩ : ∃ W7, W7 = w6.setCell ⟨M, 0, none⟩ (.slice q6 l6 h6) := ⟨_, rfl⟩
          rw [← hW7] at S7 ⊢
          clear hW7 hbd HK
          go_wp2_with fail
          exact ⟨⟨k + 1, _, _, _, L6, by simp, by omega, Lib.hid ⟨S7.out.1, S7.out.2, HR6.out.2.1, join_up (good_rk HGG.out.2).1 HL.out.2.2.2.1 (k := k) (hk := hkb) HY.out HR6.out.2.2, by have := HL.out.2.2.2.2; have := join_len mRf_key HR6.out.2.2; have := HL.out.2.2.1; have := HR6.out.2.1; omega⟩⟩, by simp [intOf]; omega⟩
        · have ki : ¬ ((k : Int) < m1) := by omega
          have ki2 : decide ((k : Int) < m1) = false := decide_eq_false ki
          obtain rfl : k = m1 := Nat.le_antisymm hkn hge
          clear ki
          have y0 : wr.cell? ⟨B + 1, 0, none⟩ = some (.slice p1 k g1) := HL.out.1.by_.cell 0
          go_wp2_with fail
          clear y0 ki2
          have HJ1 := Lib.hid (show JoinIs kRf mRf a.refs b.refs L1 from by
            have h1 := HL.out.2.2.2.1
            rwa [HN.out.2.2.2.1, List.take_length] at h1)
          have HL1 := Lib.hid HL.out.2.2.1
          have S1 := Lib.hid (show (JoSt w wr B M #[.slice o1 n1 f1, .slice o2 n2 f2, .slice o3 n3 f3] #[.slice p1 k g1, .slice p2 m2 g2, .slice p3 m3 g3] #[.slice none 0 0, .slice none 0 0, .slice none 0 0] (.slice q1 l1 h1) (.slice o2 n2 f2) (.slice o3 n3 f3)) ∧ RowAt 3 vRf wr (.slice q1 l1 h1) L1 ∧ RowAt 3 vTok wr (.slice o2 n2 f2) a.toks ∧ n2 = a.toks.length ∧ JoinIs kTok mTok a.toks (b.toks.take 0) a.toks ∧ n2 ≤ n2 + 0 from ⟨HL.out.1, HL.out.2.1, HRA.out.2.1.later (show Below w.heap.size w wr from by rw [← HB.out]; exact HL.out.1.hb), HN.out.2.1, join_nil (show Rk kTok a.toks from (good_rk HGG.out.1).2.1), Nat.le_refl _⟩)
          clear HL
          obtain ⟨m1, hm1⟩ : ∃ m, m = k := ⟨_, rfl⟩
          subst hm1
          go_loopw [8] (fun i wr => ∃ (k l2 h2 : Nat) (q2 : Option Addr) (L2 : List Tok), i = .int .i64 (k : Int) ∧ k ≤ m2 ∧ Hid ((JoSt w wr B M #[.slice o1 n1 f1, .slice o2 n2 f2, .slice o3 n3 f3] #[.slice p1 m1 g1, .slice p2 m2 g2, .slice p3 m3 g3] #[.slice none 0 0, .slice none 0 0, .slice none 0 0] (.slice q1 l1 h1) (.slice q2 l2 h2) (.slice o3 n3 f3)) ∧ RowAt 3 vRf wr (.slice q1 l1 h1) L1 ∧ RowAt 3 vTok wr (.slice q2 l2 h2) L2 ∧ l2 = L2.length ∧ JoinIs kTok mTok a.toks (b.toks.take k) L2 ∧ l2 ≤ n2 + k)) (fun i _ => ((m2 : Int) - intOf i).toNat)
          case atStart => exact ⟨0, _, _, _, a.toks, rfl, Nat.zero_le _, S1⟩
          case round =>
            obtain ⟨k, l2, h2, q2, L2, rfl, hkn, HL⟩ := hrel
            clear S1
            rcases Nat.lt_or_ge k m2 with hlt | hge
            · have ki : (k : Int) < m2 := by omega
              have kw : IntKind.i64.wrap ((k : Int) + 1) = ((k + 1 : Nat) : Int) := IntWalk.i64_in _ (by omega)
              have hkb : k < b.toks.length := by have := HN.out.2.2.2.2.1; omega
              obtain ⟨gb, off, hag, hgl, hc⟩ := HRB.out.2.1.at_ (by omega)
              subst hag
              obtain ⟨y, hy⟩ : ∃ y, y = b.toks[k] := ⟨_, rfl⟩
              have HU0 := Lib.hid (show w.cell? ⟨gb, off + k * 3, none⟩ = some (.int .i64 y.node) from by rw [hy]; exact hc k hkb 0 _ rfl)
              have HU1 := Lib.hid (show w.cell? ⟨gb, off + k * 3 + 1, none⟩ = some (.int .i64 y.n) from by rw [hy]; exact hc k hkb 1 _ rfl)
              have HU2 := Lib.hid (show w.cell? ⟨gb, off + k * 3 + 2, none⟩ = some (.string y.id) from by rw [hy]; exact hc k hkb 2 _ rfl)
              have HY := Lib.hid hy
              have HGL := Lib.hid hgl
              clear hy hgl hc
              have y0 : wr.cell? ⟨B + 1, 1, none⟩ = some (.slice (some ⟨gb, off, none⟩) m2 g2) := HL.out.1.by_.cell 1
              go_upto_region 11 with (fail)
              clear y0
              have hbd : Below wr.heap.size wr wr.drew := ⟨rfl, rfl, rfl, Nat.le_refl _, fun _ _ => rfl⟩
              have e0 : wr.drew.cell? ⟨M, 1, none⟩ = some (.slice q2 l2 h2) := HL.out.1.bg.cell 1
              have HK := Lib.hid (show ∀ (c0 c1 c2 : Value) W, JoSt w W B M #[.slice o1 n1 f1, .slice o2 n2 f2, .slice o3 n3 f3] #[.slice p1 m1 g1, .slice (some ⟨gb, off, none⟩) m2 g2, .slice p3 m3 g3] #[.slice none 0 0, .slice none 0 0, .slice none 0 0] c0 c1 c2 → W.cell? ⟨B + 1, 1, none⟩ = some (.slice (some ⟨gb, off, none⟩) m2 g2) ∧ W.cell? ⟨gb, off + k * 3, none⟩ = some (.int .i64 y.node) ∧ W.cell? ⟨gb, off + k * 3 + 1, none⟩ = some (.int .i64 y.n) ∧ W.cell? ⟨gb, off + k * 3 + 2, none⟩ = some (.string y.id) from fun c0 c1 c2 W hb => by
                have hbw : Below w.heap.size w W := by rw [← HB.out]; exact hb.hb
                exact ⟨hb.by_.cell 1, (hbw.cell (p := ⟨gb, off + k * 3, none⟩) HGL.out).trans HU0.out, (hbw.cell (p := ⟨gb, off + k * 3 + 1, none⟩) HGL.out).trans HU1.out, (hbw.cell (p := ⟨gb, off + k * 3 + 2, none⟩) HGL.out).trans HU2.out⟩)
              have R := Lib.hid (rtoken_any (.slice q2 l2 h2) L2 y wr.drew (HL.out.2.2.1.later hbd) HL.out.2.2.2.2.1.1 (by have := good_few HGG.out.1; have := good_few HGG.out.2; have := HN.out; have := HL.out.2.2.2.2.2; have := HL.out.2.2.2.1; omega))
              refine wp_region_held_drew (S := fun W => W.cell? ⟨B + 1, 1, none⟩ = some (.slice (some ⟨gb, off, none⟩) m2 g2) ∧ W.cell? ⟨gb, off + k * 3, none⟩ = some (.int .i64 y.node) ∧ W.cell? ⟨gb, off + k * 3 + 1, none⟩ = some (.int .i64 y.n) ∧ W.cell? ⟨gb, off + k * 3 + 2, none⟩ = some (.string y.id)) (by kernel_rfl) (HK.out _ _ _ _ (HL.out.1.later hbd)) (fun hHeld => ?_)
              refine wpAnyH_take (i := 0) (v := .pointer (some ⟨M, 1, none⟩)) rfl (by kernel_rfl) (by kernel_rfl) (by kernel_rfl) (fun _ _ _ h => h) (Or.inl ⟨by kernel_rfl, fun w hSw => ?_⟩) (by assumption) ?_
              · dsimp only at hSw
                go_simp
              simp only [Act.put, List.setIfInBounds_toArray, List.set_cons_zero, List.set_cons_succ]
              refine wpAnyH_take (i := 2) (v := .pointer (some ⟨B + 1, 1, none⟩)) rfl (by kernel_rfl) (by kernel_rfl) (by kernel_rfl) (fun _ _ _ h => h) (Or.inl ⟨by kernel_rfl, fun w hSw => ?_⟩) (by assumption) ?_
              · dsimp only at hSw
                go_simp
              simp only [Act.put, List.setIfInBounds_toArray, List.set_cons_zero, List.set_cons_succ]
              refine wpAnyH_take (i := 3) (v := .slice (some ⟨gb, off, none⟩) m2 g2) rfl (by kernel_rfl) (by kernel_rfl) (by kernel_rfl) (fun _ _ _ h => h) (Or.inl ⟨by kernel_rfl, fun w hSw => ?_⟩) (by assumption) ?_
              · dsimp only at hSw
                go_simp
              simp only [Act.put, List.setIfInBounds_toArray, List.set_cons_zero, List.set_cons_succ]
              refine wpAnyH_take (i := 4) (v := .int .i64 (k : Int)) rfl (by kernel_rfl) (by kernel_rfl) (by kernel_rfl) (fun _ _ _ h => h) (Or.inl ⟨by kernel_rfl, fun w hSw => ?_⟩) (by assumption) ?_
              · dsimp only at hSw
                go_simp
              simp only [Act.put, List.setIfInBounds_toArray, List.set_cons_zero, List.set_cons_succ]
              refine wpAnyH_take (i := 5) (v := .pointer (some ⟨gb, off + k * 3, none⟩)) rfl (by kernel_rfl) (by kernel_rfl) (by kernel_rfl) (fun _ _ _ h => h) (Or.inl ⟨by kernel_rfl, fun w hSw => ?_⟩) (by assumption) ?_
              · dsimp only at hSw
                go_simp
              simp only [Act.put, List.setIfInBounds_toArray, List.set_cons_zero, List.set_cons_succ]
              refine wpAnyH_take (i := 6) (v := .agg #[.int .i64 y.node, .int .i64 y.n, .string y.id]) rfl (by kernel_rfl) (by kernel_rfl) (by kernel_rfl) (fun _ _ _ h => h) (Or.inl ⟨by kernel_rfl, fun w hSw => ?_⟩) (by assumption) ?_
              · dsimp only at hSw
                go_simp
              simp only [Act.put, List.setIfInBounds_toArray, List.set_cons_zero, List.set_cons_succ]
              refine wpAnyH_ready (rs := [1]) (by kernel_rfl) (by simp) ?_
              refine AllReadyH.cons rfl (fun K hK => ?_) AllReadyH.nil
              go_simp
              refine hK.out _ _ ?_ (fun hHeld2 => ?_)
              · exact hHeld
              clear hK K e0
              refine wpAnyH_ready (rs := [7]) (by kernel_rfl) (by simp) ?_
              refine AllReadyH.cons rfl (fun K hK => ?_) AllReadyH.nil
              go_simp
              go_wp2_with (
                go_at_call 26
                refine R.out.mono ?_
                rintro e w6 ⟨v6, L6, t6, rfl, hr6, hj6, hb⟩
                obtain ⟨q6, h6, rfl, -, -⟩ := hr6.form
                obtain ⟨l6, hl6⟩ : ∃ n, n = L6.length := ⟨_, rfl⟩
                rw [← hl6] at hr6 ⊢
                have HR6 := Lib.hid (And.intro hr6 (And.intro hl6 hj6))
                clear hr6 hl6 hj6)
              have hb6 : Below wr.heap.size wr w6 := hbd.trans (hb.mono hbd.size)
              have S6 := Lib.hid (show (JoSt w w6 B M #[.slice o1 n1 f1, .slice o2 n2 f2, .slice o3 n3 f3] #[.slice p1 m1 g1, .slice (some ⟨gb, off, none⟩) m2 g2, .slice p3 m3 g3] #[.slice none 0 0, .slice none 0 0, .slice none 0 0] (.slice q1 l1 h1) (.slice q2 l2 h2) (.slice o3 n3 f3)) ∧ RowAt 3 vRf w6 (.slice q1 l1 h1) L1 ∧ RowAt 3 vTok w6 (.slice q6 l6 h6) L6 from ⟨HL.out.1.later hb6, HL.out.2.1.later hb6, HR6.out.1⟩)
              refine hK.out _ _ ?_ (fun hHeld3 => ?_)
              · exact HK.out _ _ _ _ S6.out.1
              clear hK K hb hb6 R
              refine wpAnyH_take (i := 8) (v := .tuple #[.slice q6 l6 h6, .bool t6]) rfl (by kernel_rfl) (by kernel_rfl) (by kernel_rfl) (fun _ _ _ h => h) (Or.inl ⟨by kernel_rfl, fun w hSw => ?_⟩) (by assumption) ?_
              · dsimp only at hSw
                go_simp
              simp only [Act.put, List.setIfInBounds_toArray, List.set_cons_zero, List.set_cons_succ]
              refine wpAnyH_take (i := 9) (v := .slice q6 l6 h6) rfl (by kernel_rfl) (by kernel_rfl) (by kernel_rfl) (fun _ _ _ h => h) (Or.inl ⟨by kernel_rfl, fun w hSw => ?_⟩) (by assumption) ?_
              · dsimp only at hSw
                go_simp
              simp only [Act.put, List.setIfInBounds_toArray, List.set_cons_zero, List.set_cons_succ]
              refine wpAnyH_take (i := 10) (v := .bool t6) rfl (by kernel_rfl) (by kernel_rfl) (by kernel_rfl) (fun _ _ _ h => h) (Or.inl ⟨by kernel_rfl, fun w hSw => ?_⟩) (by assumption) ?_
              · dsimp only at hSw
                go_simp
              simp only [Act.put, List.setIfInBounds_toArray, List.set_cons_zero, List.set_cons_succ]
              refine wpAnyH_take (i := 11) (v := .slice q6 l6 h6) rfl (by kernel_rfl) (by kernel_rfl) (by kernel_rfl) (fun _ _ _ h => h) (Or.inl ⟨by kernel_rfl, fun w hSw => ?_⟩) (by assumption) ?_
              · dsimp only at hSw
                go_simp
              simp only [Act.put, List.setIfInBounds_toArray, List.set_cons_zero, List.set_cons_succ]
              refine wpAnyH_take (i := 12) (v := .bool t6) rfl (by kernel_rfl) (by kernel_rfl) (by kernel_rfl) (fun _ _ _ h => h) (Or.inl ⟨by kernel_rfl, fun w hSw => ?_⟩) (by assumption) ?_
              · dsimp only at hSw
                go_simp
              simp only [Act.put, List.setIfInBounds_toArray, List.set_cons_zero, List.set_cons_succ]
              refine wpAnyH_done (by kernel_rfl) ?_ _
              clear hHeld hHeld2 hHeld3 hbd HK
              cases t6 with
              | false =>
                have z0 : w6.cell? ⟨B + 1 + 1, 0, none⟩ = some (.slice none 0 0) := S6.out.1.bz.cell 0
                have z1 : w6.cell? ⟨B + 1 + 1, 1, none⟩ = some (.slice none 0 0) := S6.out.1.bz.cell 1
                have z2 : w6.cell? ⟨B + 1 + 1, 2, none⟩ = some (.slice none 0 0) := S6.out.1.bz.cell 2
                have zf : ∀ i, w6.frozen? ⟨B + 1 + 1, i, none⟩ = false := fun i => S6.out.1.bz.free i
                go_wp2_with fail
                refine rjoin_end _ (B + 2) #[.slice none 0 0, .slice none 0 0, .slice none 0 0] rfl _ 32 _ rfl rfl (mk_put _ _ _ S6.out.1.bz ⟨_, _, _, rfl⟩) ?_
                refine out_none 32 S6.out.1.hb (.inr (.inl ⟨HGG.out, .inl ?_, rfl, rfl⟩)) S6.out.1.bz
                exact clash_up (good_rk HGG.out.2).2.1 HL.out.2.2.2.2.1 (k := k) (hk := hkb) HY.out (HR6.out.2.2.elim (fun h => by cases h.1) (fun h => h.2))
              | true =>
                have f0 : w6.cell? ⟨M, 1, none⟩ = some (.slice q2 l2 h2) := S6.out.1.bg.cell 1
                have ff : w6.frozen? ⟨M, 1, none⟩ = false := S6.out.1.bg.free 1
                obtain ⟨W7, hW7⟩ : ∃ W7, W7 = w6.setCell ⟨M, 1, none⟩ (.slice q6 l6 h6) := ⟨_, rfl⟩
                have S7 := Lib.hid (show (JoSt w (w6.setCell ⟨M, 1, none⟩ (.slice q6 l6 h6)) B M #[.slice o1 n1 f1, .slice o2 n2 f2, .slice o3 n3 f3] #[.slice p1 m1 g1, .slice (some ⟨gb, off, none⟩) m2 g2, .slice p3 m3 g3] #[.slice none 0 0, .slice none 0 0, .slice none 0 0] (.slice q1 l1 h1) (.slice q6 l6 h6) (.slice o3 n3 f3)) ∧ RowAt 3 vRf (w6.setCell ⟨M, 1, none⟩ (.slice q6 l6 h6)) (.slice q1 l1 h1) L1 ∧ RowAt 3 vTok (w6.setCell ⟨M, 1, none⟩ (.slice q6 l6 h6)) (.slice q6 l6 h6) L6 from ⟨S6.out.1.put1 _, row_put S6.out.2.1 ns_rf S6.out.1.bg (slices3 q1 q2 o3 l1 h1 l2 h2 n3 f3) _ _, row_put S6.out.2.2 ns_tok S6.out.1.bg (slices3 q1 q2 o3 l1 h1 l2 h2 n3 f3) _ _⟩)
                rw [← hW7] at S7
                have HW7 := Lib.hid hW7
                clear hW7
                go_upto_region 10 with (fail)
                rw [← HW7.out]
                clear f0 ff
                go_wp2_with fail
                exact ⟨⟨k + 1, _, _, _, L6, by simp, by omega, Lib.hid ⟨S7.out.1, S7.out.2.1, S7.out.2.2, HR6.out.2.1, join_up (good_rk HGG.out.2).2.1 HL.out.2.2.2.2.1 (k := k) (hk := hkb) HY.out (HR6.out.2.2.elim (fun h => h.2) (fun h => by cases h.1)), by have := HL.out.2.2.2.2.2; have := join_len mTok_key (HR6.out.2.2.elim (fun h => h.2) (fun h => by cases h.1)); have := HL.out.2.2.2.1; have := HR6.out.2.1; omega⟩⟩, by simp [intOf]; omega⟩
            · have ki : ¬ ((k : Int) < m2) := by omega
              have ki2 : decide ((k : Int) < m2) = false := decide_eq_false ki
              obtain rfl : k = m2 := Nat.le_antisymm hkn hge
              clear ki
              have y0 : wr.cell? ⟨B + 1, 1, none⟩ = some (.slice p2 k g2) := HL.out.1.by_.cell 1
              go_wp2_with fail
              clear y0 ki2
              have HJ2 := Lib.hid (show JoinIs kTok mTok a.toks b.toks L2 from by
                have h1 := HL.out.2.2.2.2.1
                rwa [HN.out.2.2.2.2.1, List.take_length] at h1)
              have HL2 := Lib.hid HL.out.2.2.2.1
              have S2 := Lib.hid (show (JoSt w wr B M #[.slice o1 n1 f1, .slice o2 n2 f2, .slice o3 n3 f3] #[.slice p1 m1 g1, .slice p2 k g2, .slice p3 m3 g3] #[.slice none 0 0, .slice none 0 0, .slice none 0 0] (.slice q1 l1 h1) (.slice q2 l2 h2) (.slice o3 n3 f3)) ∧ RowAt 3 vRf wr (.slice q1 l1 h1) L1 ∧ RowAt 3 vTok wr (.slice q2 l2 h2) L2 ∧ TombsAt wr (.slice o3 n3 f3) a.tombs ∧ n3 = a.tombs.length ∧ JoinIs kTb mTb (a.tombs.map (·.t)) ((b.tombs.map (·.t)).take 0) (a.tombs.map (·.t)) ∧ n3 ≤ n3 + 0 ∧ (∀ z ∈ a.tombs, tombB z.t = true) from ⟨HL.out.1, HL.out.2.1, HL.out.2.2.1, HRA.out.2.2.later (show Below w.heap.size w wr from by rw [← HB.out]; exact HL.out.1.hb), HN.out.2.2.1, join_nil (show Rk kTb (a.tombs.map (·.t)) from (good_rk HGG.out.1).2.2), Nat.le_refl _, fun z hz => (goodB_at HGG.out.1).2.1.2.1 _ (List.mem_map_of_mem hz)⟩)
              clear HL
              obtain ⟨m2, hm2⟩ : ∃ m, m = k := ⟨_, rfl⟩
              subst hm2
              go_loopw [11] (fun i wr => ∃ (k l3 h3 : Nat) (q3 : Option Addr) (L3 : List TbR), i = .int .i64 (k : Int) ∧ k ≤ m3 ∧ Hid ((JoSt w wr B M #[.slice o1 n1 f1, .slice o2 n2 f2, .slice o3 n3 f3] #[.slice p1 m1 g1, .slice p2 m2 g2, .slice p3 m3 g3] #[.slice none 0 0, .slice none 0 0, .slice none 0 0] (.slice q1 l1 h1) (.slice q2 l2 h2) (.slice q3 l3 h3)) ∧ RowAt 3 vRf wr (.slice q1 l1 h1) L1 ∧ RowAt 3 vTok wr (.slice q2 l2 h2) L2 ∧ TombsAt wr (.slice q3 l3 h3) L3 ∧ l3 = L3.length ∧ JoinIs kTb mTb (a.tombs.map (·.t)) ((b.tombs.map (·.t)).take k) (L3.map (·.t)) ∧ l3 ≤ n3 + k ∧ (∀ z ∈ L3, tombB z.t = true))) (fun i _ => ((m3 : Int) - intOf i).toNat)
              case atStart => exact ⟨0, _, _, _, a.tombs, rfl, Nat.zero_le _, S2⟩
              case round =>
                obtain ⟨k, l3, h3, q3, L3, rfl, hkn, HL⟩ := hrel
                clear S2
                rcases Nat.lt_or_ge k m3 with hlt | hge
                · have ki : (k : Int) < m3 := by omega
                  have kw : IntKind.i64.wrap ((k : Int) + 1) = ((k + 1 : Nat) : Int) := IntWalk.i64_in _ (by omega)
                  have hkb : k < b.tombs.length := by have := HN.out.2.2.2.2.2; omega
                  obtain ⟨gb, off, hag, hgl, hc⟩ := HRB.out.2.2.1.at_ (by omega)
                  subst hag
                  obtain ⟨y, hy⟩ : ∃ y, y = b.tombs[k] := ⟨_, rfl⟩
                  have hyr : y.Reads w := by rw [hy]; exact HRB.out.2.2.2 _ (List.getElem_mem hkb)
                  have hgy : tombB y.t = true := by rw [hy]; exact (goodB_at HGG.out.2).2.1.2.1 _ (List.mem_map_of_mem (List.getElem_mem hkb))
                  obtain ⟨ty, ycv, yav⟩ := y
                  have hyr : RowAt 3 vTok w ycv ty.cov ∧ RowAt 1 vInt w yav ty.acks := hyr
                  obtain ⟨yp3, ym3, rfl, -, -⟩ := hyr.1.form
                  obtain ⟨yp4, ym4, rfl, -, -⟩ := hyr.2.form
                  dsimp only at hyr hgy hy
                  obtain ⟨yl3, fy3⟩ : ∃ q, q = ty.cov.length := ⟨_, rfl⟩
                  obtain ⟨yl4, fy4⟩ : ∃ q, q = ty.acks.length := ⟨_, rfl⟩
                  rw [← fy3, ← fy4] at hyr hy
                  have HU0 := Lib.hid (show w.cell? ⟨gb, off + k * 5, none⟩ = some (.int .i64 ty.node) from hc k hkb 0 _ (by rw [← hy]; rfl))
                  have HU1 := Lib.hid (show w.cell? ⟨gb, off + k * 5 + 1, none⟩ = some (.int .i64 ty.n) from hc k hkb 1 _ (by rw [← hy]; rfl))
                  have HU2 := Lib.hid (show w.cell? ⟨gb, off + k * 5 + 2, none⟩ = some (.string ty.id) from hc k hkb 2 _ (by rw [← hy]; rfl))
                  have HU3 := Lib.hid (show w.cell? ⟨gb, off + k * 5 + 3, none⟩ = some (.slice yp3 yl3 ym3) from hc k hkb 3 _ (by rw [← hy]; rfl))
                  have HU4 := Lib.hid (show w.cell? ⟨gb, off + k * 5 + 4, none⟩ = some (.slice yp4 yl4 ym4) from hc k hkb 4 _ (by rw [← hy]; rfl))
                  have hk2 : k < (b.tombs.map (·.t)).length := by rw [List.length_map]; exact hkb
                  have HY := Lib.hid (show ty = (b.tombs.map (·.t))[k] from by rw [List.getElem_map, ← hy])
                  have HYR := Lib.hid (And.intro hyr hgy)
                  have HGL := Lib.hid hgl
                  clear hy hgl hc hyr hgy fy3 fy4
                  have y0 : wr.cell? ⟨B + 1, 2, none⟩ = some (.slice (some ⟨gb, off, none⟩) m3 g3) := HL.out.1.by_.cell 2
                  go_upto_region 18 with (fail)
                  clear y0
                  have hbd : Below wr.heap.size wr wr.drew := ⟨rfl, rfl, rfl, Nat.le_refl _, fun _ _ => rfl⟩
                  have e0 : wr.drew.cell? ⟨M, 2, none⟩ = some (.slice q3 l3 h3) := HL.out.1.bg.cell 2
                  have HK := Lib.hid (show ∀ (c0 c1 c2 : Value) W, JoSt w W B M #[.slice o1 n1 f1, .slice o2 n2 f2, .slice o3 n3 f3] #[.slice p1 m1 g1, .slice p2 m2 g2, .slice (some ⟨gb, off, none⟩) m3 g3] #[.slice none 0 0, .slice none 0 0, .slice none 0 0] c0 c1 c2 → W.cell? ⟨B + 1, 2, none⟩ = some (.slice (some ⟨gb, off, none⟩) m3 g3) ∧ W.cell? ⟨gb, off + k * 5, none⟩ = some (.int .i64 ty.node) ∧ W.cell? ⟨gb, off + k * 5 + 1, none⟩ = some (.int .i64 ty.n) ∧ W.cell? ⟨gb, off + k * 5 + 2, none⟩ = some (.string ty.id) ∧ W.cell? ⟨gb, off + k * 5 + 3, none⟩ = some (.slice yp3 yl3 ym3) ∧ W.cell? ⟨gb, off + k * 5 + 4, none⟩ = some (.slice yp4 yl4 ym4) from fun c0 c1 c2 W hb => by
                    have hbw : Below w.heap.size w W := by rw [← HB.out]; exact hb.hb
                    exact ⟨hb.by_.cell 2, (hbw.cell (p := ⟨gb, off + k * 5, none⟩) HGL.out).trans HU0.out, (hbw.cell (p := ⟨gb, off + k * 5 + 1, none⟩) HGL.out).trans HU1.out, (hbw.cell (p := ⟨gb, off + k * 5 + 2, none⟩) HGL.out).trans HU2.out, (hbw.cell (p := ⟨gb, off + k * 5 + 3, none⟩) HGL.out).trans HU3.out, (hbw.cell (p := ⟨gb, off + k * 5 + 4, none⟩) HGL.out).trans HU4.out⟩)
                  have R := Lib.hid (rtomb_any (.slice q3 l3 h3) L3 ⟨ty, .slice yp3 yl3 ym3, .slice yp4 yl4 ym4⟩ wr.drew (HL.out.2.2.2.1.later hbd) ((show TbR.Reads w ⟨ty, .slice yp3 yl3 ym3, .slice yp4 yl4 ym4⟩ from HYR.out.1).later ((show Below w.heap.size w wr from by rw [← HB.out]; exact HL.out.1.hb).trans (hbd.mono ((show Below w.heap.size w wr from by rw [← HB.out]; exact HL.out.1.hb)).size))) HL.out.2.2.2.2.2.1.1 HL.out.2.2.2.2.2.2.2 HYR.out.2 (by have := good_few HGG.out.1; have := good_few HGG.out.2; have := HN.out; have := HL.out.2.2.2.2.2.2.1; have := HL.out.2.2.2.2.1; omega))
                  refine wp_region_held_drew (S := fun W => W.cell? ⟨B + 1, 2, none⟩ = some (.slice (some ⟨gb, off, none⟩) m3 g3) ∧ W.cell? ⟨gb, off + k * 5, none⟩ = some (.int .i64 ty.node) ∧ W.cell? ⟨gb, off + k * 5 + 1, none⟩ = some (.int .i64 ty.n) ∧ W.cell? ⟨gb, off + k * 5 + 2, none⟩ = some (.string ty.id) ∧ W.cell? ⟨gb, off + k * 5 + 3, none⟩ = some (.slice yp3 yl3 ym3) ∧ W.cell? ⟨gb, off + k * 5 + 4, none⟩ = some (.slice yp4 yl4 ym4)) (by kernel_rfl) (HK.out _ _ _ _ (HL.out.1.later hbd)) (fun hHeld => ?_)
                  refine wpAnyH_take (i := 0) (v := .pointer (some ⟨M, 2, none⟩)) rfl (by kernel_rfl) (by kernel_rfl) (by kernel_rfl) (fun _ _ _ h => h) (Or.inl ⟨by kernel_rfl, fun w hSw => ?_⟩) (by assumption) ?_
                  · dsimp only at hSw
                    go_simp
                  simp only [Act.put, List.setIfInBounds_toArray, List.set_cons_zero, List.set_cons_succ]
                  refine wpAnyH_take (i := 2) (v := .pointer (some ⟨B + 1, 2, none⟩)) rfl (by kernel_rfl) (by kernel_rfl) (by kernel_rfl) (fun _ _ _ h => h) (Or.inl ⟨by kernel_rfl, fun w hSw => ?_⟩) (by assumption) ?_
                  · dsimp only at hSw
                    go_simp
                  simp only [Act.put, List.setIfInBounds_toArray, List.set_cons_zero, List.set_cons_succ]
                  refine wpAnyH_take (i := 3) (v := .slice (some ⟨gb, off, none⟩) m3 g3) rfl (by kernel_rfl) (by kernel_rfl) (by kernel_rfl) (fun _ _ _ h => h) (Or.inl ⟨by kernel_rfl, fun w hSw => ?_⟩) (by assumption) ?_
                  · dsimp only at hSw
                    go_simp
                  simp only [Act.put, List.setIfInBounds_toArray, List.set_cons_zero, List.set_cons_succ]
                  refine wpAnyH_take (i := 4) (v := .int .i64 (k : Int)) rfl (by kernel_rfl) (by kernel_rfl) (by kernel_rfl) (fun _ _ _ h => h) (Or.inl ⟨by kernel_rfl, fun w hSw => ?_⟩) (by assumption) ?_
                  · dsimp only at hSw
                    go_simp
                  simp only [Act.put, List.setIfInBounds_toArray, List.set_cons_zero, List.set_cons_succ]
                  refine wpAnyH_take (i := 5) (v := .pointer (some ⟨gb, off + k * 5, none⟩)) rfl (by kernel_rfl) (by kernel_rfl) (by kernel_rfl) (fun _ _ _ h => h) (Or.inl ⟨by kernel_rfl, fun w hSw => ?_⟩) (by assumption) ?_
                  · dsimp only at hSw
                    go_simp
                  simp only [Act.put, List.setIfInBounds_toArray, List.set_cons_zero, List.set_cons_succ]
                  refine wpAnyH_take (i := 6) (v := .agg #[.int .i64 ty.node, .int .i64 ty.n, .string ty.id, .slice yp3 yl3 ym3, .slice yp4 yl4 ym4]) rfl (by kernel_rfl) (by kernel_rfl) (by kernel_rfl) (fun _ _ _ h => h) (Or.inl ⟨by kernel_rfl, fun w hSw => ?_⟩) (by assumption) ?_
                  · dsimp only at hSw
                    go_simp
                  simp only [Act.put, List.setIfInBounds_toArray, List.set_cons_zero, List.set_cons_succ]
                  refine wpAnyH_ready (rs := [1]) (by kernel_rfl) (by simp) ?_
                  refine AllReadyH.cons rfl (fun K hK => ?_) AllReadyH.nil
                  go_simp
                  refine hK.out _ _ ?_ (fun hHeld2 => ?_)
                  · exact hHeld
                  clear hK K e0
                  refine wpAnyH_ready (rs := [7]) (by kernel_rfl) (by simp) ?_
                  refine AllReadyH.cons rfl (fun K hK => ?_) AllReadyH.nil
                  go_simp
                  go_wp2_with (
                    go_at_call 27
                    refine R.out.mono ?_
                    rintro e w6 ⟨v6, L6, t6, rfl, hr6, hj6, hb⟩
                    obtain ⟨q6, h6, rfl, -, -⟩ := hr6.1.form
                    obtain ⟨l6, hl6⟩ : ∃ n, n = L6.length := ⟨_, rfl⟩
                    rw [← hl6] at hr6 ⊢
                    have HR6 := Lib.hid (And.intro hr6 (And.intro hl6 hj6))
                    clear hr6 hl6 hj6)
                  have hb6 : Below wr.heap.size wr w6 := hbd.trans (hb.mono hbd.size)
                  have S6 := Lib.hid (show (JoSt w w6 B M #[.slice o1 n1 f1, .slice o2 n2 f2, .slice o3 n3 f3] #[.slice p1 m1 g1, .slice p2 m2 g2, .slice (some ⟨gb, off, none⟩) m3 g3] #[.slice none 0 0, .slice none 0 0, .slice none 0 0] (.slice q1 l1 h1) (.slice q2 l2 h2) (.slice q3 l3 h3)) ∧ RowAt 3 vRf w6 (.slice q1 l1 h1) L1 ∧ RowAt 3 vTok w6 (.slice q2 l2 h2) L2 ∧ TombsAt w6 (.slice q6 l6 h6) L6 from ⟨HL.out.1.later hb6, HL.out.2.1.later hb6, HL.out.2.2.1.later hb6, HR6.out.1⟩)
                  refine hK.out _ _ ?_ (fun hHeld3 => ?_)
                  · exact HK.out _ _ _ _ S6.out.1
                  clear hK K hb hb6 R
                  refine wpAnyH_take (i := 8) (v := .tuple #[.slice q6 l6 h6, .bool t6]) rfl (by kernel_rfl) (by kernel_rfl) (by kernel_rfl) (fun _ _ _ h => h) (Or.inl ⟨by kernel_rfl, fun w hSw => ?_⟩) (by assumption) ?_
                  · dsimp only at hSw
                    go_simp
                  simp only [Act.put, List.setIfInBounds_toArray, List.set_cons_zero, List.set_cons_succ]
                  refine wpAnyH_take (i := 9) (v := .slice q6 l6 h6) rfl (by kernel_rfl) (by kernel_rfl) (by kernel_rfl) (fun _ _ _ h => h) (Or.inl ⟨by kernel_rfl, fun w hSw => ?_⟩) (by assumption) ?_
                  · dsimp only at hSw
                    go_simp
                  simp only [Act.put, List.setIfInBounds_toArray, List.set_cons_zero, List.set_cons_succ]
                  refine wpAnyH_take (i := 10) (v := .bool t6) rfl (by kernel_rfl) (by kernel_rfl) (by kernel_rfl) (fun _ _ _ h => h) (Or.inl ⟨by kernel_rfl, fun w hSw => ?_⟩) (by assumption) ?_
                  · dsimp only at hSw
                    go_simp
                  simp only [Act.put, List.setIfInBounds_toArray, List.set_cons_zero, List.set_cons_succ]
                  refine wpAnyH_take (i := 11) (v := .slice q6 l6 h6) rfl (by kernel_rfl) (by kernel_rfl) (by kernel_rfl) (fun _ _ _ h => h) (Or.inl ⟨by kernel_rfl, fun w hSw => ?_⟩) (by assumption) ?_
                  · dsimp only at hSw
                    go_simp
                  simp only [Act.put, List.setIfInBounds_toArray, List.set_cons_zero, List.set_cons_succ]
                  refine wpAnyH_take (i := 12) (v := .bool t6) rfl (by kernel_rfl) (by kernel_rfl) (by kernel_rfl) (fun _ _ _ h => h) (Or.inl ⟨by kernel_rfl, fun w hSw => ?_⟩) (by assumption) ?_
                  · dsimp only at hSw
                    go_simp
                  simp only [Act.put, List.setIfInBounds_toArray, List.set_cons_zero, List.set_cons_succ]
                  refine wpAnyH_done (by kernel_rfl) ?_ _
                  clear hHeld hHeld2 hHeld3 hbd HK
                  cases t6 with
                  | false =>
                    have z0 : w6.cell? ⟨B + 1 + 1, 0, none⟩ = some (.slice none 0 0) := S6.out.1.bz.cell 0
                    have z1 : w6.cell? ⟨B + 1 + 1, 1, none⟩ = some (.slice none 0 0) := S6.out.1.bz.cell 1
                    have z2 : w6.cell? ⟨B + 1 + 1, 2, none⟩ = some (.slice none 0 0) := S6.out.1.bz.cell 2
                    have zf : ∀ i, w6.frozen? ⟨B + 1 + 1, i, none⟩ = false := fun i => S6.out.1.bz.free i
                    go_wp2_with fail
                    refine rjoin_end _ (B + 2) #[.slice none 0 0, .slice none 0 0, .slice none 0 0] rfl _ 32 _ rfl rfl (mk_put _ _ _ S6.out.1.bz ⟨_, _, _, rfl⟩) ?_
                    refine out_none 32 S6.out.1.hb (.inr (.inl ⟨HGG.out, .inr ?_, rfl, rfl⟩)) S6.out.1.bz
                    exact clash_up (good_rk HGG.out.2).2.2 HL.out.2.2.2.2.2.1 (k := k) (hk := hk2) HY.out (HR6.out.2.2.elim (fun h => by cases h.1) (fun h => h.2))
                  | true =>
                    have f0 : w6.cell? ⟨M, 2, none⟩ = some (.slice q3 l3 h3) := S6.out.1.bg.cell 2
                    have ff : w6.frozen? ⟨M, 2, none⟩ = false := S6.out.1.bg.free 2
                    obtain ⟨W7, hW7⟩ : ∃ W7, W7 = w6.setCell ⟨M, 2, none⟩ (.slice q6 l6 h6) := ⟨_, rfl⟩
                    have S7 := Lib.hid (show (JoSt w (w6.setCell ⟨M, 2, none⟩ (.slice q6 l6 h6)) B M #[.slice o1 n1 f1, .slice o2 n2 f2, .slice o3 n3 f3] #[.slice p1 m1 g1, .slice p2 m2 g2, .slice (some ⟨gb, off, none⟩) m3 g3] #[.slice none 0 0, .slice none 0 0, .slice none 0 0] (.slice q1 l1 h1) (.slice q2 l2 h2) (.slice q6 l6 h6)) ∧ RowAt 3 vRf (w6.setCell ⟨M, 2, none⟩ (.slice q6 l6 h6)) (.slice q1 l1 h1) L1 ∧ RowAt 3 vTok (w6.setCell ⟨M, 2, none⟩ (.slice q6 l6 h6)) (.slice q2 l2 h2) L2 ∧ TombsAt (w6.setCell ⟨M, 2, none⟩ (.slice q6 l6 h6)) (.slice q6 l6 h6) L6 from ⟨S6.out.1.put2 _, row_put S6.out.2.1 ns_rf S6.out.1.bg (slices3 q1 q2 q3 l1 h1 l2 h2 l3 h3) _ _, row_put S6.out.2.2.1 ns_tok S6.out.1.bg (slices3 q1 q2 q3 l1 h1 l2 h2 l3 h3) _ _, tombs_put S6.out.2.2.2 S6.out.1.bg (slices3 q1 q2 q3 l1 h1 l2 h2 l3 h3) _ _⟩)
                    rw [← hW7] at S7
                    have HW7 := Lib.hid hW7
                    clear hW7
                    go_upto_region 17 with (fail)
                    rw [← HW7.out]
                    clear f0 ff
                    go_wp2_with fail
                    exact ⟨⟨k + 1, _, _, _, L6, by simp, by omega, Lib.hid ⟨S7.out.1, S7.out.2.1, S7.out.2.2.1, S7.out.2.2.2, HR6.out.2.1, join_up (good_rk HGG.out.2).2.2 HL.out.2.2.2.2.2.1 (k := k) (hk := hk2) HY.out (HR6.out.2.2.elim (fun h => h.2) (fun h => by cases h.1)), by have h1 := HL.out.2.2.2.2.2.2.1; have h2 := join_len mTb_key (HR6.out.2.2.elim (fun h => h.2) (fun h => by cases h.1)); have h3 := HL.out.2.2.2.2.1; have h4 := HR6.out.2.1; rw [List.length_map, List.length_map] at h2; omega, joined_good HL.out.2.2.2.2.2.2.2 HYR.out.2 (HR6.out.2.2.elim (fun h => h.2) (fun h => by cases h.1))⟩⟩, by simp [intOf]; omega⟩
                · have ki : ¬ ((k : Int) < m3) := by omega
                  have ki2 : decide ((k : Int) < m3) = false := decide_eq_false ki
                  obtain rfl : k = m3 := Nat.le_antisymm hkn hge
                  clear ki
                  have y0 : wr.cell? ⟨B + 1, 2, none⟩ = some (.slice p3 k g3) := HL.out.1.by_.cell 2
                  go_upto_region 22 with (fail)
                  clear y0 ki2
                  have HM := Lib.hid (show JM a.mk_ b.mk_ ⟨L1, L2, L3.map (·.t)⟩ from ⟨HJ1.out, HJ2.out, by
                    have h1 := HL.out.2.2.2.2.2.1
                    have h2 : k = (b.tombs.map (·.t)).length := by rw [List.length_map]; exact HN.out.2.2.2.2.2
                    rwa [h2, List.take_length] at h1⟩)
                  have HB3 := Lib.hid (show Big ⟨L1, L2, L3.map (·.t)⟩ ↔ (64 < l1 ∨ 256 < l2 ∨ 64 < l3) from by
                    unfold Big
                    rw [List.length_map, HL1.out, HL2.out, HL.out.2.2.2.2.1])
                  have HRD := Lib.hid (show MkR.Reads wr ⟨L1, L2, L3, .slice q1 l1 h1, .slice q2 l2 h2, .slice q3 l3 h3⟩ from ⟨HL.out.2.1, HL.out.2.2.1, HL.out.2.2.2.1⟩)
                  have z0 : wr.cell? ⟨B + 1 + 1, 0, none⟩ = some (.slice none 0 0) := HL.out.1.bz.cell 0
                  have z1 : wr.cell? ⟨B + 1 + 1, 1, none⟩ = some (.slice none 0 0) := HL.out.1.bz.cell 1
                  have z2 : wr.cell? ⟨B + 1 + 1, 2, none⟩ = some (.slice none 0 0) := HL.out.1.bz.cell 2
                  have zf : ∀ i, wr.frozen? ⟨B + 1 + 1, i, none⟩ = false := fun i => HL.out.1.bz.free i
                  have x0 : wr.cell? ⟨M, 0, none⟩ = some (.slice q1 l1 h1) := HL.out.1.bg.cell 0
                  have x1 : wr.cell? ⟨M, 1, none⟩ = some (.slice q2 l2 h2) := HL.out.1.bg.cell 1
                  have x2 : wr.cell? ⟨M, 2, none⟩ = some (.slice q3 l3 h3) := HL.out.1.bg.cell 2
                  by_cases hbig : 64 < l1 ∨ 256 < l2 ∨ 64 < l3
                  · have HBG := Lib.hid hbig
                    by_cases b1 : (64 : Int) < l1
                    · clear hbig
                      go_wp2_with fail
                      refine rjoin_end _ (B + 2) #[.slice none 0 0, .slice none 0 0, .slice none 0 0] rfl _ 6 _ rfl rfl (mk_put _ _ _ HL.out.1.bz ⟨_, _, _, rfl⟩) ?_
                      exact out_none 6 HL.out.1.hb (.inr (.inr (.inl ⟨HGG.out, ⟨_, HM.out, HB3.out.2 HBG.out⟩, rfl, rfl⟩))) HL.out.1.bz
                    · have d1 := decide_eq_false b1
                      by_cases b2 : (256 : Int) < l2
                      · clear hbig b1
                        go_wp2_with fail
                        refine rjoin_end _ (B + 2) #[.slice none 0 0, .slice none 0 0, .slice none 0 0] rfl _ 6 _ rfl rfl (mk_put _ _ _ HL.out.1.bz ⟨_, _, _, rfl⟩) ?_
                        exact out_none 6 HL.out.1.hb (.inr (.inr (.inl ⟨HGG.out, ⟨_, HM.out, HB3.out.2 HBG.out⟩, rfl, rfl⟩))) HL.out.1.bz
                      · have d2 := decide_eq_false b2
                        have b3 : (64 : Int) < l3 := by omega
                        clear hbig b1 b2
                        go_wp2_with fail
                        refine rjoin_end _ (B + 2) #[.slice none 0 0, .slice none 0 0, .slice none 0 0] rfl _ 6 _ rfl rfl (mk_put _ _ _ HL.out.1.bz ⟨_, _, _, rfl⟩) ?_
                        exact out_none 6 HL.out.1.hb (.inr (.inr (.inl ⟨HGG.out, ⟨_, HM.out, HB3.out.2 HBG.out⟩, rfl, rfl⟩))) HL.out.1.bz
                  · have HBG := Lib.hid hbig
                    have d1 : decide ((64 : Int) < l1) = false := decide_eq_false (by omega)
                    have d2 : decide ((256 : Int) < l2) = false := decide_eq_false (by omega)
                    have d3 : decide ((64 : Int) < l3) = false := decide_eq_false (by omega)
                    clear hbig
                    go_wp2_with fail
                    refine rjoin_end _ (B + 2) #[.slice q1 l1 h1, .slice q2 l2 h2, .slice q3 l3 h3] rfl _ 0 _ rfl rfl (mk_put _ _ _ HL.out.1.bz ⟨_, _, _, rfl⟩) ?_
                    exact ⟨⟨L1, L2, L3, .slice q1 l1 h1, .slice q2 l2 h2, .slice q3 l3 h3⟩, 0, rfl, reads3 HRD.out HL.out.1.bz _ _ _ _ _ _ _ _ _, below3 HL.out.1.hb (Nat.le_add_right B 2) _ _ _, .inr (.inr (.inr ⟨HGG.out, HM.out, fun h => HBG.out (HB3.out.1 h), rfl⟩))⟩
end Go.Proofs.YtbmknmjcoeinkaaGreat.Mg
