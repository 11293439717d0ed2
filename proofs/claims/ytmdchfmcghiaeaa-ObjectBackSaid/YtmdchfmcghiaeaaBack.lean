/- The law ObjectBack answers true: an object's bytes are read as itself, bytes that are read are written as themselves, unlike objects have unlike bytes. No conditions but the form's reach. -/
import Derived.Test.YtmdchfmcghiaeaaBare
import Derived.Test.YtmdchfmcghiaeaaGreat
import Derived.Test.YtmdchfmcghiaeaaDecodeAll
import Derived.Test.YtmdchfmcghiaeaaHeight
import Derived.Test.YtmdchfmcghiaeaaCuts
namespace Go.Proofs.Ytmdchfmcghiaeaa.Obj
open Go.RowKit
/-- An object in a block of its own, its slices readable. -/
structure One (w : World) (b : Nat) (o : Plain) (es ps : Value) : Prop where
  blk : BlkIs w b 34 (objCells o es ps)
  ents : EntsV w es o
  strs : StrsC w ps o
theorem One.later {w w' : World} {b : Nat} {o : Plain} {es ps : Value} (h : One w b o es ps) (hb : Below w.heap.size w w') : One w' b o es ps := ⟨h.blk.below hb h.blk.lt, h.ents.later hb, h.strs.later hb⟩
structure Two (w w' : World) (o : Plain) (es ps : Value) (y : Plain) (fs qs : Value) : Prop where
  x : One w' w.heap.size o es ps
  y : One w' (w.heap.size + 1) y fs qs
  b : Below w.heap.size w w'
theorem Two.later {w w' w'' : World} {o y : Plain} {es ps fs qs : Value} (h : Two w w' o es ps y fs qs) (hb : Below w'.heap.size w' w'') : Two w w'' o es ps y fs qs :=
  ⟨h.x.later hb, h.y.later hb, h.b.trans (hb.mono h.b.size)⟩
theorem dec_ne {s : ByteArray} {t : Plain} (h : dec s = some t) : t.ne ≤ 1000000 := by
  have hg := dec_good h
  by_cases hk : t.k = 2
  · have := (enc_tree hg hk).2.2.1
    omega
  · unfold dec at h
    split at h
    · cases h
    split at h
    · split at h
      · cases h; exact Nat.zero_le _
      · cases h
    split at h
    · split at h
      · cases h; exact absurd rfl hk
      · cases h
    split at h
    · split at h
      · cases h; exact Nat.zero_le _
      · cases h
    cases h
theorem alike_refl (a : Plain) : alike a a := ⟨rfl, rfl, rfl, fun _ _ => ⟨rfl, rfl, rfl⟩, rfl, rfl, fun _ _ => rfl, rfl, rfl⟩
theorem dec_some_out (s : ByteArray) (t : Plain) (w : World) (hs : (s.size : Int) ≤ 262144) (hd : dec s = some t) :
    Calls Try.prog 20 #[.string s] w fun e w' => (∃ ao c1 ap c2, EntsV w' (.slice ao t.ne c1) t ∧ StrsC w' (.slice ap t.np c2) t ∧ e = .returned (.tuple #[.agg #[.int .i64 t.k, .string t.d, .slice ao t.ne c1, .string t.t, .slice ap t.np c2, .int .i64 t.h, .string t.n], .int .i64 0])) ∧ Below w.heap.size w w' := by
  refine (decode_any s w hs).mono ?_
  rintro e w' ⟨⟨es, ps, h1, h2, he⟩, hb⟩
  rw [hd] at he h1 h2
  have g1 := h1
  have g2 := h2
  obtain ⟨ao, c1, rfl, -⟩ := h1
  obtain ⟨ap, c2, rfl, -⟩ := h2
  exact ⟨⟨ao, c1, ap, c2, g1, g2, he⟩, hb⟩
theorem beq_alike (x y t : Plain) (hx : x.good = true) (hy : y.good = true) (ht : dec (enc x) = some t) : alikeB t (bare y) = ((enc x).toList == (enc y).toList) := by
  have h := enc_inj x y t hx hy ht
  by_cases he : enc x = enc y
  · rw [alikeB_true (h.1 he), he]; simp
  · rw [alikeB_false (fun ha => he (h.2 ha)), ne_list he]
set_option maxRecDepth 100000 in
set_option maxHeartbeats 2000000 in
theorem back_law (o : Plain) (es ps : Value) (y : Plain) (fs qs : Value) (s : ByteArray) (w : World) (he : EntsV w es o) (hp : StrsC w ps o) (he' : EntsV w fs y) (hp' : StrsC w qs y) (hs : s.size ≤ 140737488351232) :
    Calls Try.prog 8 #[obj o.k o.d es o.t ps o.h o.n, obj y.k y.d fs y.t qs y.h y.n, .string s] w fun e w' => e = .returned (.bool true) ∧ Below w.heap.size w w' := by
  have A := Lib.hid awake
  have G := Lib.hid (great_any o es ps)
  have G' := Lib.hid (great_any y fs qs)
  have E := Lib.hid (fun w he hp hn => encode_any o es ps w he hp hn)
  have E' := Lib.hid (fun w he hp hn => encode_any y fs qs w he hp hn)
  have O := Lib.hid (fun w he hp hn => good_any o es ps w he hp hn)
  obtain ⟨bx, px, HBx⟩ := bare_any o es ps w he hp
  obtain ⟨bY, py, HBy⟩ := bare_any y fs qs w he' hp'
  have HBx := Lib.hid HBx
  have HBy := Lib.hid HBy
  have hT0 : Two w ((w.alloc (.cells (objCells o es ps) 34)).alloc (.cells (objCells y fs qs) 34)) o es ps y fs qs := by
    have hb := ((Below.refl w.heap.size w).alloc (Nat.le_refl _) (.cells (objCells o es ps) 34)).alloc (by simp) (.cells (objCells y fs qs) 34)
    exact ⟨⟨(BlkIs.new _ _ _).alloc _, he.later hb, hp.later hb⟩, ⟨BlkIs.new2 _ _ _ _, he'.later hb, hp'.later hb⟩, hb⟩
  have T0 := Lib.hid hT0
  obtain ⟨S, hS⟩ : ∃ S, S = enc o := ⟨_, rfl⟩
  obtain ⟨T, hT⟩ : ∃ T, T = enc y := ⟨_, rfl⟩
  obtain ⟨gx, hgx⟩ : ∃ g, g = o.good := ⟨_, rfl⟩
  obtain ⟨gy, hgy⟩ : ∃ g, g = y.good := ⟨_, rfl⟩
  rw [← hS, ← hgx] at E
  rw [← hT, ← hgy] at E'
  rw [← hgx] at O
  have hX : gx = true → ∃ t, (S.size : Int) ≤ 262144 ∧ dec S = some t ∧ t.good = true ∧ alikeB t (bare o) = true ∧ (gy = true → alikeB t (bare y) = (S.toList == T.toList)) := by
    intro h
    rw [hgx] at h
    obtain ⟨t, h1, h2⟩ := dec_enc o h
    have := enc_size o h
    refine ⟨t, by rw [hS]; omega, by rw [hS]; exact h1, dec_good h1, alikeB_true h2, fun h' => ?_⟩
    rw [hgy] at h'
    rw [hS, hT]
    exact beq_alike o y t h h' h1
  have HX := Lib.hid hX
  clear hX hS hT hgx hgy hT0 he hp he' hp'
  unfold obj at G G' E E' O HBx HBy ⊢
  go_enter Try.func8, Try.ntmps8
  go_wp2_with fail
  refine (A.out _).mono ?_
  rintro e w1 ⟨rfl, hb1⟩
  have T1 := Lib.hid (T0.out.later hb1)
  clear T0 hb1 A
  have c0 : w1.cell? ⟨w.heap.size, 0, none⟩ = some (.int .i64 o.k) := T1.out.x.blk.cell 0
  have c1 : w1.cell? ⟨w.heap.size, 1, none⟩ = some (.string o.d) := T1.out.x.blk.cell 1
  have c2 : w1.cell? ⟨w.heap.size, 2, none⟩ = some es := T1.out.x.blk.cell 2
  have c3 : w1.cell? ⟨w.heap.size, 3, none⟩ = some (.string o.t) := T1.out.x.blk.cell 3
  have c4 : w1.cell? ⟨w.heap.size, 4, none⟩ = some ps := T1.out.x.blk.cell 4
  have c5 : w1.cell? ⟨w.heap.size, 5, none⟩ = some (.int .i64 o.h) := T1.out.x.blk.cell 5
  have c6 : w1.cell? ⟨w.heap.size, 6, none⟩ = some (.string o.n) := T1.out.x.blk.cell 6
  go_wp2_with fail
  refine (G.out _ T1.out.x.ents T1.out.x.strs).mono ?_
  rintro e w2 ⟨⟨g, rfl, hg⟩, hb2⟩
  have T2 := Lib.hid (T1.out.later hb2)
  clear T1 hb2 G
  clear c0 c1 c2 c3 c4 c5 c6
  cases g
  case true =>
    clear hg
    go_wp2_with fail
    go_ret
    exact ⟨rfl, T2.out.b⟩
  have hn := Lib.hid (show o.ne ≤ 1000000 by have := (hg rfl).1; omega)
  clear hg
  have d0 : w2.cell? ⟨w.heap.size + 1, 0, none⟩ = some (.int .i64 y.k) := T2.out.y.blk.cell 0
  have d1 : w2.cell? ⟨w.heap.size + 1, 1, none⟩ = some (.string y.d) := T2.out.y.blk.cell 1
  have d2 : w2.cell? ⟨w.heap.size + 1, 2, none⟩ = some fs := T2.out.y.blk.cell 2
  have d3 : w2.cell? ⟨w.heap.size + 1, 3, none⟩ = some (.string y.t) := T2.out.y.blk.cell 3
  have d4 : w2.cell? ⟨w.heap.size + 1, 4, none⟩ = some qs := T2.out.y.blk.cell 4
  have d5 : w2.cell? ⟨w.heap.size + 1, 5, none⟩ = some (.int .i64 y.h) := T2.out.y.blk.cell 5
  have d6 : w2.cell? ⟨w.heap.size + 1, 6, none⟩ = some (.string y.n) := T2.out.y.blk.cell 6
  go_wp2_with fail
  refine (G'.out _ T2.out.y.ents T2.out.y.strs).mono ?_
  rintro e w3 ⟨⟨g, rfl, hg⟩, hb3⟩
  have T3 := Lib.hid (T2.out.later hb3)
  clear T2 hb3 G'
  clear d0 d1 d2 d3 d4 d5 d6
  cases g
  case true =>
    clear hg
    go_wp2_with fail
    go_ret
    exact ⟨rfl, T3.out.b⟩
  have hn' := Lib.hid (show y.ne ≤ 1000000 by have := (hg rfl).1; omega)
  clear hg
  by_cases hs3 : 262144 < (s.size : Int)
  case pos =>
    go_wp2_with fail
    go_ret
    exact ⟨rfl, T3.out.b⟩
  have hs4 : (s.size : Int) ≤ 262144 := by omega
  have hsd : decide (262144 < (s.size : Int)) = false := decide_eq_false hs3
  clear hs3
  have c0 : w3.cell? ⟨w.heap.size, 0, none⟩ = some (.int .i64 o.k) := T3.out.x.blk.cell 0
  have c1 : w3.cell? ⟨w.heap.size, 1, none⟩ = some (.string o.d) := T3.out.x.blk.cell 1
  have c2 : w3.cell? ⟨w.heap.size, 2, none⟩ = some es := T3.out.x.blk.cell 2
  have c3 : w3.cell? ⟨w.heap.size, 3, none⟩ = some (.string o.t) := T3.out.x.blk.cell 3
  have c4 : w3.cell? ⟨w.heap.size, 4, none⟩ = some ps := T3.out.x.blk.cell 4
  have c5 : w3.cell? ⟨w.heap.size, 5, none⟩ = some (.int .i64 o.h) := T3.out.x.blk.cell 5
  have c6 : w3.cell? ⟨w.heap.size, 6, none⟩ = some (.string o.n) := T3.out.x.blk.cell 6
  go_wp2_with fail
  refine (E.out _ T3.out.x.ents T3.out.x.strs hn.out).mono ?_
  rintro e w4 ⟨rfl, hb4⟩
  have T4 := Lib.hid (T3.out.later hb4)
  clear T3 hb4 E
  clear c0 c1 c2 c3 c4 c5 c6
  have c0 : w4.cell? ⟨w.heap.size, 0, none⟩ = some (.int .i64 o.k) := T4.out.x.blk.cell 0
  have c1 : w4.cell? ⟨w.heap.size, 1, none⟩ = some (.string o.d) := T4.out.x.blk.cell 1
  have c2 : w4.cell? ⟨w.heap.size, 2, none⟩ = some es := T4.out.x.blk.cell 2
  have c3 : w4.cell? ⟨w.heap.size, 3, none⟩ = some (.string o.t) := T4.out.x.blk.cell 3
  have c4 : w4.cell? ⟨w.heap.size, 4, none⟩ = some ps := T4.out.x.blk.cell 4
  have c5 : w4.cell? ⟨w.heap.size, 5, none⟩ = some (.int .i64 o.h) := T4.out.x.blk.cell 5
  have c6 : w4.cell? ⟨w.heap.size, 6, none⟩ = some (.string o.n) := T4.out.x.blk.cell 6
  have HDs : (∃ t2, dec s = some t2) ∨ dec s = none := by
    cases dec s
    · exact Or.inr rfl
    · exact Or.inl ⟨_, rfl⟩
  have HDs := Lib.hid HDs
  cases gx
  case false =>
    clear HX
    go_wp2_with fail
    refine (O.out _ T4.out.x.ents T4.out.x.strs.strs hn.out).mono ?_
    rintro e w5 ⟨rfl, hb5⟩
    have T5 := Lib.hid (T4.out.later hb5)
    clear T4 hb5 O
    clear c0 c1 c2 c3 c4 c5 c6
    rcases HDs.out with ⟨t2, ht2⟩ | ht2
    case inl =>
      have D2 := Lib.hid (fun w => dec_some_out s t2 w hs4 ht2)
      have hg2 := dec_good ht2
      have he2 := enc_dec ht2
      have E2 := fun (es ps : Value) (w : World) (h1 : EntsV w es t2) (h2 : StrsC w ps t2) => encode_any t2 es ps w h1 h2 (dec_ne ht2)
      rw [hg2, he2] at E2
      unfold obj at E2
      have E2 := Lib.hid E2
      have hse : (s.toList == s.toList) = true := by simp
      clear ht2 hg2 he2
      go_wp2_with fail
      refine (D2.out _).mono ?_
      rintro e v1 ⟨⟨ao, c1, ap, c2, h1, h2, rfl⟩, hb⟩
      have U1 := T5.out.later hb
      clear hb
      have hz := U1.b.size
      have hl := (Below.refl v1.heap.size v1).alloc (Nat.le_refl _) (.cells #[.int .i64 t2.k, .string t2.d, .slice ao t2.ne c1, .string t2.t, .slice ap t2.np c2, .int .i64 t2.h, .string t2.n] 34)
      have U2 := Lib.hid (And.intro (h1.later hl) (And.intro (h2.later hl) (U1.later hl).b))
      clear U1 h1 h2 hl
      go_wp2_with fail
      refine (E2.out _ _ _ U2.out.1 U2.out.2.1).mono ?_
      rintro e v2 ⟨rfl, hb⟩
      have U3 := Lib.hid (U2.out.2.2.trans (hb.mono U2.out.2.2.size))
      clear hb
      go_wp2_with fail
      go_ret
      exact ⟨rfl, U3.out⟩
    case inr =>
      have D2 := Lib.hid (fun w => dec_none_out s w hs4 ht2)
      have M2 := fun (a1 c1 a2 c2) (w : World) => same_any none_ none_ (.slice a1 0 c1) (.slice a2 0 c2) (.slice none 0 0) (.slice none 0 0) w ⟨a1, c1, rfl, by decide, fun h => absurd h (Nat.lt_irrefl 0)⟩ ⟨a2, c2, rfl, by decide, fun h => absurd h (Nat.lt_irrefl 0)⟩ (entsV_nil _ _ rfl) (strsV_nil _ _ rfl)
      rw [alikeB_true (alike_refl none_)] at M2
      unfold obj none_ at M2
      unfold none_ at D2
      simp only at M2 D2
      have M2 := Lib.hid M2
      clear ht2
      go_wp2_with fail
      refine (D2.out _).mono ?_
      rintro e v1 ⟨⟨ao, c1, ap, c2, rfl⟩, hb⟩
      have U1 := T5.out.later hb
      clear hb
      have hz := U1.b.size
      have hl := (Below.refl v1.heap.size v1).alloc (Nat.le_refl _) (.cells #[.int .i64 0, .string ⟨#[]⟩, .slice ao 0 c1, .string ⟨#[]⟩, .slice ap 0 c2, .int .i64 0, .string ⟨#[]⟩] 34)
      have U2 := Lib.hid (U1.later hl).b
      clear U1 hl
      go_wp2_with fail
      refine (M2.out _ _ _ _ _).mono ?_
      rintro e v2 ⟨rfl, hb⟩
      have U3 := Lib.hid (U2.out.trans (hb.mono U2.out.size))
      clear hb
      go_wp2_with fail
      go_ret
      exact ⟨rfl, U3.out⟩
  case true =>
    obtain ⟨t, hS4, hdS, htg, hax, hay⟩ := HX.out rfl
    clear HX
    have HAY := Lib.hid hay
    have DS := Lib.hid (fun w => dec_some_out S t w hS4 hdS)
    have GT := fun (es ps : Value) (w : World) (h1 : EntsV w es t) (h2 : StrsC w ps t) => good_any t es ps w h1 h2.strs (dec_ne hdS)
    rw [htg] at GT
    have SX := fun (es ps : Value) (w : World) (h1 : EntsV w es t) (h2 : StrsC w ps t) (h3 : EntsV w bx (bare o)) (h4 : StrsV w px (bare o)) => same_any t (bare o) es ps bx px w h1 h2.strs h3 h4
    rw [hax] at SX
    unfold obj at GT SX
    have GT := Lib.hid GT
    have SX := Lib.hid SX
    clear hay hdS htg hax hS4
    go_wp2_with fail
    refine (O.out _ T4.out.x.ents T4.out.x.strs.strs hn.out).mono ?_
    rintro e w5 ⟨rfl, hb5⟩
    have T5 := Lib.hid (T4.out.later hb5)
    clear T4 hb5 O
    clear c0 c1 c2 c3 c4 c5 c6
    go_wp2_with fail
    refine (DS.out _).mono ?_
    rintro e w6 ⟨⟨ao, ac, ap, aq, h1, h2, rfl⟩, hb6⟩
    have T6 := T5.out.later hb6
    have hz6 := T6.b.size
    have hl := (Below.refl w6.heap.size w6).alloc (Nat.le_refl _) (.cells #[.int .i64 t.k, .string t.d, .slice ao t.ne ac, .string t.t, .slice ap t.np aq, .int .i64 t.h, .string t.n] 34)
    have hone : One (w6.alloc (.cells #[.int .i64 t.k, .string t.d, .slice ao t.ne ac, .string t.t, .slice ap t.np aq, .int .i64 t.h, .string t.n] 34)) w6.heap.size t (.slice ao t.ne ac) (.slice ap t.np aq) := ⟨BlkIs.new _ _ _, h1.later hl, h2.later hl⟩
    have hx6 := T6.x.blk.lt
    have hy6 := T6.y.blk.lt
    obtain ⟨w7, hw7⟩ : ∃ w7, w7 = w6.alloc (.cells #[.int .i64 t.k, .string t.d, .slice ao t.ne ac, .string t.t, .slice ap t.np aq, .int .i64 t.h, .string t.n] 34) := ⟨_, rfl⟩
    have T7 := Lib.hid (And.intro (T6.later hl) hone)
    rw [← hw7] at T7
    have HW7 := Lib.hid hw7
    clear hw7 T6 hl hone h1 h2 T5 hb6 DS
    go_upto_region 10 with (fail)
    rw [← HW7.out]
    have c0 : ∀ x : LaterOf w7, x.w.cell? ⟨w.heap.size, 0, none⟩ = some (.int .i64 o.k) := fun x => (x.blk T7.out.1.x.blk).cell 0
    have c1 : ∀ x : LaterOf w7, x.w.cell? ⟨w.heap.size, 1, none⟩ = some (.string o.d) := fun x => (x.blk T7.out.1.x.blk).cell 1
    have c2 : ∀ x : LaterOf w7, x.w.cell? ⟨w.heap.size, 2, none⟩ = some es := fun x => (x.blk T7.out.1.x.blk).cell 2
    have c3 : ∀ x : LaterOf w7, x.w.cell? ⟨w.heap.size, 3, none⟩ = some (.string o.t) := fun x => (x.blk T7.out.1.x.blk).cell 3
    have c4 : ∀ x : LaterOf w7, x.w.cell? ⟨w.heap.size, 4, none⟩ = some ps := fun x => (x.blk T7.out.1.x.blk).cell 4
    have c5 : ∀ x : LaterOf w7, x.w.cell? ⟨w.heap.size, 5, none⟩ = some (.int .i64 o.h) := fun x => (x.blk T7.out.1.x.blk).cell 5
    have c6 : ∀ x : LaterOf w7, x.w.cell? ⟨w.heap.size, 6, none⟩ = some (.string o.n) := fun x => (x.blk T7.out.1.x.blk).cell 6
    have t0 : ∀ x : LaterOf w7, x.w.cell? ⟨w6.heap.size, 0, none⟩ = some (.int .i64 t.k) := fun x => (x.blk T7.out.2.blk).cell 0
    have t1 : ∀ x : LaterOf w7, x.w.cell? ⟨w6.heap.size, 1, none⟩ = some (.string t.d) := fun x => (x.blk T7.out.2.blk).cell 1
    have t2 : ∀ x : LaterOf w7, x.w.cell? ⟨w6.heap.size, 2, none⟩ = some (.slice ao t.ne ac) := fun x => (x.blk T7.out.2.blk).cell 2
    have t3 : ∀ x : LaterOf w7, x.w.cell? ⟨w6.heap.size, 3, none⟩ = some (.string t.t) := fun x => (x.blk T7.out.2.blk).cell 3
    have t4 : ∀ x : LaterOf w7, x.w.cell? ⟨w6.heap.size, 4, none⟩ = some (.slice ap t.np aq) := fun x => (x.blk T7.out.2.blk).cell 4
    have t5 : ∀ x : LaterOf w7, x.w.cell? ⟨w6.heap.size, 5, none⟩ = some (.int .i64 t.h) := fun x => (x.blk T7.out.2.blk).cell 5
    have t6 : ∀ x : LaterOf w7, x.w.cell? ⟨w6.heap.size, 6, none⟩ = some (.string t.n) := fun x => (x.blk T7.out.2.blk).cell 6
    have LB := Lib.hid (fun x : LaterOf w7 => (HBx.out x.w (T7.out.1.x.ents.later x.h) (T7.out.1.x.strs.later x.h)).2.2)
    have LS := Lib.hid (fun x : LaterOf w7 => SX.out _ _ x.w (T7.out.2.ents.later x.h) (T7.out.2.strs.later x.h) (HBx.out x.w (T7.out.1.x.ents.later x.h) (T7.out.1.x.strs.later x.h)).1 (HBx.out x.w (T7.out.1.x.ents.later x.h) (T7.out.1.x.strs.later x.h)).2.1)
    have LG := Lib.hid (fun x : LaterOf w7 => GT.out _ _ x.w (T7.out.2.ents.later x.h) (T7.out.2.strs.later x.h))
    refine wp_region_all (fun w' => ∃ x : LaterOf w7, w' = x.w) (by kernel_rfl) (by kernel_rfl) ⟨LaterOf.start w7, rfl⟩ ?_
    repeat (go_big_quiet_step (first | exact LaterOf.call _ (LB.out _) | exact LaterOf.call _ (LS.out _) | exact LaterOf.call _ (LG.out _)))
    refine wpQuiet_nil ?_
    intro w8 hw8
    obtain ⟨x, rfl⟩ := hw8
    have T8 := Lib.hid (And.intro (T7.out.1.later x.h) (T7.out.2.later x.h))
    obtain ⟨w8, hw8⟩ : ∃ w8, w8 = x.w := ⟨_, rfl⟩
    rw [← hw8] at T8 ⊢
    clear hw8 LB LS LG T7 HW7
    clear c0 c1 c2 c3 c4 c5 c6 t0 t1 t2 t3 t4 t5 t6
    have d0 : w8.cell? ⟨w.heap.size + 1, 0, none⟩ = some (.int .i64 y.k) := T8.out.1.y.blk.cell 0
    have d1 : w8.cell? ⟨w.heap.size + 1, 1, none⟩ = some (.string y.d) := T8.out.1.y.blk.cell 1
    have d2 : w8.cell? ⟨w.heap.size + 1, 2, none⟩ = some fs := T8.out.1.y.blk.cell 2
    have d3 : w8.cell? ⟨w.heap.size + 1, 3, none⟩ = some (.string y.t) := T8.out.1.y.blk.cell 3
    have d4 : w8.cell? ⟨w.heap.size + 1, 4, none⟩ = some qs := T8.out.1.y.blk.cell 4
    have d5 : w8.cell? ⟨w.heap.size + 1, 5, none⟩ = some (.int .i64 y.h) := T8.out.1.y.blk.cell 5
    have d6 : w8.cell? ⟨w.heap.size + 1, 6, none⟩ = some (.string y.n) := T8.out.1.y.blk.cell 6
    cases gy
    case false =>
      go_wp2_with fail
      refine (E'.out _ T8.out.1.y.ents T8.out.1.y.strs hn'.out).mono ?_
      rintro e w9 ⟨rfl, hb9⟩
      have T9 := Lib.hid (And.intro (T8.out.1.later hb9) (T8.out.2.later hb9))
      clear T8 hb9 E'
      clear d0 d1 d2 d3 d4 d5 d6
      go_upto_region 13 with (fail)
      refine wp_region_all (fun w' => ∃ x : LaterOf w9, w' = x.w) (by kernel_rfl) (by kernel_rfl) ⟨LaterOf.start w9, rfl⟩ ?_
      repeat (go_big_quiet_step (fail))
      refine wpQuiet_nil ?_
      intro w10 hw10
      obtain ⟨x, rfl⟩ := hw10
      have T10 := Lib.hid (T9.out.1.later x.h)
      obtain ⟨w10, hw10⟩ : ∃ w10, w10 = x.w := ⟨_, rfl⟩
      rw [← hw10] at T10 ⊢
      clear hw10 T9
      rcases HDs.out with ⟨t2, ht2⟩ | ht2
      case inl =>
        have D2 := Lib.hid (fun w => dec_some_out s t2 w hs4 ht2)
        have hg2 := dec_good ht2
        have he2 := enc_dec ht2
        have E2 := fun (es ps : Value) (w : World) (h1 : EntsV w es t2) (h2 : StrsC w ps t2) => encode_any t2 es ps w h1 h2 (dec_ne ht2)
        rw [hg2, he2] at E2
        unfold obj at E2
        have E2 := Lib.hid E2
        have hse : (s.toList == s.toList) = true := by simp
        clear ht2 hg2 he2
        go_wp2_with fail
        refine (D2.out _).mono ?_
        rintro e v1 ⟨⟨ao, c1, ap, c2, h1, h2, rfl⟩, hb⟩
        have U1 := T10.out.later hb
        clear hb
        have hz := U1.b.size
        have hl := (Below.refl v1.heap.size v1).alloc (Nat.le_refl _) (.cells #[.int .i64 t2.k, .string t2.d, .slice ao t2.ne c1, .string t2.t, .slice ap t2.np c2, .int .i64 t2.h, .string t2.n] 34)
        have U2 := Lib.hid (And.intro (h1.later hl) (And.intro (h2.later hl) (U1.later hl).b))
        clear U1 h1 h2 hl
        go_wp2_with fail
        refine (E2.out _ _ _ U2.out.1 U2.out.2.1).mono ?_
        rintro e v2 ⟨rfl, hb⟩
        have U3 := Lib.hid (U2.out.2.2.trans (hb.mono U2.out.2.2.size))
        clear hb
        go_wp2_with fail
        go_ret
        exact ⟨rfl, U3.out⟩
      case inr =>
        have D2 := Lib.hid (fun w => dec_none_out s w hs4 ht2)
        have M2 := fun (a1 c1 a2 c2) (w : World) => same_any none_ none_ (.slice a1 0 c1) (.slice a2 0 c2) (.slice none 0 0) (.slice none 0 0) w ⟨a1, c1, rfl, by decide, fun h => absurd h (Nat.lt_irrefl 0)⟩ ⟨a2, c2, rfl, by decide, fun h => absurd h (Nat.lt_irrefl 0)⟩ (entsV_nil _ _ rfl) (strsV_nil _ _ rfl)
        rw [alikeB_true (alike_refl none_)] at M2
        unfold obj none_ at M2
        unfold none_ at D2
        simp only at M2 D2
        have M2 := Lib.hid M2
        clear ht2
        go_wp2_with fail
        refine (D2.out _).mono ?_
        rintro e v1 ⟨⟨ao, c1, ap, c2, rfl⟩, hb⟩
        have U1 := T10.out.later hb
        clear hb
        have hz := U1.b.size
        have hl := (Below.refl v1.heap.size v1).alloc (Nat.le_refl _) (.cells #[.int .i64 0, .string ⟨#[]⟩, .slice ao 0 c1, .string ⟨#[]⟩, .slice ap 0 c2, .int .i64 0, .string ⟨#[]⟩] 34)
        have U2 := Lib.hid (U1.later hl).b
        clear U1 hl
        go_wp2_with fail
        refine (M2.out _ _ _ _ _).mono ?_
        rintro e v2 ⟨rfl, hb⟩
        have U3 := Lib.hid (U2.out.trans (hb.mono U2.out.size))
        clear hb
        go_wp2_with fail
        go_ret
        exact ⟨rfl, U3.out⟩
    case true =>
      go_wp2_with fail
      refine (E'.out _ T8.out.1.y.ents T8.out.1.y.strs hn'.out).mono ?_
      rintro e w9 ⟨rfl, hb9⟩
      have T9 := Lib.hid (And.intro (T8.out.1.later hb9) (T8.out.2.later hb9))
      clear T8 hb9 E'
      clear d0 d1 d2 d3 d4 d5 d6
      go_upto_region 13 with (fail)
      have hcc : ((S.toList == T.toList) != (S.toList == T.toList)) = false := by simp
      have SY := fun (es ps : Value) (w : World) (h1 : EntsV w es t) (h2 : StrsC w ps t) (h3 : EntsV w bY (bare y)) (h4 : StrsV w py (bare y)) => same_any t (bare y) es ps bY py w h1 h2.strs h3 h4
      rw [HAY.out (by trivial)] at SY
      unfold obj at SY
      have SY := Lib.hid SY
      have c0 : ∀ x : LaterOf w9, x.w.cell? ⟨w.heap.size + 1, 0, none⟩ = some (.int .i64 y.k) := fun x => (x.blk T9.out.1.y.blk).cell 0
      have c1 : ∀ x : LaterOf w9, x.w.cell? ⟨w.heap.size + 1, 1, none⟩ = some (.string y.d) := fun x => (x.blk T9.out.1.y.blk).cell 1
      have c2 : ∀ x : LaterOf w9, x.w.cell? ⟨w.heap.size + 1, 2, none⟩ = some fs := fun x => (x.blk T9.out.1.y.blk).cell 2
      have c3 : ∀ x : LaterOf w9, x.w.cell? ⟨w.heap.size + 1, 3, none⟩ = some (.string y.t) := fun x => (x.blk T9.out.1.y.blk).cell 3
      have c4 : ∀ x : LaterOf w9, x.w.cell? ⟨w.heap.size + 1, 4, none⟩ = some qs := fun x => (x.blk T9.out.1.y.blk).cell 4
      have c5 : ∀ x : LaterOf w9, x.w.cell? ⟨w.heap.size + 1, 5, none⟩ = some (.int .i64 y.h) := fun x => (x.blk T9.out.1.y.blk).cell 5
      have c6 : ∀ x : LaterOf w9, x.w.cell? ⟨w.heap.size + 1, 6, none⟩ = some (.string y.n) := fun x => (x.blk T9.out.1.y.blk).cell 6
      have t0 : ∀ x : LaterOf w9, x.w.cell? ⟨w6.heap.size, 0, none⟩ = some (.int .i64 t.k) := fun x => (x.blk T9.out.2.blk).cell 0
      have t1 : ∀ x : LaterOf w9, x.w.cell? ⟨w6.heap.size, 1, none⟩ = some (.string t.d) := fun x => (x.blk T9.out.2.blk).cell 1
      have t2 : ∀ x : LaterOf w9, x.w.cell? ⟨w6.heap.size, 2, none⟩ = some (.slice ao t.ne ac) := fun x => (x.blk T9.out.2.blk).cell 2
      have t3 : ∀ x : LaterOf w9, x.w.cell? ⟨w6.heap.size, 3, none⟩ = some (.string t.t) := fun x => (x.blk T9.out.2.blk).cell 3
      have t4 : ∀ x : LaterOf w9, x.w.cell? ⟨w6.heap.size, 4, none⟩ = some (.slice ap t.np aq) := fun x => (x.blk T9.out.2.blk).cell 4
      have t5 : ∀ x : LaterOf w9, x.w.cell? ⟨w6.heap.size, 5, none⟩ = some (.int .i64 t.h) := fun x => (x.blk T9.out.2.blk).cell 5
      have t6 : ∀ x : LaterOf w9, x.w.cell? ⟨w6.heap.size, 6, none⟩ = some (.string t.n) := fun x => (x.blk T9.out.2.blk).cell 6
      have LB := Lib.hid (fun x : LaterOf w9 => (HBy.out x.w (T9.out.1.y.ents.later x.h) (T9.out.1.y.strs.later x.h)).2.2)
      have LS := Lib.hid (fun x : LaterOf w9 => SY.out _ _ x.w (T9.out.2.ents.later x.h) (T9.out.2.strs.later x.h) (HBy.out x.w (T9.out.1.y.ents.later x.h) (T9.out.1.y.strs.later x.h)).1 (HBy.out x.w (T9.out.1.y.ents.later x.h) (T9.out.1.y.strs.later x.h)).2.1)
      refine wp_region_all (fun w' => ∃ x : LaterOf w9, w' = x.w) (by kernel_rfl) (by kernel_rfl) ⟨LaterOf.start w9, rfl⟩ ?_
      repeat (go_big_quiet_step (first | exact LaterOf.call _ (LB.out _) | exact LaterOf.call _ (LS.out _)))
      refine wpQuiet_nil ?_
      intro w10 hw10
      obtain ⟨x, rfl⟩ := hw10
      have T10 := Lib.hid (T9.out.1.later x.h)
      obtain ⟨w10, hw10⟩ : ∃ w10, w10 = x.w := ⟨_, rfl⟩
      rw [← hw10] at T10 ⊢
      clear hw10 T9
      clear LB LS
      clear c0 c1 c2 c3 c4 c5 c6 t0 t1 t2 t3 t4 t5 t6
      rcases HDs.out with ⟨t2, ht2⟩ | ht2
      case inl =>
        have D2 := Lib.hid (fun w => dec_some_out s t2 w hs4 ht2)
        have hg2 := dec_good ht2
        have he2 := enc_dec ht2
        have E2 := fun (es ps : Value) (w : World) (h1 : EntsV w es t2) (h2 : StrsC w ps t2) => encode_any t2 es ps w h1 h2 (dec_ne ht2)
        rw [hg2, he2] at E2
        unfold obj at E2
        have E2 := Lib.hid E2
        have hse : (s.toList == s.toList) = true := by simp
        clear ht2 hg2 he2
        go_wp2_with fail
        refine (D2.out _).mono ?_
        rintro e v1 ⟨⟨ao, c1, ap, c2, h1, h2, rfl⟩, hb⟩
        have U1 := T10.out.later hb
        clear hb
        have hz := U1.b.size
        have hl := (Below.refl v1.heap.size v1).alloc (Nat.le_refl _) (.cells #[.int .i64 t2.k, .string t2.d, .slice ao t2.ne c1, .string t2.t, .slice ap t2.np c2, .int .i64 t2.h, .string t2.n] 34)
        have U2 := Lib.hid (And.intro (h1.later hl) (And.intro (h2.later hl) (U1.later hl).b))
        clear U1 h1 h2 hl
        go_wp2_with fail
        refine (E2.out _ _ _ U2.out.1 U2.out.2.1).mono ?_
        rintro e v2 ⟨rfl, hb⟩
        have U3 := Lib.hid (U2.out.2.2.trans (hb.mono U2.out.2.2.size))
        clear hb
        go_wp2_with fail
        go_ret
        exact ⟨rfl, U3.out⟩
      case inr =>
        have D2 := Lib.hid (fun w => dec_none_out s w hs4 ht2)
        have M2 := fun (a1 c1 a2 c2) (w : World) => same_any none_ none_ (.slice a1 0 c1) (.slice a2 0 c2) (.slice none 0 0) (.slice none 0 0) w ⟨a1, c1, rfl, by decide, fun h => absurd h (Nat.lt_irrefl 0)⟩ ⟨a2, c2, rfl, by decide, fun h => absurd h (Nat.lt_irrefl 0)⟩ (entsV_nil _ _ rfl) (strsV_nil _ _ rfl)
        rw [alikeB_true (alike_refl none_)] at M2
        unfold obj none_ at M2
        unfold none_ at D2
        simp only at M2 D2
        have M2 := Lib.hid M2
        clear ht2
        go_wp2_with fail
        refine (D2.out _).mono ?_
        rintro e v1 ⟨⟨ao, c1, ap, c2, rfl⟩, hb⟩
        have U1 := T10.out.later hb
        clear hb
        have hz := U1.b.size
        have hl := (Below.refl v1.heap.size v1).alloc (Nat.le_refl _) (.cells #[.int .i64 0, .string ⟨#[]⟩, .slice ao 0 c1, .string ⟨#[]⟩, .slice ap 0 c2, .int .i64 0, .string ⟨#[]⟩] 34)
        have U2 := Lib.hid (U1.later hl).b
        clear U1 hl
        go_wp2_with fail
        refine (M2.out _ _ _ _ _).mono ?_
        rintro e v2 ⟨rfl, hb⟩
        have U3 := Lib.hid (U2.out.trans (hb.mono U2.out.size))
        clear hb
        go_wp2_with fail
        go_ret
        exact ⟨rfl, U3.out⟩
end Go.Proofs.Ytmdchfmcghiaeaa.Obj
