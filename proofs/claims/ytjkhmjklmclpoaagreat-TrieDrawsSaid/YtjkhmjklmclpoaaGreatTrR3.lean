/- The reference's sums, walked: kids and Sum, one through the other. (Layer 10.) -/
import Derived.Test.YtjkhmjklmclpoaaGreatTrR2
import Derived.Test.YtjkhmjklmclpoaaGreatTrQ
import Derived.Test.YtjkhmjklmclpoaaGreatShaRef4
namespace Go.Proofs.YtjkhmjklmclpoaaGreat.Tr
set_option linter.unusedVariables false
set_option linter.unusedSimpArgs false
open Go.RowKit Go.Lib
open Set (StrAt scells El Rise)
theorem below_below (a : List ByteArray) {p : ByteArray} {d : Nat} (hd : d < 16) (hp : p.size < 64) : belowL (belowL a p) (ext p d) = belowL a (ext p d) := by
  rw [below_ext _ hd hp, below_self, ← below_ext _ hd hp]
theorem mine_few {a : List ByteArray} {p : ByteArray} (h8 : (belowL a p).length ≤ 8) : mineS a p = leafS (belowL a p) := by
  unfold mineS
  rw [cellS_few h8]
theorem mine_many {a : List ByteArray} {p : ByteArray} (h : IsSet a) (hp : p.size < 64) (h8 : ¬ (belowL a p).length ≤ 8) : mineS a p = innerS ((List.range 16).map fun d => mineS a (ext p d)) := by
  rw [← kids_are h hp h8]
  unfold mineS
  show (if (belowL a p).length ≤ 8 then (leafS (belowL a p), []) else (innerS (kidsG (fun r => (cellS 64 (p.size + 1) r).1) p.size 16 0 (belowL a p)), kidsG (fun r => (cellS 64 (p.size + 1) r).1) p.size 16 0 (belowL a p))).1 = innerS (if (belowL a p).length ≤ 8 then (leafS (belowL a p), []) else (innerS (kidsG (fun r => (cellS 64 (p.size + 1) r).1) p.size 16 0 (belowL a p)), kidsG (fun r => (cellS 64 (p.size + 1) r).1) p.size 16 0 (belowL a p))).2
  rw [if_neg h8]
theorem mine_size (a : List ByteArray) (p : ByteArray) : (mineS a p).size = 32 := cellS_size _ _ _
def SumIs (a : List ByteArray) (p : ByteArray) : Prop := ∀ (v : Value) (W : World), StrAt W v (belowL a p) → Calls Tryz.prog 35 #[v, .string p] W fun e W' => e = .returned (.string (mineS a p)) ∧ Below W.heap.size W W'
def kidsM (a : List ByteArray) (p : ByteArray) (k : Nat) : List ByteArray := (List.range k).map fun d => mineS a (ext p d)
theorem kidsM_length (a : List ByteArray) (p : ByteArray) (k : Nat) : (kidsM a p k).length = k := by simp [kidsM]
theorem kidsM_succ (a : List ByteArray) (p : ByteArray) (k : Nat) : kidsM a p (k + 1) = kidsM a p k ++ [mineS a (ext p k)] := by simp [kidsM, List.range_succ]
theorem kidsM_size {a : List ByteArray} {p : ByteArray} {k : Nat} : ∀ x, x ∈ kidsM a p k → x.size = 32 := fun x hx => by
  obtain ⟨d, -, rfl⟩ := List.mem_map.1 hx
  exact mine_size _ _
set_option maxRecDepth 100000 in
set_option maxHeartbeats 2000000 in
theorem rkids_any (a : List ByteArray) (p : ByteArray) (v : Value) (w : World) (h : StrAt w v (belowL a p)) (hz : p.size < 64) (hn : a.length ≤ 1000000) (ih : ∀ d, d < 16 → SumIs a (ext p d)) :
    Calls Tryz.prog 36 #[v, .string p] w fun e w' => ∃ u, e = .returned u ∧ SlIs w' w.heap.size 9 1 u 16 (scells (kidsM a p 16)) ∧ Below w.heap.size w w' := by
  have HS := Lib.hid h
  have IH := Lib.hid ih
  have HZ := Lib.hid hz
  have HN := Lib.hid hn
  obtain ⟨ao, cap, rfl, h1, h2, -⟩ := h
  obtain ⟨n, hln⟩ : ∃ n, n = (belowL a p).length := ⟨_, rfl⟩
  have hnn : n ≤ 1000000 := by rw [hln]; exact Nat.le_trans (List.length_filter_le _ _) hn
  rw [← hln] at HS h1 ⊢
  have HL := Lib.hid (And.intro hln hnn)
  clear hln hnn ih hz hn
  go_enter Tryz.func36, Tryz.ntmps36
  go_wp2_with fail
  go_loopw [5, 6] (fun u c wr => ∃ d : Nat, c = .int .i64 (d : Int) ∧ d ≤ 16 ∧ Hid (SlIs wr w.heap.size 9 1 u d (scells (kidsM a p d)) ∧ Below w.heap.size w wr)) (fun _ c _ => ((16 : Int) - intOf c).toNat)
  case atStart => exact ⟨0, rfl, by omega, Lib.hid ⟨SlIs.made (n := 0) (BlkIs.new _ _ _) (Nat.le_refl _) rfl (by decide), (Below.refl _ _).alloc (Nat.le_refl _) _⟩⟩
  case round =>
    obtain ⟨d, rfl, hd, HD⟩ := hrel
    have hbs := HD.out.2.size
    rcases Nat.lt_or_ge d 16 with h5 | h5
    · have k1 : (d : Int) < 16 := by omega
      have k1' : decide ((d : Int) < 16) = true := decide_eq_true k1
      have kw : IntKind.i64.wrap ((d : Int) + 1) = ((d + 1 : Nat) : Int) := IntWalk.i64_in _ (by omega)
      obtain ⟨pd, hpd⟩ : ∃ pd, pd = ext p d := ⟨_, rfl⟩
      have hpdz : pd.size = p.size + 1 := by rw [hpd, ext_size]
      have y1 : digs.extract d (d + 1) = ⟨#[sgn d]⟩ := digs_ext ⟨d, h5⟩
      unfold digs at y1
      obtain ⟨Sd, hSd⟩ : ∃ Sd : ByteArray, Sd = ⟨#[sgn d]⟩ := ⟨_, rfl⟩
      have y3 : Sd.size = 1 := by rw [hSd]; rfl
      rw [← hSd] at y1
      have y2 : p ++ Sd = pd := by rw [hpd, hSd]; rfl
      have y4 : ¬ (9223372036854775807 < p.size + Sd.size) := by have := HZ.out; omega
      have y5 : (0 : Int) ≤ (d : Int) := by omega
      have y6 : (d : Int) ≤ (d : Int) + 1 := by omega
      have y7 : (d : Int) + 1 ≤ 16 := by omega
      have y8 : ¬ (9223372036854775807 < p.size + 1) := by have := HZ.out; omega
      have y9 : p.size ≤ 9223372036854775806 := by have := HZ.out; omega
      have HXP := Lib.hid (And.intro hpd hpdz)
      have BB := Lib.hid (rbelow_any _ (belowL a p) pd wr (HS.out.later HD.out.2) (by rw [← HL.out.1]; exact HL.out.2) (by rw [hpdz]; have := HZ.out; omega))
      rw [hpd, below_below a h5 HZ.out, ← hpd] at BB
      have SI := Lib.hid (IH.out d h5)
      unfold SumIs at SI
      rw [← hpd] at SI
      obtain ⟨S, hS⟩ : ∃ S, S = mineS a pd := ⟨_, rfl⟩
      rw [← hS] at SI
      have HSM := Lib.hid hS
      clear hpd hSd hpdz hS
      go_wp2_with fail
      refine BB.out.mono ?_
      rintro e w1 ⟨u1, rfl, hs1, hb1⟩
      have B1 := Lib.hid (HD.out.2.trans (hb1.mono hbs))
      have D1 := Lib.hid (HD.out.1.later hb1)
      have SJ := Lib.hid (SI.out _ w1 (StrAt.of_sl hs1))
      obtain ⟨o1, c1, rfl, -, -, -⟩ := hs1.form
      clear BB hs1 hb1 SI y1 y2 y3 y4 y5 y6 y7 y8 y9
      go_wp2_with fail
      refine SJ.out.mono ?_
      rintro e w2 ⟨rfl, hb2⟩
      have B2 := Lib.hid (B1.out.trans (hb2.mono B1.out.size))
      have D2 := Lib.hid (D1.out.later hb2)
      have hb1 := B2.out.size
      obtain ⟨ao2, cap2, rfl, hnc2, hcm2, hao2⟩ := D2.out.form
      clear SJ hb2
      go_wp2_with (at_builtin
                   refine wpList_append_sl rfl _ _ _ 22 rfl Set.el_string (.slice ao2 d cap2) d (scells (kidsM a p d)) rfl (D2.out.alloc _) _ 1 [.string S] rfl (SrcIs.own Tryz.underlying22 (SlIs.made (base := 0) (BlkIs.new _ _ _) (Nat.zero_le _) rfl (by decide))) (by intro u hu; rcases List.mem_singleton.1 hu with rfl; rfl) (by unfold maxLen; omega) (by omega) (by simp only [World.size_alloc]; omega) ?_
                   intro v1 w5 hs1 hg1 hat1
                   have H5 := Lib.hid (And.intro hs1 ((B2.out.alloc hb1 (.cells #[.string S] 9)).grown hg1 (by simp only [World.size_alloc]; omega) fun j hj => (D2.out.lt j hj).1))
                   clear hs1 hg1 hat1 hao2)
      refine ⟨⟨d + 1, by simp, by omega, Lib.hid ⟨?_, H5.out.2⟩⟩, ?_⟩
      · have e : scells (kidsM a p (d + 1)) = scells (kidsM a p d) ++ [.string S] := by rw [kidsM_succ, HSM.out, HXP.out.1]; simp [scells]
        rw [e]
        exact H5.out.1
      · simp [intOf]
        omega
    · have k1 : decide ((d : Int) < 16) = false := decide_eq_false (by omega)
      have k2 : ¬ ((d : Int) < 16) := by omega
      obtain rfl : d = 16 := by omega
      go_wp2_with fail
      go_ret
      exact ⟨_, rfl, HD.out.1, HD.out.2⟩
set_option maxRecDepth 100000 in
set_option maxHeartbeats 2000000 in
theorem rsum_few (a : List ByteArray) (p : ByteArray) (hset : IsSet a) (h8 : (belowL a p).length ≤ 8) : SumIs a p := by
  intro v w h
  rw [mine_few h8]
  have HS := Lib.hid h
  obtain ⟨l, hl⟩ : ∃ l, l = belowL a p := ⟨_, rfl⟩
  rw [← hl] at HS h h8 ⊢
  have hs : ∀ x, x ∈ l → x.size = 32 := by rw [hl]; exact fun x hx => hset.size (List.mem_filter.1 hx).1
  have J := Lib.hid (rjoined_any v l w h (by omega) hs)
  obtain ⟨E, hE⟩ : ∃ E : ByteArray, E = ⟨#[108]⟩ ++ ⟨(catL l).toArray⟩ := ⟨_, rfl⟩
  have hEl : E.data.toList = 108 :: catL l := by rw [hE]; simp
  have hEs : E.size = 1 + (catL l).length := by
    have := congrArg List.length hEl
    simp at this
    rw [this]
    omega
  have S := Lib.hid (fun w => Sha.refsum_any E w (by rw [hEs, catL_length hs]; omega))
  rw [hEl] at S
  have hE2 := hE.symm
  have hfit0 : (⟨(catL l).toArray⟩ : ByteArray).size ≤ 1000000000 := by
    have e : (⟨(catL l).toArray⟩ : ByteArray).size = (catL l).length := by simp [ByteArray.size]
    rw [e, catL_length hs]
    omega
  obtain ⟨C, hC⟩ : ∃ C : ByteArray, C = ⟨(catL l).toArray⟩ := ⟨_, rfl⟩
  rw [← hC] at J hE2 hfit0
  have hfit1 : ¬ (9223372036854775807 < (⟨#[108]⟩ : ByteArray).size + C.size) := by
    have : (⟨#[108]⟩ : ByteArray).size = 1 := rfl
    omega
  have hfit2 : ¬ (9223372036854775807 < 1 + C.size) := by omega
  obtain ⟨Z, hZ⟩ : ∃ Z, Z = leafS l := ⟨_, rfl⟩
  have hZ2 : (⟨(Sha.sum (108 :: catL l)).toArray⟩ : ByteArray) = Z := hZ.symm
  rw [hZ2] at S
  rw [← hZ]
  obtain ⟨ao, cap, rfl, -, -, -⟩ := h
  have k1 : (l.length : Int) ≤ 8 := by omega
  have k2 : decide ((l.length : Int) ≤ 8) = true := decide_eq_true k1
  clear hE hEl hEs hs hC hZ hZ2 hl
  go_enter Tryz.func35, Tryz.ntmps35
  go_wp2_with fail
  refine J.out.mono ?_
  rintro e w1 ⟨rfl, rfl⟩
  clear J
  go_wp2_with fail
  refine (S.out _).mono ?_
  rintro e w2 ⟨rfl, hb⟩
  have HB2 := Lib.hid hb
  clear S hb
  go_wp2_with fail
  go_ret
  exact ⟨rfl, HB2.out⟩
set_option maxRecDepth 100000 in
set_option maxHeartbeats 2000000 in
theorem rsum_many (a : List ByteArray) (p : ByteArray) (hset : IsSet a) (hp : pfxB p = true) (hn : a.length ≤ 1000000) (h8 : ¬ (belowL a p).length ≤ 8) (ih : ∀ d, d < 16 → SumIs a (ext p d)) : SumIs a p := by
  intro v w h
  have hz := many_short hset hp h8
  rw [mine_many hset hz h8]
  have K := Lib.hid (rkids_any a p v w h hz hn ih)
  obtain ⟨l, hl⟩ : ∃ l, l = kidsM a p 16 := ⟨_, rfl⟩
  rw [show (List.range 16).map (fun d => mineS a (ext p d)) = l from hl.symm]
  rw [← hl] at K
  have hs : ∀ x, x ∈ l → x.size = 32 := by rw [hl]; exact kidsM_size
  have hll : l.length = 16 := by rw [hl]; exact kidsM_length _ _ _
  have J := Lib.hid (fun v w h => rjoined_any v l w h (by omega) hs)
  obtain ⟨E, hE⟩ : ∃ E : ByteArray, E = ⟨#[107]⟩ ++ ⟨(catL l).toArray⟩ := ⟨_, rfl⟩
  have hEl : E.data.toList = 107 :: catL l := by rw [hE]; simp
  have hEs : E.size = 1 + (catL l).length := by
    have := congrArg List.length hEl
    simp at this
    rw [this]
    omega
  have S := Lib.hid (fun w => Sha.refsum_any E w (by rw [hEs, catL_length hs]; omega))
  rw [hEl] at S
  have hE2 := hE.symm
  have hfit0 : (⟨(catL l).toArray⟩ : ByteArray).size ≤ 1000000000 := by
    have e : (⟨(catL l).toArray⟩ : ByteArray).size = (catL l).length := by simp [ByteArray.size]
    rw [e, catL_length hs]
    omega
  obtain ⟨C, hC⟩ : ∃ C : ByteArray, C = ⟨(catL l).toArray⟩ := ⟨_, rfl⟩
  rw [← hC] at J hE2 hfit0
  have hfit1 : ¬ (9223372036854775807 < (⟨#[107]⟩ : ByteArray).size + C.size) := by
    have : (⟨#[107]⟩ : ByteArray).size = 1 := rfl
    omega
  have hfit2 : ¬ (9223372036854775807 < 1 + C.size) := by omega
  obtain ⟨Z, hZ⟩ : ∃ Z, Z = innerS l := ⟨_, rfl⟩
  have hZ2 : (⟨(Sha.sum (107 :: catL l)).toArray⟩ : ByteArray) = Z := hZ.symm
  rw [hZ2] at S
  rw [← hZ]
  obtain ⟨ao, cap, rfl, -, -, -⟩ := h
  obtain ⟨n, hn2⟩ : ∃ n, n = (belowL a p).length := ⟨_, rfl⟩
  rw [← hn2] at h8 K ⊢
  have k1 : ¬ (n : Int) ≤ 8 := by omega
  have k2 : decide ((n : Int) ≤ 8) = false := decide_eq_false k1
  have HLL := Lib.hid hll
  clear hE hEl hEs hs hC hZ hZ2 hl hll h8 hn2 ih hz hp hset hn
  go_enter Tryz.func35, Tryz.ntmps35
  go_wp2_with fail
  refine K.out.mono ?_
  rintro e w1 ⟨u, rfl, hs1, hb1⟩
  have B1 := Lib.hid hb1
  rw [← HLL.out] at hs1
  have J1 := Lib.hid (J.out _ w1 (StrAt.of_sl hs1))
  obtain ⟨o1, c1, rfl, -, -, -⟩ := hs1.form
  clear K J hs1 hb1
  go_wp2_with fail
  refine J1.out.mono ?_
  rintro e _ ⟨rfl, rfl⟩
  clear J1
  go_wp2_with fail
  refine (S.out _).mono ?_
  rintro e w2 ⟨rfl, hb⟩
  have HB2 := Lib.hid (B1.out.trans (hb.mono B1.out.size))
  clear S hb
  go_wp2_with fail
  go_ret
  exact ⟨rfl, HB2.out⟩
theorem pfx_ext {p : ByteArray} {d : Nat} (hp : pfxB p = true) (hz : p.size < 64) (hd : d < 16) : pfxB (ext p d) = true := by
  unfold pfxB at hp ⊢
  rw [Bool.and_eq_true] at hp
  rw [ext_size, decide_eq_true (by omega), Bool.true_and]
  refine dgOk_iff.2 fun i hi => ?_
  rw [ext_size] at hi
  have h1 := dgOk_iff.1 hp.2
  rcases Nat.lt_or_ge i p.size with h | h
  · have e : (ext p d)[i]'(by rw [ext_size]; exact hi) = p[i]'h := by
      unfold ext
      exact ByteArray.getElem_append_left h
    rw [e]
    exact h1 i h
  · obtain rfl : i = p.size := by omega
    have e : (ext p d)[p.size]'(by rw [ext_size]; exact hi) = sgn d := by
      exact (ByteArray.getElem_append_right (a := p) (b := ⟨#[sgn d]⟩) (hle := Nat.le_refl p.size) (h := by show p.size < (ext p d).size; rw [ext_size]; exact hi)).trans (by simp; rfl)
    rw [e]
    exact sgn_dg ⟨d, hd⟩
theorem rsum_any (a : List ByteArray) (hset : IsSet a) (hn : a.length ≤ 1000000) : ∀ (k : Nat) (p : ByteArray), pfxB p = true → 64 - p.size ≤ k → SumIs a p
  | k, p, hp, hk => by
    by_cases h8 : (belowL a p).length ≤ 8
    · exact rsum_few a p hset h8
    · have hz := many_short hset hp h8
      match k, hk with
      | 0, hk => omega
      | k + 1, hk => exact rsum_many a p hset hp hn h8 fun d hd => rsum_any a hset hn k (ext p d) (pfx_ext hp hz hd) (by rw [ext_size]; omega)
theorem rsum_all (a : List ByteArray) (hset : IsSet a) (hn : a.length ≤ 1000000) (p : ByteArray) (hp : pfxB p = true) : SumIs a p := rsum_any a hset hn 64 p hp (by omega)
theorem rkids_all (a : List ByteArray) (hset : IsSet a) (hn : a.length ≤ 1000000) (p : ByteArray) (hp : pfxB p = true) (hz : p.size < 64) (v : Value) (w : World) (h : StrAt w v (belowL a p)) :
    Calls Tryz.prog 36 #[v, .string p] w fun e w' => ∃ u, e = .returned u ∧ SlIs w' w.heap.size 9 1 u 16 (scells (kidsM a p 16)) ∧ Below w.heap.size w w' :=
  rkids_any a p v w h hz hn fun d hd => rsum_all a hset hn _ (pfx_ext hp hz hd)
end Go.Proofs.YtjkhmjklmclpoaaGreat.Tr
