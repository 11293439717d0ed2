/- The reference's all and Below, walked. Printed by gen_rbelow.py. (Layer 13.) -/
import Derived.Test.YtbmknmjcoeinkaaGreatMgR1
import Derived.Test.YtbmknmjcoeinkaaGreatMgE
namespace Go.Proofs.YtbmknmjcoeinkaaGreat.Mg
set_option linter.unusedVariables false
set_option linter.unusedSimpArgs false
open Go.RowKit Go.Lib
open Mk (Rf Tok Tb TbR Mks MkR aMk aTb vRf vTok vTb vInt TombsAt eqB eqB_iff bytes_eq tokens_same)
open Set (El)
open Classical
theorem any_snoc {α : Type} {l : List α} {j : Nat} (h : j < l.length) {p : α → Bool} : (l.take (j + 1)).any p = ((l.take j).any p || p l[j]) := by
  rw [take_succ h, List.any_append]
  simp
/-- The first k have each one like them. -/
structure AllAt {α : Type} (p : α → α → Bool) (l m : List α) (k : Nat) : Prop where
  is : ∀ x ∈ l.take k, (m.any fun y => p x y) = true
section
variable {α : Type} {p : α → α → Bool} {l m : List α} {k : Nat}
theorem AllAt.start (p : α → α → Bool) (l m : List α) : AllAt p l m 0 := ⟨fun x hx => by simp at hx⟩
theorem AllAt.more (h : AllAt p l m k) (hk : k < l.length) (hp : (m.any fun y => p l[k] y) = true) : AllAt p l m (k + 1) := ⟨fun x hx => by
  rw [take_succ hk, List.mem_append, List.mem_singleton] at hx
  rcases hx with hx | rfl
  · exact h.is x hx
  · exact hp⟩
theorem AllAt.all (h : AllAt p l m l.length) : (l.all fun x => m.any fun y => p x y) = true := by
  rw [List.all_eq_true]
  intro x hx
  exact h.is x (by rw [List.take_length]; exact hx)
theorem AllAt.no (hk : k < l.length) (hp : (m.any fun y => p l[k] y) = false) : (l.all fun x => m.any fun y => p x y) = false := by
  rw [Bool.eq_false_iff]
  intro h
  have h1 := List.all_eq_true.1 h _ (List.getElem_mem hk)
  rw [hp] at h1
  cases h1
end
/-- The tests as the reference asks them. -/
noncomputable def rRf (x y : Rf) : Bool := y.name.toList == x.name.toList && (eqB y x || abB y x)
noncomputable def rTok (x y : Tok) : Bool := eqB y x
noncomputable def rTb (x y : Tb) : Bool := x.node == y.node && (x.n == y.n && (x.id.toList == y.id.toList && (eqB x.cov y.cov && allIn x.acks y.acks)))
theorem rRf_is (x y : Rf) : rRf x y = pRf x y := by
  rw [Bool.eq_iff_iff, pRf_iff]
  unfold rRf lRf
  rw [Bool.and_eq_true, Bool.or_eq_true, bytes_eq, eqB_iff, abB_iff]
  constructor
  · rintro ⟨h1, rfl | h2⟩
    · refine ⟨rfl, fun h => ?_⟩
      exact ab_asym h h
    · exact ⟨h1.symm, fun h => ab_asym h h2⟩
  · rintro ⟨h1, h2⟩
    refine ⟨h1.symm, ?_⟩
    by_cases h3 : Ab y x
    · exact .inr h3
    · exact .inl (ab_not h2 h3 h1).symm
theorem rTok_is (x y : Tok) : rTok x y = eqB x y := by
  unfold rTok
  rw [Bool.eq_iff_iff, eqB_iff, eqB_iff]
  exact eq_comm
theorem rTb_is (x y : Tb) : rTb x y = pTb x y := by
  unfold rTb pTb
  rw [Bool.and_assoc]
theorem rbelow_eq {m n : Mks} : belowB m n = ((m.refs.all fun x => n.refs.any fun y => rRf x y) && ((m.toks.all fun x => n.toks.any fun y => rTok x y) && (m.tombs.all fun x => n.tombs.any fun y => rTb x y))) := by
  simp only [rRf_is, rTok_is, rTb_is]
  rfl
theorem rbelow_yes {m n : Mks} (h1 : (m.refs.all fun x => n.refs.any fun y => rRf x y) = true) (h2 : (m.toks.all fun x => n.toks.any fun y => rTok x y) = true) (h3 : (m.tombs.all fun x => n.tombs.any fun y => rTb x y) = true) : belowB m n = true := by
  rw [rbelow_eq, h1, h2, h3]
  rfl
theorem rbelow_no {m n : Mks} (h : (m.refs.all fun x => n.refs.any fun y => rRf x y) = false ∨ (m.toks.all fun x => n.toks.any fun y => rTok x y) = false ∨ (m.tombs.all fun x => n.tombs.any fun y => rTb x y) = false) : belowB m n = false := by
  rw [rbelow_eq]
  rcases h with h | h | h <;> rw [h] <;> simp
/-- Where the reference's Below stands. -/
structure BwSt (w wr : World) (xs ys : Array Value) : Prop where
  bx : BlkIs wr w.heap.size 26 xs
  by_ : BlkIs wr (w.heap.size + 1) 26 ys
  hb : Below w.heap.size w wr
theorem BwSt.later {w wr w' : World} {xs ys : Array Value} (h : BwSt w wr xs ys) (hb : Below wr.heap.size wr w') : BwSt w w' xs ys :=
  ⟨h.bx.below hb h.bx.lt, h.by_.below hb h.by_.lt, h.hb.trans (hb.mono h.hb.size)⟩
set_option maxRecDepth 100000 in
set_option maxHeartbeats 4000000 in
theorem rall_any (v v' : Value) (l m : List Int) (w : World) (h : RowAt 1 vInt w v l) (h' : RowAt 1 vInt w v' m) (hn : l.length ≤ 1000000) (hm : m.length ≤ 1000000) :
    Calls Tryz.prog 42 #[v, v'] w fun e w' => e = .returned (.bool (allIn l m)) ∧ Below w.heap.size w w' := by
  have HH := Lib.hid (And.intro h h')
  obtain ⟨lo, lc, rfl, -, -⟩ := h.form
  obtain ⟨mo, mc, rfl, -, -⟩ := h'.form
  obtain ⟨n0, hn0⟩ : ∃ n, n = l.length := ⟨_, rfl⟩
  obtain ⟨m0, hm0⟩ : ∃ n, n = m.length := ⟨_, rfl⟩
  rw [← hn0, ← hm0] at HH
  rw [← hn0] at hn
  rw [← hm0] at hm
  rw [← hn0, ← hm0]
  have HN := Lib.hid (And.intro hn0 hm0)
  clear h h' hn0 hm0
  go_enter Tryz.func42, Tryz.ntmps42
  go_wp2_with fail
  go_loopw [5] (fun i wr => ∃ (k : Nat), i = .int .i64 (k : Int) ∧ k ≤ n0 ∧ Below w.heap.size w wr ∧ Hid (AllAt (fun x y : Int => x == y) l m k)) (fun i _ => ((n0 : Int) - intOf i).toNat)
  case atStart => exact ⟨0, rfl, Nat.zero_le _, Below.refl _ _, Lib.hid (AllAt.start _ _ _)⟩
  case round =>
    obtain ⟨k, rfl, hkn, hbr, HA⟩ := hrel
    rcases Nat.lt_or_ge k n0 with hlt | hge
    · have ki : (k : Int) < n0 := by omega
      have kw : IntKind.i64.wrap ((k : Int) + 1) = ((k + 1 : Nat) : Int) := IntWalk.i64_in _ (by omega)
      have hkl : k < l.length := by have := HN.out.1; omega
      obtain ⟨g, of, hag, hgl, hc⟩ := HH.out.1.at_ (by omega)
      subst hag
      obtain ⟨x, hx⟩ : ∃ x, x = l[k] := ⟨_, rfl⟩
      have HU := Lib.hid (show w.cell? ⟨g, of + k, none⟩ = some (.int .i64 x) from by rw [hx]; have h1 := hc k hkl 0 _ rfl; rwa [Nat.mul_one, Nat.add_zero] at h1)
      have HX := Lib.hid hx
      have HGL := Lib.hid hgl
      have HBR := Lib.hid hbr
      clear hx hc hgl hbr
      go_wp2_with fail
      go_loopw [6, 7] (fun q i wr => ∃ (j : Nat) (b : Bool), q = .bool b ∧ i = .int .i64 (j : Int) ∧ j ≤ m0 ∧ Hid (Below w.heap.size w wr) ∧ Hid (b = (m.take j).any fun y => x == y)) (fun _ i _ => ((m0 : Int) - intOf i).toNat)
      case atStart => exact ⟨0, false, rfl, rfl, Nat.zero_le _, HBR, Lib.hid (by simp)⟩
      case round =>
        obtain ⟨j, b, rfl, rfl, hjm, HB, HS⟩ := hrel
        clear HBR
        rcases Nat.lt_or_ge j m0 with hjl | hjg
        · have ji : (j : Int) < m0 := by omega
          have jw : IntKind.i64.wrap ((j : Int) + 1) = ((j + 1 : Nat) : Int) := IntWalk.i64_in _ (by omega)
          have hjl2 : j < m.length := by have := HN.out.2; omega
          cases b with
          | true =>
            go_upto_region 8 with (fail)
            refine wp_region_all (fun w' => ∃ X : LaterOf wr, w' = X.w) (by kernel_rfl) (by kernel_rfl) ⟨LaterOf.start wr, rfl⟩ ?_
            repeat (go_big_quiet_step (first | with_reducible rfl))
            refine wpQuiet_nil ?_
            intro ww hw
            obtain ⟨X, rfl⟩ := hw
            have HB2 := Lib.hid (HB.out.trans (X.h.mono HB.out.size))
            obtain ⟨w3, hx⟩ := X
            dsimp only at HB2
            clear HB
            go_wp2_with fail
            exact ⟨⟨j + 1, true, rfl, by simp, by omega, HB2, Lib.hid (by rw [any_snoc hjl2, ← HS.out, Bool.true_or])⟩, by simp [intOf]; omega⟩
          | false =>
            obtain ⟨g2, of2, hag, hgl, hc⟩ := HH.out.2.at_ (by omega)
            subst hag
            obtain ⟨y, hy⟩ : ∃ y, y = m[j] := ⟨_, rfl⟩
            have HV := Lib.hid (show w.cell? ⟨g2, of2 + j, none⟩ = some (.int .i64 y) from by rw [hy]; have h1 := hc j hjl2 0 _ rfl; rwa [Nat.mul_one, Nat.add_zero] at h1)
            have HY := Lib.hid hy
            have HGM := Lib.hid hgl
            clear hy hc hgl
            obtain ⟨q, hq⟩ : ∃ q, q = (x == y) := ⟨_, rfl⟩
            have hq' := hq.symm
            have HQ := Lib.hid hq
            clear hq
            go_upto_region 8 with (fail)
            have a0 : ∀ X : LaterOf wr, X.w.cell? ⟨g, of + k, none⟩ = some (.int .i64 x) := fun X => ((HB.out.trans (X.h.mono HB.out.size)).cell (p := ⟨g, of + k, none⟩) HGL.out).trans HU.out
            have b0 : ∀ X : LaterOf wr, X.w.cell? ⟨g2, of2 + j, none⟩ = some (.int .i64 y) := fun X => ((HB.out.trans (X.h.mono HB.out.size)).cell (p := ⟨g2, of2 + j, none⟩) HGM.out).trans HV.out
            refine wp_region_all (fun w' => ∃ X : LaterOf wr, w' = X.w) (by kernel_rfl) (by kernel_rfl) ⟨LaterOf.start wr, rfl⟩ ?_
            repeat (go_big_quiet_step (first | with_reducible rfl))
            refine wpQuiet_nil ?_
            intro ww hw
            obtain ⟨X, rfl⟩ := hw
            have HB2 := Lib.hid (HB.out.trans (X.h.mono HB.out.size))
            obtain ⟨w3, hx⟩ := X
            dsimp only at HB2
            clear HB a0 b0 hq'
            go_wp2_with fail
            exact ⟨⟨j + 1, q, rfl, by simp, by omega, HB2, Lib.hid (by rw [any_snoc hjl2, ← HS.out, Bool.false_or, HQ.out, HY.out])⟩, by simp [intOf]; omega⟩
        · have ji : ¬ ((j : Int) < m0) := by omega
          have ji2 : decide ((j : Int) < m0) = false := decide_eq_false ji
          obtain rfl : j = m0 := Nat.le_antisymm hjm hjg
          clear ji
          have HS2 := Lib.hid (show b = m.any fun y => x == y from by have h1 := HS.out; rwa [HN.out.2, List.take_length] at h1)
          cases b with
          | false =>
            go_wp2_with fail
            go_ret
            exact ⟨by rw [show allIn l m = false from AllAt.no (p := fun x y : Int => x == y) hkl (by rw [← HX.out]; exact HS2.out.symm)]; rfl, HB.out⟩
          | true =>
            go_wp2_with fail
            exact ⟨⟨k + 1, by simp, by omega, HB.out, Lib.hid (HA.out.more hkl (by rw [← HX.out]; exact HS2.out.symm))⟩, by simp [intOf]; omega⟩
    · have ki : ¬ ((k : Int) < n0) := by omega
      have ki2 : decide ((k : Int) < n0) = false := decide_eq_false ki
      obtain rfl : k = n0 := Nat.le_antisymm hkn hge
      clear ki
      go_wp2_with fail
      go_ret
      exact ⟨by rw [show allIn l m = true from by have h1 := HA.out; rw [HN.out.1] at h1; exact h1.all]; rfl, hbr⟩
set_option maxRecDepth 100000 in
set_option maxHeartbeats 16000000 in
theorem rbelow_any (a b : MkR) (w : World) (ha : a.Reads w) (hb : b.Reads w) (hsa : a.Small) (hsb : b.Small) : Calls Tryz.prog 15 #[aMk a, aMk b] w fun e w' => e = .returned (.bool (belowB a.mk_ b.mk_)) ∧ Below w.heap.size w w' := by
  obtain ⟨o1, f1, e1, -, -⟩ := ha.1.form
  obtain ⟨o2, f2, e2, -, -⟩ := ha.2.1.form
  obtain ⟨o3, f3, e3, -, -⟩ := ha.2.2.1.form
  obtain ⟨p1, g1, e4, -, -⟩ := hb.1.form
  obtain ⟨p2, g2, e5, -, -⟩ := hb.2.1.form
  obtain ⟨p3, g3, e6, -, -⟩ := hb.2.2.1.form
  obtain ⟨n1, hn1⟩ : ∃ n, n = a.refs.length := ⟨_, rfl⟩
  obtain ⟨n2, hn2⟩ : ∃ n, n = a.toks.length := ⟨_, rfl⟩
  obtain ⟨n3, hn3⟩ : ∃ n, n = a.tombs.length := ⟨_, rfl⟩
  obtain ⟨m1, hm1⟩ : ∃ n, n = b.refs.length := ⟨_, rfl⟩
  obtain ⟨m2, hm2⟩ : ∃ n, n = b.toks.length := ⟨_, rfl⟩
  obtain ⟨m3, hm3⟩ : ∃ n, n = b.tombs.length := ⟨_, rfl⟩
  rw [← hn1] at e1
  rw [← hn2] at e2
  rw [← hn3] at e3
  rw [← hm1] at e4
  rw [← hm2] at e5
  rw [← hm3] at e6
  have ea : aMk a = .agg #[.slice o1 n1 f1, .slice o2 n2 f2, .slice o3 n3 f3] := by unfold aMk; rw [e1, e2, e3]
  have eb : aMk b = .agg #[.slice p1 m1 g1, .slice p2 m2 g2, .slice p3 m3 g3] := by unfold aMk; rw [e4, e5, e6]
  rw [ea, eb]
  have HN := Lib.hid (And.intro hn1 (And.intro hn2 (And.intro hn3 (And.intro hm1 (And.intro hm2 hm3)))))
  have HRA := Lib.hid (show RowAt 3 vRf w (.slice o1 n1 f1) a.refs ∧ RowAt 3 vTok w (.slice o2 n2 f2) a.toks ∧ TombsAt w (.slice o3 n3 f3) a.tombs from by rw [← e1, ← e2, ← e3]; exact ha)
  have HRB := Lib.hid (show RowAt 3 vRf w (.slice p1 m1 g1) b.refs ∧ RowAt 3 vTok w (.slice p2 m2 g2) b.toks ∧ TombsAt w (.slice p3 m3 g3) b.tombs from by rw [← e4, ← e5, ← e6]; exact hb)
  have hsm : n1 ≤ 1000000 ∧ n2 ≤ 1000000 ∧ n3 ≤ 1000000 ∧ m1 ≤ 1000000 ∧ m2 ≤ 1000000 ∧ m3 ≤ 1000000 := by
    rw [hn1, hn2, hn3, hm1, hm2, hm3]
    exact ⟨hsa.1, hsa.2.1, hsa.2.2.1, hsb.1, hsb.2.1, hsb.2.2.1⟩
  have HF := Lib.hid (And.intro hsa.2.2.2 hsb.2.2.2)
  clear ha hb hsa hsb ea eb e1 e2 e3 e4 e5 e6 hn1 hn2 hn3 hm1 hm2 hm3
  obtain ⟨W0, hW0⟩ : ∃ W0, W0 = (w.alloc (.cells #[.slice o1 n1 f1, .slice o2 n2 f2, .slice o3 n3 f3] 26)).alloc (.cells #[.slice p1 m1 g1, .slice p2 m2 g2, .slice p3 m3 g3] 26) := ⟨_, rfl⟩
  have S0 := Lib.hid (show BwSt w W0 #[.slice o1 n1 f1, .slice o2 n2 f2, .slice o3 n3 f3] #[.slice p1 m1 g1, .slice p2 m2 g2, .slice p3 m3 g3] from by
    rw [hW0]
    exact ⟨(BlkIs.new _ _ _).alloc _, BlkIs.new2 _ _ _ _, ((Below.refl _ _).alloc (Nat.le_refl _) _).alloc (by simp) _⟩)
  have HW0 := Lib.hid hW0
  clear hW0
  go_enter Tryz.func15, Tryz.ntmps15
  go_upto_region 1 with (fail)
  rw [← HW0.out]
  go_wp2_with fail
  go_loopw [5] (fun i wr => ∃ (k : Nat), i = .int .i64 (k : Int) ∧ k ≤ n1 ∧ Hid (BwSt w wr #[.slice o1 n1 f1, .slice o2 n2 f2, .slice o3 n3 f3] #[.slice p1 m1 g1, .slice p2 m2 g2, .slice p3 m3 g3]) ∧ Hid (AllAt rRf a.refs b.refs k)) (fun i _ => ((n1 : Int) - intOf i).toNat)
  case atStart => exact ⟨0, rfl, Nat.zero_le _, S0, Lib.hid (AllAt.start _ _ _)⟩
  case round =>
    obtain ⟨k, rfl, hkn, HL, HA⟩ := hrel
    clear S0
    rcases Nat.lt_or_ge k n1 with hlt | hge
    · have ki : (k : Int) < n1 := by omega
      have kw : IntKind.i64.wrap ((k : Int) + 1) = ((k + 1 : Nat) : Int) := IntWalk.i64_in _ (by omega)
      have hka : k < a.refs.length := by have := HN.out; omega
      have hkA : k < a.refs.length := by have := HN.out; omega
      obtain ⟨g, of, hag, hgl, hc⟩ := HRA.out.1.at_ (by omega)
      subst hag
      obtain ⟨x, hx⟩ : ∃ u, u = a.refs[k] := ⟨_, rfl⟩
      have HX0 := Lib.hid (show w.cell? ⟨g, of + k * 3, none⟩ = some (.string x.name) from by rw [hx]; exact hc k hka 0 _ rfl)
      have HX1 := Lib.hid (show w.cell? ⟨g, of + k * 3 + 1, none⟩ = some (.string x.id) from by rw [hx]; exact hc k hka 1 _ rfl)
      have HX2 := Lib.hid (show w.cell? ⟨g, of + k * 3 + 2, none⟩ = some (.int .i64 x.h) from by rw [hx]; exact hc k hka 2 _ rfl)
      have HX := Lib.hid hx
      have HGX := Lib.hid hgl
      clear hx hc hgl
      have x0 : wr.cell? ⟨w.heap.size, 0, none⟩ = some (.slice (some ⟨g, of, none⟩) n1 f1) := HL.out.bx.cell 0
      go_wp2_with fail
      clear x0
      go_loopw [6, 7] (fun q i wr => ∃ (j : Nat) (b_ : Bool), q = .bool b_ ∧ i = .int .i64 (j : Int) ∧ j ≤ m1 ∧ Hid (BwSt w wr #[.slice (some ⟨g, of, none⟩) n1 f1, .slice o2 n2 f2, .slice o3 n3 f3] #[.slice p1 m1 g1, .slice p2 m2 g2, .slice p3 m3 g3]) ∧ Hid (b_ = (b.refs.take j).any fun y => rRf x y)) (fun _ i _ => ((m1 : Int) - intOf i).toNat)
      case atStart => exact ⟨0, false, rfl, rfl, Nat.zero_le _, HL, Lib.hid (by simp)⟩
      case round =>
        obtain ⟨j, b_, rfl, rfl, hjm, HJ, HS⟩ := hrel
        clear HL
        rcases Nat.lt_or_ge j m1 with hjl | hjg
        · have ji : (j : Int) < m1 := by omega
          have jw : IntKind.i64.wrap ((j : Int) + 1) = ((j + 1 : Nat) : Int) := IntWalk.i64_in _ (by omega)
          have hjb : j < b.refs.length := by have := HN.out; omega
          obtain ⟨h, og, hag, hgl, hc⟩ := HRB.out.1.at_ (by omega)
          subst hag
          obtain ⟨y, hy⟩ : ∃ u, u = b.refs[j] := ⟨_, rfl⟩
          have HY0 := Lib.hid (show w.cell? ⟨h, og + j * 3, none⟩ = some (.string y.name) from by rw [hy]; exact hc j hjb 0 _ rfl)
          have HY1 := Lib.hid (show w.cell? ⟨h, og + j * 3 + 1, none⟩ = some (.string y.id) from by rw [hy]; exact hc j hjb 1 _ rfl)
          have HY2 := Lib.hid (show w.cell? ⟨h, og + j * 3 + 2, none⟩ = some (.int .i64 y.h) from by rw [hy]; exact hc j hjb 2 _ rfl)
          have HY := Lib.hid hy
          have HGY := Lib.hid hgl
          clear hy hc hgl
          have y0 : wr.cell? ⟨w.heap.size + 1, 0, none⟩ = some (.slice (some ⟨h, og, none⟩) m1 g1) := HJ.out.by_.cell 0
          cases b_ with
          | true =>
            go_upto_region 8 with (fail)
            clear y0
            refine wp_region_all (fun w' => ∃ X : LaterOf wr, w' = X.w) (by kernel_rfl) (by kernel_rfl) ⟨LaterOf.start wr, rfl⟩ ?_
            repeat (go_big_quiet_step (first | with_reducible rfl))
            refine wpQuiet_nil ?_
            intro ww hw
            obtain ⟨X, rfl⟩ := hw
            have HL2 := Lib.hid (HJ.out.later X.h)
            obtain ⟨w3, hlx⟩ := X
            dsimp only at HL2
            clear HJ
            skip
            go_wp2_with fail
            exact ⟨⟨j + 1, true, rfl, by simp, by omega, HL2, Lib.hid (by rw [any_snoc hjb, ← HS.out]; rw [Bool.true_or])⟩, by simp [intOf]; omega⟩
          | false =>
            obtain ⟨q1, hq1⟩ : ∃ q, q = (y.name.toList == x.name.toList) := ⟨_, rfl⟩
            obtain ⟨q2, hq2⟩ : ∃ q, q = eqB y x := ⟨_, rfl⟩
            obtain ⟨q3, hq3⟩ : ∃ q, q = abB y x := ⟨_, rfl⟩
            have HP := Lib.hid (show rRf x b.refs[j] = (q1 && (q2 || q3)) from by rw [← HY.out]; unfold rRf; rw [hq1, hq2, hq3])
            have hne := fun W => Mk.eql_rf y x W
            rw [← hq2] at hne
            have T := Lib.hid (show ∀ X : LaterOf wr, Calls Tryz.prog 41 #[.agg #[.string y.name, .string y.id, .int .i64 y.h], .agg #[.string x.name, .string x.id, .int .i64 x.h]] X.w fun e w' => e = .returned (.bool q3) ∧ Below X.w.heap.size X.w w' from fun X => by rw [hq3]; exact above_any y x X.w)
            have hq1' := hq1.symm
            clear hq1 hq2 hq3
            go_upto_region 8 with (fail)
            clear y0
            cases q1 with
            | false =>
              have c0 : ∀ X : LaterOf wr, X.w.cell? ⟨w.heap.size, 0, none⟩ = some (.slice (some ⟨g, of, none⟩) n1 f1) := fun X => (HJ.out.later X.h).bx.cell 0
              have d0 : ∀ X : LaterOf wr, X.w.cell? ⟨w.heap.size + 1, 0, none⟩ = some (.slice (some ⟨h, og, none⟩) m1 g1) := fun X => (HJ.out.later X.h).by_.cell 0
              have a0 : ∀ X : LaterOf wr, X.w.cell? ⟨g, of + k * 3, none⟩ = some (.string x.name) := fun X => ((HJ.out.later X.h).hb.cell (p := ⟨g, of + k * 3, none⟩) HGX.out).trans HX0.out
              have a1 : ∀ X : LaterOf wr, X.w.cell? ⟨g, of + k * 3 + 1, none⟩ = some (.string x.id) := fun X => ((HJ.out.later X.h).hb.cell (p := ⟨g, of + k * 3 + 1, none⟩) HGX.out).trans HX1.out
              have a2 : ∀ X : LaterOf wr, X.w.cell? ⟨g, of + k * 3 + 2, none⟩ = some (.int .i64 x.h) := fun X => ((HJ.out.later X.h).hb.cell (p := ⟨g, of + k * 3 + 2, none⟩) HGX.out).trans HX2.out
              have b0 : ∀ X : LaterOf wr, X.w.cell? ⟨h, og + j * 3, none⟩ = some (.string y.name) := fun X => ((HJ.out.later X.h).hb.cell (p := ⟨h, og + j * 3, none⟩) HGY.out).trans HY0.out
              have b1 : ∀ X : LaterOf wr, X.w.cell? ⟨h, og + j * 3 + 1, none⟩ = some (.string y.id) := fun X => ((HJ.out.later X.h).hb.cell (p := ⟨h, og + j * 3 + 1, none⟩) HGY.out).trans HY1.out
              have b2 : ∀ X : LaterOf wr, X.w.cell? ⟨h, og + j * 3 + 2, none⟩ = some (.int .i64 y.h) := fun X => ((HJ.out.later X.h).hb.cell (p := ⟨h, og + j * 3 + 2, none⟩) HGY.out).trans HY2.out
              refine wp_region_all (fun w' => ∃ X : LaterOf wr, w' = X.w) (by kernel_rfl) (by kernel_rfl) ⟨LaterOf.start wr, rfl⟩ ?_
              repeat (go_big_quiet_step (first | with_reducible rfl | with_reducible exact LaterOf.call _ (T.out _)))
              refine wpQuiet_nil ?_
              intro ww hw
              obtain ⟨X, rfl⟩ := hw
              have HL2 := Lib.hid (HJ.out.later X.h)
              obtain ⟨w3, hlx⟩ := X
              dsimp only at HL2
              clear HJ
              clear c0 d0 a0 a1 a2 b0 b1 b2 hq1' hne T
              go_wp2_with fail
              exact ⟨⟨j + 1, false, rfl, by simp, by omega, HL2, Lib.hid (by rw [any_snoc hjb, ← HS.out]; rw [HP.out]; rfl)⟩, by simp [intOf]; omega⟩
            | true =>
              cases q2 with
              | true =>
                have c0 : ∀ X : LaterOf wr, X.w.cell? ⟨w.heap.size, 0, none⟩ = some (.slice (some ⟨g, of, none⟩) n1 f1) := fun X => (HJ.out.later X.h).bx.cell 0
                have d0 : ∀ X : LaterOf wr, X.w.cell? ⟨w.heap.size + 1, 0, none⟩ = some (.slice (some ⟨h, og, none⟩) m1 g1) := fun X => (HJ.out.later X.h).by_.cell 0
                have a0 : ∀ X : LaterOf wr, X.w.cell? ⟨g, of + k * 3, none⟩ = some (.string x.name) := fun X => ((HJ.out.later X.h).hb.cell (p := ⟨g, of + k * 3, none⟩) HGX.out).trans HX0.out
                have a1 : ∀ X : LaterOf wr, X.w.cell? ⟨g, of + k * 3 + 1, none⟩ = some (.string x.id) := fun X => ((HJ.out.later X.h).hb.cell (p := ⟨g, of + k * 3 + 1, none⟩) HGX.out).trans HX1.out
                have a2 : ∀ X : LaterOf wr, X.w.cell? ⟨g, of + k * 3 + 2, none⟩ = some (.int .i64 x.h) := fun X => ((HJ.out.later X.h).hb.cell (p := ⟨g, of + k * 3 + 2, none⟩) HGX.out).trans HX2.out
                have b0 : ∀ X : LaterOf wr, X.w.cell? ⟨h, og + j * 3, none⟩ = some (.string y.name) := fun X => ((HJ.out.later X.h).hb.cell (p := ⟨h, og + j * 3, none⟩) HGY.out).trans HY0.out
                have b1 : ∀ X : LaterOf wr, X.w.cell? ⟨h, og + j * 3 + 1, none⟩ = some (.string y.id) := fun X => ((HJ.out.later X.h).hb.cell (p := ⟨h, og + j * 3 + 1, none⟩) HGY.out).trans HY1.out
                have b2 : ∀ X : LaterOf wr, X.w.cell? ⟨h, og + j * 3 + 2, none⟩ = some (.int .i64 y.h) := fun X => ((HJ.out.later X.h).hb.cell (p := ⟨h, og + j * 3 + 2, none⟩) HGY.out).trans HY2.out
                refine wp_region_all (fun w' => ∃ X : LaterOf wr, w' = X.w) (by kernel_rfl) (by kernel_rfl) ⟨LaterOf.start wr, rfl⟩ ?_
                repeat (go_big_quiet_step (first | with_reducible rfl | with_reducible exact LaterOf.call _ (T.out _)))
                refine wpQuiet_nil ?_
                intro ww hw
                obtain ⟨X, rfl⟩ := hw
                have HL2 := Lib.hid (HJ.out.later X.h)
                obtain ⟨w3, hlx⟩ := X
                dsimp only at HL2
                clear HJ
                clear c0 d0 a0 a1 a2 b0 b1 b2 hq1' hne T
                go_wp2_with fail
                exact ⟨⟨j + 1, true, rfl, by simp, by omega, HL2, Lib.hid (by rw [any_snoc hjb, ← HS.out]; rw [HP.out]; simp)⟩, by simp [intOf]; omega⟩
              | false =>
                have c0 : ∀ X : LaterOf wr, X.w.cell? ⟨w.heap.size, 0, none⟩ = some (.slice (some ⟨g, of, none⟩) n1 f1) := fun X => (HJ.out.later X.h).bx.cell 0
                have d0 : ∀ X : LaterOf wr, X.w.cell? ⟨w.heap.size + 1, 0, none⟩ = some (.slice (some ⟨h, og, none⟩) m1 g1) := fun X => (HJ.out.later X.h).by_.cell 0
                have a0 : ∀ X : LaterOf wr, X.w.cell? ⟨g, of + k * 3, none⟩ = some (.string x.name) := fun X => ((HJ.out.later X.h).hb.cell (p := ⟨g, of + k * 3, none⟩) HGX.out).trans HX0.out
                have a1 : ∀ X : LaterOf wr, X.w.cell? ⟨g, of + k * 3 + 1, none⟩ = some (.string x.id) := fun X => ((HJ.out.later X.h).hb.cell (p := ⟨g, of + k * 3 + 1, none⟩) HGX.out).trans HX1.out
                have a2 : ∀ X : LaterOf wr, X.w.cell? ⟨g, of + k * 3 + 2, none⟩ = some (.int .i64 x.h) := fun X => ((HJ.out.later X.h).hb.cell (p := ⟨g, of + k * 3 + 2, none⟩) HGX.out).trans HX2.out
                have b0 : ∀ X : LaterOf wr, X.w.cell? ⟨h, og + j * 3, none⟩ = some (.string y.name) := fun X => ((HJ.out.later X.h).hb.cell (p := ⟨h, og + j * 3, none⟩) HGY.out).trans HY0.out
                have b1 : ∀ X : LaterOf wr, X.w.cell? ⟨h, og + j * 3 + 1, none⟩ = some (.string y.id) := fun X => ((HJ.out.later X.h).hb.cell (p := ⟨h, og + j * 3 + 1, none⟩) HGY.out).trans HY1.out
                have b2 : ∀ X : LaterOf wr, X.w.cell? ⟨h, og + j * 3 + 2, none⟩ = some (.int .i64 y.h) := fun X => ((HJ.out.later X.h).hb.cell (p := ⟨h, og + j * 3 + 2, none⟩) HGY.out).trans HY2.out
                refine wp_region_all (fun w' => ∃ X : LaterOf wr, w' = X.w) (by kernel_rfl) (by kernel_rfl) ⟨LaterOf.start wr, rfl⟩ ?_
                repeat (go_big_quiet_step (first | with_reducible rfl | with_reducible exact LaterOf.call _ (T.out _)))
                refine wpQuiet_nil ?_
                intro ww hw
                obtain ⟨X, rfl⟩ := hw
                have HL2 := Lib.hid (HJ.out.later X.h)
                obtain ⟨w3, hlx⟩ := X
                dsimp only at HL2
                clear HJ
                clear c0 d0 a0 a1 a2 b0 b1 b2 hq1' hne T
                go_wp2_with fail
                exact ⟨⟨j + 1, q3, rfl, by simp, by omega, HL2, Lib.hid (by rw [any_snoc hjb, ← HS.out]; rw [HP.out]; simp)⟩, by simp [intOf]; omega⟩
        · have ji : ¬ ((j : Int) < m1) := by omega
          have ji2 : decide ((j : Int) < m1) = false := decide_eq_false ji
          obtain rfl : j = m1 := Nat.le_antisymm hjm hjg
          clear ji
          have HS2 := Lib.hid (show b_ = b.refs.any fun y => rRf x y from by have h1 := HS.out; rwa [show j = b.refs.length from by have := HN.out; omega, List.take_length] at h1)
          have HSX := Lib.hid (show (b.refs.any fun y => rRf a.refs[k] y) = b_ from by rw [← HX.out]; exact HS2.out.symm)
          have y0 : wr.cell? ⟨w.heap.size + 1, 0, none⟩ = some (.slice p1 j g1) := HJ.out.by_.cell 0
          cases b_ with
          | false =>
            go_wp2_with fail
            go_ret
            refine ⟨?_, HJ.out.hb⟩
            rw [rbelow_no (m := a.mk_) (n := b.mk_) (.inl (AllAt.no hkA HSX.out))]
            rfl
          | true =>
            go_wp2_with fail
            exact ⟨⟨k + 1, by simp, by omega, Lib.hid HJ.out, Lib.hid (HA.out.more hkA HSX.out)⟩, by simp [intOf]; omega⟩
    · have ki : ¬ ((k : Int) < n1) := by omega
      have ki2 : decide ((k : Int) < n1) = false := decide_eq_false ki
      obtain rfl : k = n1 := Nat.le_antisymm hkn hge
      clear ki
      have x0 : wr.cell? ⟨w.heap.size, 0, none⟩ = some (.slice o1 k f1) := HL.out.bx.cell 0
      have HA1 := Lib.hid (show (a.refs.all fun x => b.refs.any fun y => rRf x y) = true from by have h1 := HA.out; rw [show k = a.refs.length from by have := HN.out; omega] at h1; exact h1.all)
      go_wp2_with fail
      have S1 := HL
      clear x0 ki2 HL HA
      obtain ⟨n1, hm1⟩ : ∃ m, m = k := ⟨_, rfl⟩
      subst hm1
      go_loopw [8] (fun i wr => ∃ (k : Nat), i = .int .i64 (k : Int) ∧ k ≤ n2 ∧ Hid (BwSt w wr #[.slice o1 n1 f1, .slice o2 n2 f2, .slice o3 n3 f3] #[.slice p1 m1 g1, .slice p2 m2 g2, .slice p3 m3 g3]) ∧ Hid (AllAt rTok a.toks b.toks k)) (fun i _ => ((n2 : Int) - intOf i).toNat)
      case atStart => exact ⟨0, rfl, Nat.zero_le _, S1, Lib.hid (AllAt.start _ _ _)⟩
      case round =>
        obtain ⟨k, rfl, hkn, HL, HA⟩ := hrel
        clear S1
        rcases Nat.lt_or_ge k n2 with hlt | hge
        · have ki : (k : Int) < n2 := by omega
          have kw : IntKind.i64.wrap ((k : Int) + 1) = ((k + 1 : Nat) : Int) := IntWalk.i64_in _ (by omega)
          have hka : k < a.toks.length := by have := HN.out; omega
          have hkA : k < a.toks.length := by have := HN.out; omega
          obtain ⟨g, of, hag, hgl, hc⟩ := HRA.out.2.1.at_ (by omega)
          subst hag
          obtain ⟨x, hx⟩ : ∃ u, u = a.toks[k] := ⟨_, rfl⟩
          have HX0 := Lib.hid (show w.cell? ⟨g, of + k * 3, none⟩ = some (.int .i64 x.node) from by rw [hx]; exact hc k hka 0 _ rfl)
          have HX1 := Lib.hid (show w.cell? ⟨g, of + k * 3 + 1, none⟩ = some (.int .i64 x.n) from by rw [hx]; exact hc k hka 1 _ rfl)
          have HX2 := Lib.hid (show w.cell? ⟨g, of + k * 3 + 2, none⟩ = some (.string x.id) from by rw [hx]; exact hc k hka 2 _ rfl)
          have HX := Lib.hid hx
          have HGX := Lib.hid hgl
          clear hx hc hgl
          have x0 : wr.cell? ⟨w.heap.size, 1, none⟩ = some (.slice (some ⟨g, of, none⟩) n2 f2) := HL.out.bx.cell 1
          go_wp2_with fail
          clear x0
          go_loopw [9, 10] (fun q i wr => ∃ (j : Nat) (b_ : Bool), q = .bool b_ ∧ i = .int .i64 (j : Int) ∧ j ≤ m2 ∧ Hid (BwSt w wr #[.slice o1 n1 f1, .slice (some ⟨g, of, none⟩) n2 f2, .slice o3 n3 f3] #[.slice p1 m1 g1, .slice p2 m2 g2, .slice p3 m3 g3]) ∧ Hid (b_ = (b.toks.take j).any fun y => rTok x y)) (fun _ i _ => ((m2 : Int) - intOf i).toNat)
          case atStart => exact ⟨0, false, rfl, rfl, Nat.zero_le _, HL, Lib.hid (by simp)⟩
          case round =>
            obtain ⟨j, b_, rfl, rfl, hjm, HJ, HS⟩ := hrel
            clear HL
            rcases Nat.lt_or_ge j m2 with hjl | hjg
            · have ji : (j : Int) < m2 := by omega
              have jw : IntKind.i64.wrap ((j : Int) + 1) = ((j + 1 : Nat) : Int) := IntWalk.i64_in _ (by omega)
              have hjb : j < b.toks.length := by have := HN.out; omega
              obtain ⟨h, og, hag, hgl, hc⟩ := HRB.out.2.1.at_ (by omega)
              subst hag
              obtain ⟨y, hy⟩ : ∃ u, u = b.toks[j] := ⟨_, rfl⟩
              have HY0 := Lib.hid (show w.cell? ⟨h, og + j * 3, none⟩ = some (.int .i64 y.node) from by rw [hy]; exact hc j hjb 0 _ rfl)
              have HY1 := Lib.hid (show w.cell? ⟨h, og + j * 3 + 1, none⟩ = some (.int .i64 y.n) from by rw [hy]; exact hc j hjb 1 _ rfl)
              have HY2 := Lib.hid (show w.cell? ⟨h, og + j * 3 + 2, none⟩ = some (.string y.id) from by rw [hy]; exact hc j hjb 2 _ rfl)
              have HY := Lib.hid hy
              have HGY := Lib.hid hgl
              clear hy hc hgl
              have y0 : wr.cell? ⟨w.heap.size + 1, 1, none⟩ = some (.slice (some ⟨h, og, none⟩) m2 g2) := HJ.out.by_.cell 1
              cases b_ with
              | true =>
                go_upto_region 18 with (fail)
                clear y0
                refine wp_region_all (fun w' => ∃ X : LaterOf wr, w' = X.w) (by kernel_rfl) (by kernel_rfl) ⟨LaterOf.start wr, rfl⟩ ?_
                repeat (go_big_quiet_step (first | with_reducible rfl))
                refine wpQuiet_nil ?_
                intro ww hw
                obtain ⟨X, rfl⟩ := hw
                have HL2 := Lib.hid (HJ.out.later X.h)
                obtain ⟨w3, hlx⟩ := X
                dsimp only at HL2
                clear HJ
                skip
                go_wp2_with fail
                exact ⟨⟨j + 1, true, rfl, by simp, by omega, HL2, Lib.hid (by rw [any_snoc hjb, ← HS.out]; rw [Bool.true_or])⟩, by simp [intOf]; omega⟩
              | false =>
                obtain ⟨q2, hq2⟩ : ∃ q, q = eqB y x := ⟨_, rfl⟩
                have HP := Lib.hid (show rTok x b.toks[j] = q2 from by rw [← HY.out]; unfold rTok; rw [hq2])
                have hne := fun W => Mk.eql_tok y x W
                rw [← hq2] at hne
                clear hq2
                go_upto_region 18 with (fail)
                clear y0
                have c0 : ∀ X : LaterOf wr, X.w.cell? ⟨w.heap.size, 1, none⟩ = some (.slice (some ⟨g, of, none⟩) n2 f2) := fun X => (HJ.out.later X.h).bx.cell 1
                have d0 : ∀ X : LaterOf wr, X.w.cell? ⟨w.heap.size + 1, 1, none⟩ = some (.slice (some ⟨h, og, none⟩) m2 g2) := fun X => (HJ.out.later X.h).by_.cell 1
                have a0 : ∀ X : LaterOf wr, X.w.cell? ⟨g, of + k * 3, none⟩ = some (.int .i64 x.node) := fun X => ((HJ.out.later X.h).hb.cell (p := ⟨g, of + k * 3, none⟩) HGX.out).trans HX0.out
                have a1 : ∀ X : LaterOf wr, X.w.cell? ⟨g, of + k * 3 + 1, none⟩ = some (.int .i64 x.n) := fun X => ((HJ.out.later X.h).hb.cell (p := ⟨g, of + k * 3 + 1, none⟩) HGX.out).trans HX1.out
                have a2 : ∀ X : LaterOf wr, X.w.cell? ⟨g, of + k * 3 + 2, none⟩ = some (.string x.id) := fun X => ((HJ.out.later X.h).hb.cell (p := ⟨g, of + k * 3 + 2, none⟩) HGX.out).trans HX2.out
                have b0 : ∀ X : LaterOf wr, X.w.cell? ⟨h, og + j * 3, none⟩ = some (.int .i64 y.node) := fun X => ((HJ.out.later X.h).hb.cell (p := ⟨h, og + j * 3, none⟩) HGY.out).trans HY0.out
                have b1 : ∀ X : LaterOf wr, X.w.cell? ⟨h, og + j * 3 + 1, none⟩ = some (.int .i64 y.n) := fun X => ((HJ.out.later X.h).hb.cell (p := ⟨h, og + j * 3 + 1, none⟩) HGY.out).trans HY1.out
                have b2 : ∀ X : LaterOf wr, X.w.cell? ⟨h, og + j * 3 + 2, none⟩ = some (.string y.id) := fun X => ((HJ.out.later X.h).hb.cell (p := ⟨h, og + j * 3 + 2, none⟩) HGY.out).trans HY2.out
                refine wp_region_all (fun w' => ∃ X : LaterOf wr, w' = X.w) (by kernel_rfl) (by kernel_rfl) ⟨LaterOf.start wr, rfl⟩ ?_
                repeat (go_big_quiet_step (first | with_reducible rfl))
                refine wpQuiet_nil ?_
                intro ww hw
                obtain ⟨X, rfl⟩ := hw
                have HL2 := Lib.hid (HJ.out.later X.h)
                obtain ⟨w3, hlx⟩ := X
                dsimp only at HL2
                clear HJ
                clear c0 d0 a0 a1 a2 b0 b1 b2 hne
                go_wp2_with fail
                exact ⟨⟨j + 1, q2, rfl, by simp, by omega, HL2, Lib.hid (by rw [any_snoc hjb, ← HS.out]; rw [HP.out, Bool.false_or])⟩, by simp [intOf]; omega⟩
            · have ji : ¬ ((j : Int) < m2) := by omega
              have ji2 : decide ((j : Int) < m2) = false := decide_eq_false ji
              obtain rfl : j = m2 := Nat.le_antisymm hjm hjg
              clear ji
              have HS2 := Lib.hid (show b_ = b.toks.any fun y => rTok x y from by have h1 := HS.out; rwa [show j = b.toks.length from by have := HN.out; omega, List.take_length] at h1)
              have HSX := Lib.hid (show (b.toks.any fun y => rTok a.toks[k] y) = b_ from by rw [← HX.out]; exact HS2.out.symm)
              have y0 : wr.cell? ⟨w.heap.size + 1, 1, none⟩ = some (.slice p2 j g2) := HJ.out.by_.cell 1
              cases b_ with
              | false =>
                go_wp2_with fail
                go_ret
                refine ⟨?_, HJ.out.hb⟩
                rw [rbelow_no (m := a.mk_) (n := b.mk_) (.inr (.inl (AllAt.no hkA HSX.out)))]
                rfl
              | true =>
                go_wp2_with fail
                exact ⟨⟨k + 1, by simp, by omega, Lib.hid HJ.out, Lib.hid (HA.out.more hkA HSX.out)⟩, by simp [intOf]; omega⟩
        · have ki : ¬ ((k : Int) < n2) := by omega
          have ki2 : decide ((k : Int) < n2) = false := decide_eq_false ki
          obtain rfl : k = n2 := Nat.le_antisymm hkn hge
          clear ki
          have x0 : wr.cell? ⟨w.heap.size, 1, none⟩ = some (.slice o2 k f2) := HL.out.bx.cell 1
          have HA2 := Lib.hid (show (a.toks.all fun x => b.toks.any fun y => rTok x y) = true from by have h1 := HA.out; rw [show k = a.toks.length from by have := HN.out; omega] at h1; exact h1.all)
          go_wp2_with fail
          have S2 := HL
          clear x0 ki2 HL HA
          obtain ⟨n2, hm2⟩ : ∃ m, m = k := ⟨_, rfl⟩
          subst hm2
          go_loopw [11] (fun i wr => ∃ (k : Nat), i = .int .i64 (k : Int) ∧ k ≤ n3 ∧ Hid (BwSt w wr #[.slice o1 n1 f1, .slice o2 n2 f2, .slice o3 n3 f3] #[.slice p1 m1 g1, .slice p2 m2 g2, .slice p3 m3 g3]) ∧ Hid (AllAt rTb (a.tombs.map (·.t)) (b.tombs.map (·.t)) k)) (fun i _ => ((n3 : Int) - intOf i).toNat)
          case atStart => exact ⟨0, rfl, Nat.zero_le _, S2, Lib.hid (AllAt.start _ _ _)⟩
          case round =>
            obtain ⟨k, rfl, hkn, HL, HA⟩ := hrel
            clear S2
            rcases Nat.lt_or_ge k n3 with hlt | hge
            · have ki : (k : Int) < n3 := by omega
              have kw : IntKind.i64.wrap ((k : Int) + 1) = ((k + 1 : Nat) : Int) := IntWalk.i64_in _ (by omega)
              have hka : k < a.tombs.length := by have := HN.out; omega
              have hkA : k < (a.tombs.map (·.t)).length := by have := HN.out; rw [List.length_map]; exact hka
              obtain ⟨g, of, hag, hgl, hc⟩ := HRA.out.2.2.1.at_ (by omega)
              subst hag
              obtain ⟨x, hx⟩ : ∃ u, u = a.tombs[k] := ⟨_, rfl⟩
              have hzr : x.Reads w := by rw [hx]; exact HRA.out.2.2.2 _ (List.getElem_mem hka)
              have hzf : x.t.acks.length ≤ 1000000 ∧ x.t.cov.length ≤ 1000000 := by rw [hx]; exact HF.out.1 _ (List.getElem_mem hka)
              obtain ⟨tx, zcv, zav⟩ := x
              have hzr : RowAt 3 vTok w zcv tx.cov ∧ RowAt 1 vInt w zav tx.acks := hzr
              obtain ⟨xp3, xm3, rfl, -, -⟩ := hzr.1.form
              obtain ⟨xp4, xm4, rfl, -, -⟩ := hzr.2.form
              dsimp only at hzr hzf hx
              obtain ⟨xl3, fz3⟩ : ∃ q, q = tx.cov.length := ⟨_, rfl⟩
              obtain ⟨xl4, fz4⟩ : ∃ q, q = tx.acks.length := ⟨_, rfl⟩
              rw [← fz3, ← fz4] at hzr hzf hx
              have HX0 := Lib.hid (show w.cell? ⟨g, of + k * 5, none⟩ = some (.int .i64 tx.node) from hc k hka 0 _ (by rw [← hx]; rfl))
              have HX1 := Lib.hid (show w.cell? ⟨g, of + k * 5 + 1, none⟩ = some (.int .i64 tx.n) from hc k hka 1 _ (by rw [← hx]; rfl))
              have HX2 := Lib.hid (show w.cell? ⟨g, of + k * 5 + 2, none⟩ = some (.string tx.id) from hc k hka 2 _ (by rw [← hx]; rfl))
              have HX3 := Lib.hid (show w.cell? ⟨g, of + k * 5 + 3, none⟩ = some (.slice xp3 xl3 xm3) from hc k hka 3 _ (by rw [← hx]; rfl))
              have HX4 := Lib.hid (show w.cell? ⟨g, of + k * 5 + 4, none⟩ = some (.slice xp4 xl4 xm4) from hc k hka 4 _ (by rw [← hx]; rfl))
              have HX := Lib.hid (show tx = (a.tombs[k]).t from by rw [← hx])
              have HXR := Lib.hid (And.intro hzr (And.intro hzf (And.intro fz3 fz4)))
              have HGX := Lib.hid hgl
              clear hx hc hgl hzr hzf fz3 fz4
              have x0 : wr.cell? ⟨w.heap.size, 2, none⟩ = some (.slice (some ⟨g, of, none⟩) n3 f3) := HL.out.bx.cell 2
              obtain ⟨G1, hG1⟩ : ∃ G, G = wr.heap.size := ⟨_, rfl⟩
              obtain ⟨W1, hW1⟩ : ∃ W1, W1 = wr.alloc (.cells #[.int .i64 tx.node, .int .i64 tx.n, .string tx.id, .slice xp3 xl3 xm3, .slice xp4 xl4 xm4] 43) := ⟨_, rfl⟩
              have hb1 : Below wr.heap.size wr W1 := by rw [hW1]; exact (Below.refl _ _).alloc (Nat.le_refl _) _
              have SX := Lib.hid (show BwSt w W1 #[.slice o1 n1 f1, .slice o2 n2 f2, .slice (some ⟨g, of, none⟩) n3 f3] #[.slice p1 m1 g1, .slice p2 m2 g2, .slice p3 m3 g3] ∧ BlkIs W1 G1 43 #[.int .i64 tx.node, .int .i64 tx.n, .string tx.id, .slice xp3 xl3 xm3, .slice xp4 xl4 xm4] from ⟨HL.out.later hb1, by rw [hW1, hG1]; exact BlkIs.new _ _ _⟩)
              have HW1 := Lib.hid (And.intro hW1 hG1)
              clear hb1 hW1 hG1
              go_upto_region 24 with (fail)
              have u0 : wr.cell? ⟨g, of + k * 5, none⟩ = some (.int .i64 tx.node) := (HL.out.hb.cell (p := ⟨g, of + k * 5, none⟩) HGX.out).trans HX0.out
              have u1 : wr.cell? ⟨g, of + k * 5 + 1, none⟩ = some (.int .i64 tx.n) := (HL.out.hb.cell (p := ⟨g, of + k * 5 + 1, none⟩) HGX.out).trans HX1.out
              have u2 : wr.cell? ⟨g, of + k * 5 + 2, none⟩ = some (.string tx.id) := (HL.out.hb.cell (p := ⟨g, of + k * 5 + 2, none⟩) HGX.out).trans HX2.out
              have u3 : wr.cell? ⟨g, of + k * 5 + 3, none⟩ = some (.slice xp3 xl3 xm3) := (HL.out.hb.cell (p := ⟨g, of + k * 5 + 3, none⟩) HGX.out).trans HX3.out
              have u4 : wr.cell? ⟨g, of + k * 5 + 4, none⟩ = some (.slice xp4 xl4 xm4) := (HL.out.hb.cell (p := ⟨g, of + k * 5 + 4, none⟩) HGX.out).trans HX4.out
              go_upto_region 25 with (fail)
              rw [← HW1.out.1, ← HW1.out.2]
              clear x0 u0 u1 u2 u3 u4
              go_wp2_with fail
              go_loopw [13, 14] (fun q i wr => ∃ (j : Nat) (b_ : Bool), q = .bool b_ ∧ i = .int .i64 (j : Int) ∧ j ≤ m3 ∧ Hid (BwSt w wr #[.slice o1 n1 f1, .slice o2 n2 f2, .slice (some ⟨g, of, none⟩) n3 f3] #[.slice p1 m1 g1, .slice p2 m2 g2, .slice p3 m3 g3] ∧ BlkIs wr G1 43 #[.int .i64 tx.node, .int .i64 tx.n, .string tx.id, .slice xp3 xl3 xm3, .slice xp4 xl4 xm4]) ∧ Hid (b_ = ((b.tombs.map (·.t)).take j).any fun y => rTb tx y)) (fun _ i _ => ((m3 : Int) - intOf i).toNat)
              case atStart => exact ⟨0, false, rfl, rfl, Nat.zero_le _, SX, Lib.hid (by simp)⟩
              case round =>
                obtain ⟨j, b_, rfl, rfl, hjm, HJ, HS⟩ := hrel
                clear HL SX
                rcases Nat.lt_or_ge j m3 with hjl | hjg
                · have ji : (j : Int) < m3 := by omega
                  have jw : IntKind.i64.wrap ((j : Int) + 1) = ((j + 1 : Nat) : Int) := IntWalk.i64_in _ (by omega)
                  have hjb : j < b.tombs.length := by have := HN.out; omega
                  obtain ⟨h, og, hag, hgl, hc⟩ := HRB.out.2.2.1.at_ (by omega)
                  subst hag
                  obtain ⟨y, hy⟩ : ∃ u, u = b.tombs[j] := ⟨_, rfl⟩
                  have hzr : y.Reads w := by rw [hy]; exact HRB.out.2.2.2 _ (List.getElem_mem hjb)
                  have hzf : y.t.acks.length ≤ 1000000 ∧ y.t.cov.length ≤ 1000000 := by rw [hy]; exact HF.out.2 _ (List.getElem_mem hjb)
                  obtain ⟨ty, zcv, zav⟩ := y
                  have hzr : RowAt 3 vTok w zcv ty.cov ∧ RowAt 1 vInt w zav ty.acks := hzr
                  obtain ⟨yp3, ym3, rfl, -, -⟩ := hzr.1.form
                  obtain ⟨yp4, ym4, rfl, -, -⟩ := hzr.2.form
                  dsimp only at hzr hzf hy
                  obtain ⟨yl3, fz3⟩ : ∃ q, q = ty.cov.length := ⟨_, rfl⟩
                  obtain ⟨yl4, fz4⟩ : ∃ q, q = ty.acks.length := ⟨_, rfl⟩
                  rw [← fz3, ← fz4] at hzr hzf hy
                  have HY0 := Lib.hid (show w.cell? ⟨h, og + j * 5, none⟩ = some (.int .i64 ty.node) from hc j hjb 0 _ (by rw [← hy]; rfl))
                  have HY1 := Lib.hid (show w.cell? ⟨h, og + j * 5 + 1, none⟩ = some (.int .i64 ty.n) from hc j hjb 1 _ (by rw [← hy]; rfl))
                  have HY2 := Lib.hid (show w.cell? ⟨h, og + j * 5 + 2, none⟩ = some (.string ty.id) from hc j hjb 2 _ (by rw [← hy]; rfl))
                  have HY3 := Lib.hid (show w.cell? ⟨h, og + j * 5 + 3, none⟩ = some (.slice yp3 yl3 ym3) from hc j hjb 3 _ (by rw [← hy]; rfl))
                  have HY4 := Lib.hid (show w.cell? ⟨h, og + j * 5 + 4, none⟩ = some (.slice yp4 yl4 ym4) from hc j hjb 4 _ (by rw [← hy]; rfl))
                  have HY := Lib.hid (show ty = (b.tombs[j]).t from by rw [← hy])
                  have HYR := Lib.hid (And.intro hzr (And.intro hzf (And.intro fz3 fz4)))
                  have HGY := Lib.hid hgl
                  clear hy hc hgl hzr hzf fz3 fz4
                  have y0 : wr.cell? ⟨w.heap.size + 1, 2, none⟩ = some (.slice (some ⟨h, og, none⟩) m3 g3) := HJ.out.1.by_.cell 2
                  have hjb : j < (b.tombs.map (·.t)).length := by rw [List.length_map]; exact hjb
                  obtain ⟨G2, hG2⟩ : ∃ G, G = wr.heap.size := ⟨_, rfl⟩
                  obtain ⟨W2, hW2⟩ : ∃ W2, W2 = wr.alloc (.cells #[.int .i64 ty.node, .int .i64 ty.n, .string ty.id, .slice yp3 yl3 ym3, .slice yp4 yl4 ym4] 43) := ⟨_, rfl⟩
                  have hb2 : Below wr.heap.size wr W2 := by rw [hW2]; exact (Below.refl _ _).alloc (Nat.le_refl _) _
                  have SY := Lib.hid (show (BwSt w W2 #[.slice o1 n1 f1, .slice o2 n2 f2, .slice (some ⟨g, of, none⟩) n3 f3] #[.slice p1 m1 g1, .slice p2 m2 g2, .slice (some ⟨h, og, none⟩) m3 g3] ∧ BlkIs W2 G1 43 #[.int .i64 tx.node, .int .i64 tx.n, .string tx.id, .slice xp3 xl3 xm3, .slice xp4 xl4 xm4]) ∧ BlkIs W2 G2 43 #[.int .i64 ty.node, .int .i64 ty.n, .string ty.id, .slice yp3 yl3 ym3, .slice yp4 yl4 ym4] from ⟨⟨HJ.out.1.later hb2, HJ.out.2.below hb2 HJ.out.2.lt⟩, by rw [hW2, hG2]; exact BlkIs.new _ _ _⟩)
                  have HW2 := Lib.hid (And.intro hW2 hG2)
                  clear hb2 hW2 hG2
                  go_upto_region 29 with (fail)
                  have u0 : wr.cell? ⟨h, og + j * 5, none⟩ = some (.int .i64 ty.node) := (HJ.out.1.hb.cell (p := ⟨h, og + j * 5, none⟩) HGY.out).trans HY0.out
                  have u1 : wr.cell? ⟨h, og + j * 5 + 1, none⟩ = some (.int .i64 ty.n) := (HJ.out.1.hb.cell (p := ⟨h, og + j * 5 + 1, none⟩) HGY.out).trans HY1.out
                  have u2 : wr.cell? ⟨h, og + j * 5 + 2, none⟩ = some (.string ty.id) := (HJ.out.1.hb.cell (p := ⟨h, og + j * 5 + 2, none⟩) HGY.out).trans HY2.out
                  have u3 : wr.cell? ⟨h, og + j * 5 + 3, none⟩ = some (.slice yp3 yl3 ym3) := (HJ.out.1.hb.cell (p := ⟨h, og + j * 5 + 3, none⟩) HGY.out).trans HY3.out
                  have u4 : wr.cell? ⟨h, og + j * 5 + 4, none⟩ = some (.slice yp4 yl4 ym4) := (HJ.out.1.hb.cell (p := ⟨h, og + j * 5 + 4, none⟩) HGY.out).trans HY4.out
                  go_upto_region 30 with (fail)
                  rw [← HW2.out.1, ← HW2.out.2]
                  clear y0 u0 u1 u2 u3 u4 HJ
                  cases b_ with
                  | true =>
                    go_wp2_with fail
                    exact ⟨⟨j + 1, true, rfl, by simp, by omega, Lib.hid SY.out.1, Lib.hid (by rw [any_snoc hjb, ← HS.out]; rw [Bool.true_or])⟩, by simp [intOf]; omega⟩
                  | false =>
                    obtain ⟨q1, hq1⟩ : ∃ q, q = (tx.node == ty.node) := ⟨_, rfl⟩
                    obtain ⟨q2, hq2⟩ : ∃ q, q = (tx.n == ty.n) := ⟨_, rfl⟩
                    obtain ⟨q3, hq3⟩ : ∃ q, q = (tx.id.toList == ty.id.toList) := ⟨_, rfl⟩
                    obtain ⟨q4, hq4⟩ : ∃ q, q = eqB tx.cov ty.cov := ⟨_, rfl⟩
                    obtain ⟨q5, hq5⟩ : ∃ q, q = allIn tx.acks ty.acks := ⟨_, rfl⟩
                    have HP := Lib.hid (show rTb tx (b.tombs.map (·.t))[j] = (q1 && (q2 && (q3 && (q4 && q5)))) from by rw [List.getElem_map, ← HY.out]; unfold rTb; rw [hq1, hq2, hq3, hq4, hq5])
                    have T := Lib.hid (show ∀ W, Below w.heap.size w W → Calls Tryz.prog 28 #[.slice xp3 xl3 xm3, .slice yp3 yl3 ym3] W fun e w' => e = .returned (.bool q4) ∧ Below W.heap.size W w' from fun W hW => by
                      rw [hq4]
                      exact tokens_same _ _ _ _ _ (HXR.out.1.1.later hW) (HYR.out.1.1.later hW) (by have := HXR.out.2; omega) (by have := HYR.out.2; omega))
                    have U := Lib.hid (show ∀ W, Below w.heap.size w W → Calls Tryz.prog 42 #[.slice xp4 xl4 xm4, .slice yp4 yl4 ym4] W fun e w' => e = .returned (.bool q5) ∧ Below W.heap.size W w' from fun W hW => by
                      rw [hq5]
                      exact rall_any _ _ _ _ _ (HXR.out.1.2.later hW) (HYR.out.1.2.later hW) (by have := HXR.out.2; omega) (by have := HYR.out.2; omega))
                    have hq1' := hq1.symm
                    have hq2' := hq2.symm
                    have hq3' := hq3.symm
                    clear hq1 hq2 hq3 hq4 hq5
                    have a0 : W2.cell? ⟨G1, 0, none⟩ = some (.int .i64 tx.node) := SY.out.1.2.cell 0
                    have a1 : W2.cell? ⟨G1, 1, none⟩ = some (.int .i64 tx.n) := SY.out.1.2.cell 1
                    have a2 : W2.cell? ⟨G1, 2, none⟩ = some (.string tx.id) := SY.out.1.2.cell 2
                    have a3 : W2.cell? ⟨G1, 3, none⟩ = some (.slice xp3 xl3 xm3) := SY.out.1.2.cell 3
                    have a4 : W2.cell? ⟨G1, 4, none⟩ = some (.slice xp4 xl4 xm4) := SY.out.1.2.cell 4
                    have b0 : W2.cell? ⟨G2, 0, none⟩ = some (.int .i64 ty.node) := SY.out.2.cell 0
                    have b1 : W2.cell? ⟨G2, 1, none⟩ = some (.int .i64 ty.n) := SY.out.2.cell 1
                    have b2 : W2.cell? ⟨G2, 2, none⟩ = some (.string ty.id) := SY.out.2.cell 2
                    have b3 : W2.cell? ⟨G2, 3, none⟩ = some (.slice yp3 yl3 ym3) := SY.out.2.cell 3
                    have b4 : W2.cell? ⟨G2, 4, none⟩ = some (.slice yp4 yl4 ym4) := SY.out.2.cell 4
                    cases q1 with
                    | false =>
                      go_wp2_with fail
                      exact ⟨⟨j + 1, false, rfl, by simp, by omega, Lib.hid SY.out.1, Lib.hid (by rw [any_snoc hjb, ← HS.out, HP.out]; simp)⟩, by simp [intOf]; omega⟩
                    | true =>
                      cases q2 with
                      | false =>
                        go_wp2_with fail
                        exact ⟨⟨j + 1, false, rfl, by simp, by omega, Lib.hid SY.out.1, Lib.hid (by rw [any_snoc hjb, ← HS.out, HP.out]; simp)⟩, by simp [intOf]; omega⟩
                      | true =>
                        cases q3 with
                        | false =>
                          go_wp2_with fail
                          exact ⟨⟨j + 1, false, rfl, by simp, by omega, Lib.hid SY.out.1, Lib.hid (by rw [any_snoc hjb, ← HS.out, HP.out]; simp)⟩, by simp [intOf]; omega⟩
                        | true =>
                          go_wp2_with fail
                          refine (T.out _ SY.out.1.1.hb).mono ?_
                          rintro e w4 ⟨rfl, hb4⟩
                          have SZ := Lib.hid (show (BwSt w w4 #[.slice o1 n1 f1, .slice o2 n2 f2, .slice (some ⟨g, of, none⟩) n3 f3] #[.slice p1 m1 g1, .slice p2 m2 g2, .slice (some ⟨h, og, none⟩) m3 g3] ∧ BlkIs w4 G1 43 #[.int .i64 tx.node, .int .i64 tx.n, .string tx.id, .slice xp3 xl3 xm3, .slice xp4 xl4 xm4]) ∧ BlkIs w4 G2 43 #[.int .i64 ty.node, .int .i64 ty.n, .string ty.id, .slice yp3 yl3 ym3, .slice yp4 yl4 ym4] from ⟨⟨SY.out.1.1.later hb4, SY.out.1.2.below hb4 SY.out.1.2.lt⟩, SY.out.2.below hb4 SY.out.2.lt⟩)
                          clear hb4 a0 a1 a2 a3 a4 b0 b1 b2 b3 b4
                          cases q4 with
                          | false =>
                            go_wp2_with fail
                            exact ⟨⟨j + 1, false, rfl, by simp, by omega, Lib.hid SZ.out.1, Lib.hid (by rw [any_snoc hjb, ← HS.out, HP.out]; simp)⟩, by simp [intOf]; omega⟩
                          | true =>
                            have a0 : w4.cell? ⟨G1, 0, none⟩ = some (.int .i64 tx.node) := SZ.out.1.2.cell 0
                            have a1 : w4.cell? ⟨G1, 1, none⟩ = some (.int .i64 tx.n) := SZ.out.1.2.cell 1
                            have a2 : w4.cell? ⟨G1, 2, none⟩ = some (.string tx.id) := SZ.out.1.2.cell 2
                            have a3 : w4.cell? ⟨G1, 3, none⟩ = some (.slice xp3 xl3 xm3) := SZ.out.1.2.cell 3
                            have a4 : w4.cell? ⟨G1, 4, none⟩ = some (.slice xp4 xl4 xm4) := SZ.out.1.2.cell 4
                            have b0 : w4.cell? ⟨G2, 0, none⟩ = some (.int .i64 ty.node) := SZ.out.2.cell 0
                            have b1 : w4.cell? ⟨G2, 1, none⟩ = some (.int .i64 ty.n) := SZ.out.2.cell 1
                            have b2 : w4.cell? ⟨G2, 2, none⟩ = some (.string ty.id) := SZ.out.2.cell 2
                            have b3 : w4.cell? ⟨G2, 3, none⟩ = some (.slice yp3 yl3 ym3) := SZ.out.2.cell 3
                            have b4 : w4.cell? ⟨G2, 4, none⟩ = some (.slice yp4 yl4 ym4) := SZ.out.2.cell 4
                            go_wp2_with fail
                            refine (U.out _ SZ.out.1.1.hb).mono ?_
                            rintro e w5 ⟨rfl, hb5⟩
                            have S5 := Lib.hid (show (BwSt w w5 #[.slice o1 n1 f1, .slice o2 n2 f2, .slice (some ⟨g, of, none⟩) n3 f3] #[.slice p1 m1 g1, .slice p2 m2 g2, .slice (some ⟨h, og, none⟩) m3 g3] ∧ BlkIs w5 G1 43 #[.int .i64 tx.node, .int .i64 tx.n, .string tx.id, .slice xp3 xl3 xm3, .slice xp4 xl4 xm4]) ∧ BlkIs w5 G2 43 #[.int .i64 ty.node, .int .i64 ty.n, .string ty.id, .slice yp3 yl3 ym3, .slice yp4 yl4 ym4] from ⟨⟨SZ.out.1.1.later hb5, SZ.out.1.2.below hb5 SZ.out.1.2.lt⟩, SZ.out.2.below hb5 SZ.out.2.lt⟩)
                            clear hb5 a0 a1 a2 a3 a4 b0 b1 b2 b3 b4
                            go_wp2_with fail
                            exact ⟨⟨j + 1, q5, rfl, by simp, by omega, Lib.hid S5.out.1, Lib.hid (by rw [any_snoc hjb, ← HS.out, HP.out]; simp)⟩, by simp [intOf]; omega⟩
                · have ji : ¬ ((j : Int) < m3) := by omega
                  have ji2 : decide ((j : Int) < m3) = false := decide_eq_false ji
                  obtain rfl : j = m3 := Nat.le_antisymm hjm hjg
                  clear ji
                  have HS2 := Lib.hid (show b_ = (b.tombs.map (·.t)).any fun y => rTb tx y from by have h1 := HS.out; rwa [show j = (b.tombs.map (·.t)).length from by rw [List.length_map]; have := HN.out; omega, List.take_length] at h1)
                  have HSX := Lib.hid (show ((b.tombs.map (·.t)).any fun y => rTb (a.tombs.map (·.t))[k] y) = b_ from by rw [List.getElem_map, ← HX.out]; exact HS2.out.symm)
                  have y0 : wr.cell? ⟨w.heap.size + 1, 2, none⟩ = some (.slice p3 j g3) := HJ.out.1.by_.cell 2
                  cases b_ with
                  | false =>
                    go_wp2_with fail
                    go_ret
                    refine ⟨?_, HJ.out.1.hb⟩
                    rw [rbelow_no (m := a.mk_) (n := b.mk_) (.inr (.inr (AllAt.no hkA HSX.out)))]
                    rfl
                  | true =>
                    go_wp2_with fail
                    exact ⟨⟨k + 1, by simp, by omega, Lib.hid HJ.out.1, Lib.hid (HA.out.more hkA HSX.out)⟩, by simp [intOf]; omega⟩
            · have ki : ¬ ((k : Int) < n3) := by omega
              have ki2 : decide ((k : Int) < n3) = false := decide_eq_false ki
              obtain rfl : k = n3 := Nat.le_antisymm hkn hge
              clear ki
              have x0 : wr.cell? ⟨w.heap.size, 2, none⟩ = some (.slice o3 k f3) := HL.out.bx.cell 2
              have HA3 := Lib.hid (show ((a.tombs.map (·.t)).all fun x => (b.tombs.map (·.t)).any fun y => rTb x y) = true from by have h1 := HA.out; rw [show k = (a.tombs.map (·.t)).length from by rw [List.length_map]; have := HN.out; omega] at h1; exact h1.all)
              go_wp2_with fail
              go_ret
              exact ⟨by rw [rbelow_yes (m := a.mk_) (n := b.mk_) HA1.out HA2.out HA3.out]; rfl, HL.out.hb⟩
end Go.Proofs.YtbmknmjcoeinkaaGreat.Mg
