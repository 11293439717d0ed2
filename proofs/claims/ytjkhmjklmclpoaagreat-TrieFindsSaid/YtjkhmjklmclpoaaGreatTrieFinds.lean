/- THE LAW TrieFinds, walked: what one lacks is found. Printed by gen_finds.py. (Layer 10.) -/
import Derived.Test.YtjkhmjklmclpoaaGreatTrU
import Derived.Test.YtjkhmjklmclpoaaGreatTrDO
import Derived.Test.YtjkhmjklmclpoaaGreatTrK
namespace Go.Proofs.YtjkhmjklmclpoaaGreat.Tr
set_option linter.unusedVariables false
set_option linter.unusedSimpArgs false
open Go.RowKit Go.Lib
open Set (StrAt scells El Rise)
theorem isOf_none {l0 : List ByteArray} (h : Set.IsOf [] l0) : l0 = [] := by
  cases l0 with
  | nil => rfl
  | cons x r => exact absurd ((h.2 x).1 (List.mem_cons_self)) (by simp)
theorem drawL_le (l : List ByteArray) (c : Cp) : (drawL l c).length ≤ c.ids.length := by
  unfold drawL lacksL
  split
  · exact List.length_filter_le _ _
  · simp
theorem drawA_le (l : List ByteArray) (c : Cp) : (drawA l c).length ≤ c.kids.length := by
  unfold drawA
  split
  · exact asksU_le _ _ _
  · simp
/-- What a kid's sum tells of two sets, unless texts clash. -/
def KP (a b : List ByteArray) (p : ByteArray) (kids : List ByteArray) (i : Nat) : Prop := (mineS a (ext p i) = kids[i]! → AL a b (ext p i)) ∧ (kids[i]! = leafS [] → AL [] b (ext p i))
theorem kp_step {a b : List ByteArray} {p : ByteArray} {kids : List ByteArray} {cl cl2 cl3 : Bool} {j : Nat} (h : cl2 = false → cl = false ∧ ∀ i, i < j → KP a b p kids i) (h3 : cl3 = false → cl2 = false ∧ KP a b p kids j) : cl3 = false → cl = false ∧ ∀ i, i < j + 1 → KP a b p kids i := fun e => by
  obtain ⟨h4, h5⟩ := h3 e
  obtain ⟨h6, h7⟩ := h h4
  refine ⟨h6, fun i hi => ?_⟩
  rcases Nat.lt_or_ge i j with h8 | h8
  · exact h7 i h8
  · obtain rfl : i = j := by omega
    exact h5
theorem sha_none (w : World) : Calls Tryz.prog 21 #[.string ⟨#[108]⟩] w fun e w' => e = .returned (.string (leafS [])) ∧ Below w.heap.size w w' :=
  Sha.sum_any (⟨#[108]⟩ : ByteArray) w (by decide)
set_option maxRecDepth 100000 in
set_option maxHeartbeats 40000000 in
theorem finds_any (ao bo : Option Addr) (n na m ma : Nat) (f f' : Nat → List UInt8) (w : World) (hf : B32At w ao n f) (hf' : B32At w bo m f') :
    Calls Tryz.prog 7 #[.slice ao n na, .slice bo m ma] w fun e w' => e = .returned (.bool true) ∧ Below w.heap.size w w' := by
  have HF := Lib.hid hf
  have HF2 := Lib.hid hf'
  have A := Lib.hid (awake_any w)
  have hn63 := hf.1
  have hm63 := hf'.1
  clear hf hf'
  go_enter Tryz.func7, Tryz.ntmps7
  go_wp2_with fail
  refine A.out.mono ?_
  rintro e w1 ⟨rfl, hb1⟩
  have B1 := Lib.hid hb1
  clear A hb1
  by_cases h80 : (80 : Int) < (n : Int)
  · go_wp2_with fail
    go_ret
    exact ⟨rfl, B1.out⟩
  have h80' : decide ((80 : Int) < (n : Int)) = false := decide_eq_false h80
  have h80n : decide (80 < n) = false := decide_eq_false (by omega)
  by_cases g80 : (80 : Int) < (m : Int)
  · go_wp2_with fail
    go_ret
    exact ⟨rfl, B1.out⟩
  have g80' : decide ((80 : Int) < (m : Int)) = false := decide_eq_false g80
  have g80n : decide (80 < m) = false := decide_eq_false (by omega)
  have HN80 := Lib.hid (show n ≤ 80 ∧ m ≤ 80 by omega)
  clear h80 g80
  have SA := Lib.hid (sorted_any ao n na f w1 (HF.out.later B1.out) (by have := HN80.out; omega))
  go_wp2_with fail
  refine SA.out.mono ?_
  rintro e w2 ⟨ua, a, rfl, hsa, hseta, hb2⟩
  have B2 := Lib.hid (B1.out.trans (hb2.mono B1.out.size))
  have SAt := Lib.hid (StrAt.of_sl hsa)
  have HSA := Lib.hid (show IsSet a ∧ a.length ≤ 80 from ⟨hseta.1, Nat.le_trans hseta.2.2 HN80.out.1⟩)
  obtain ⟨oa, ca, rfl, -, -, -⟩ := hsa.form
  have SB := Lib.hid (sorted_any bo m ma f' w2 (HF2.out.later B2.out) (by have := HN80.out; omega))
  clear SA hsa hseta hb2 h80' h80n g80' g80n
  go_wp2_with fail
  refine SB.out.mono ?_
  rintro e w3 ⟨ub, b, rfl, hsb, hsetb, hb3⟩
  have B3 := Lib.hid (B2.out.trans (hb3.mono B2.out.size))
  have SA3 := Lib.hid (SAt.out.later hb3)
  have SB3 := Lib.hid (StrAt.of_sl hsb)
  have HSB := Lib.hid (show IsSet b ∧ b.length ≤ 80 from ⟨hsetb.1, Nat.le_trans hsetb.2.2 HN80.out.2⟩)
  obtain ⟨ob, cb, rfl, -, -, -⟩ := hsb.form
  clear SB hsb hsetb hb3 SAt HF HF2 B1 B2 HN80 hn63 hm63
  obtain ⟨la, hla⟩ : ∃ n, n = a.length := ⟨_, rfl⟩
  obtain ⟨lb, hlb⟩ : ∃ n, n = b.length := ⟨_, rfl⟩
  rw [← hla] at SA3 ⊢
  rw [← hlb] at SB3 ⊢
  have HL := Lib.hid (And.intro hla hlb)
  clear hla hlb
  have T0 := Lib.hid (show ∃ W v, W = w3.alloc (.cells #[.string ⟨#[]⟩] 9) ∧ v = Value.slice (some ⟨w3.heap.size, 0, none⟩) 1 1 ∧ SlIs W w3.heap.size 9 1 v 1 (scells [⟨#[]⟩]) ∧ Below w3.heap.size w3 W from ⟨_, _, rfl, rfl, SlIs.made (n := 1) (BlkIs.new _ _ _) (Nat.le_refl _) rfl (by decide), (Below.refl _ _).alloc (Nat.le_refl _) _⟩)
  go_upto_region 8 with (fail)
  obtain ⟨W4, v7, hW4, hv7, hs4, hb4⟩ := T0.out
  rw [← hW4, ← hv7]
  have S4 := Lib.hid (And.intro hs4 hb4)
  clear T0 hW4 hv7 hs4 hb4
  have OF := Lib.hid (Set.of_string (.slice none 0 0) [] W4 (strAt_nil W4) (by decide))
  go_wp2_with fail
  refine OF.out.mono ?_
  rintro e w5 ⟨g, kv0, vv0, l0, rfl, hl0, hs5, hb5⟩
  obtain rfl := isOf_none hl0
  have S5 := Lib.hid (show SlIs w5 w3.heap.size 9 1 v7 1 (scells [⟨#[]⟩]) ∧ Set.StrSet w5 w3.heap.size g kv0 vv0 [] ∧ Below w3.heap.size w3 w5 from ⟨S4.out.1.later hb5, hs5.mono S4.out.2.size, S4.out.2.trans (hb5.mono S4.out.2.size)⟩)
  clear OF hl0 hs5 hb5 S4
  go_wp2_with fail
  go_loopw [7, 9, 10] (fun u c9 c10 wr => ∃ (T F : List ByteArray) (kv vv : Value) (cl : Bool) (k : Nat), c9 = .bool cl ∧ c10 = .int .i64 (k : Int) ∧ Hid (SlIs wr w3.heap.size 9 1 u T.length (scells T) ∧ Set.StrSet wr w3.heap.size g kv vv F ∧ F.length ≤ 8 * k ∧ Below w3.heap.size w3 wr ∧ PInv a b T F cl k)) (fun _ _ c _ => ((20000 : Int) - intOf c).toNat)
  case atStart => exact ⟨[⟨#[]⟩], [], kv0, vv0, false, 0, rfl, rfl, Lib.hid ⟨S5.out.1, S5.out.2.1, by simp, S5.out.2.2, PInv.start HSB.out.1 HSB.out.2⟩⟩
  case round =>
    obtain ⟨T, F, kv, vv, cl, k, rfl, rfl, HK⟩ := hrel
    clear S5
    cases T with
    | nil =>
      obtain ⟨ot, ct, rfl, -, -, -⟩ := HK.out.1.form
      simp only [List.length_nil]
      have HK1 := Lib.hid (And.intro HK.out.2.1 (And.intro HK.out.2.2.1 (And.intro HK.out.2.2.2.1 HK.out.2.2.2.2)))
      have hk4 := HK.out.2.2.2.2.cnt
      have OB := Lib.hid (Set.of_string _ b wr (SB3.out.later HK1.out.2.2.1) (by have := HSB.out.2; omega))
      clear HK
      go_wp2_with fail
      refine OB.out.mono ?_
      rintro e w6 ⟨g1, k1, v1, l1, rfl, hl1, hs6, hb6⟩
      have B6 := Lib.hid (HK1.out.2.2.1.trans (hb6.mono HK1.out.2.2.1.size))
      have H6 := Lib.hid (And.intro (HK1.out.1.later hb6) (And.intro hs6 hl1))
      have OA := Lib.hid (Set.of_string _ a w6 (SA3.out.later B6.out) (by have := HSA.out.2; omega))
      clear OB hl1 hs6 hb6
      go_wp2_with fail
      refine OA.out.mono ?_
      rintro e w7 ⟨g2, k2, v2, l2, rfl, hl2, hs7, hb7⟩
      have B7 := Lib.hid (B6.out.trans (hb7.mono B6.out.size))
      have H7 := Lib.hid (And.intro (H6.out.1.later hb7) (And.intro hs7 hl2))
      have hn1 : l1.length ≤ 80 := by rw [Set.isOf_unique H6.out.2.2 ⟨HSB.out.1.rise, fun x => Iff.rfl⟩]; exact HSB.out.2
      have hn2 : l2.length ≤ 80 := by rw [Set.isOf_unique hl2 ⟨HSA.out.1.rise, fun x => Iff.rfl⟩]; exact HSA.out.2
      have MI := Lib.hid (Set.minus_string _ g1 _ g2 _ _ _ _ l1 l2 w7 (H6.out.2.1.later hb7) hs7 (by omega) (by omega))
      clear OA hl2 hs7 hb7
      go_wp2_with fail
      refine MI.out.mono ?_
      rintro e w8 ⟨g3, k3, v3, rfl, hs8, hb8⟩
      have B8 := Lib.hid (B7.out.trans (hb8.mono B7.out.size))
      have HM := Lib.hid (show ∀ x, x ∈ l1.filter (Set.partOf l2 false) ↔ x ∈ b ∧ ¬ x ∈ a from fun x => by
        rw [List.mem_filter, H6.out.2.2.2 x]
        refine and_congr_right fun _ => ?_
        unfold Set.partOf
        by_cases hx : x ∈ l2
        · rw [Set.has_true hx]
          exact ⟨fun h => by simp at h, fun h => absurd ((H7.out.2.2.2 x).1 hx) h⟩
        · rw [Set.has_false hx]
          exact ⟨fun _ h => hx ((H7.out.2.2.2 x).2 h), fun _ => rfl⟩)
      have hn3 : (l1.filter (Set.partOf l2 false)).length ≤ 80 := Nat.le_trans (List.length_filter_le _ _) hn1
      obtain ⟨l3, hl3⟩ : ∃ l, l = l1.filter (Set.partOf l2 false) := ⟨_, rfl⟩
      rw [← hl3] at hs8 HM hn3
      have HF8 := Lib.hid (And.intro (H7.out.1.later hb8) (And.intro hs8 (And.intro hn3 (show F.length ≤ 90000 by have := HK1.out.2.1; have := HK1.out.2.2.2.cnt; omega))))
      clear MI hs8 hb8 hl3 hn1 hn2 hn3 H6 H7
      cases cl with
      | true =>
        go_wp2_with fail
        go_ret
        exact ⟨rfl, B3.out.trans (B8.out.mono B3.out.size)⟩
      | false =>
        have hfd := HK1.out.2.2.2.found
        have WI := Lib.hid (Set.within_string _ g _ g3 _ _ _ _ F l3 w8 HF8.out.1 HF8.out.2.1 (by have := HF8.out.2.2.2; omega) (by have := HF8.out.2.2.1; omega))
        rw [within_is, holds_true (fun x hx => (HM.out x).2 ((hfd x).1 hx))] at WI
        have HFD := Lib.hid hfd
        clear hfd
        go_wp2_with fail
        refine WI.out.mono ?_
        rintro e w9 ⟨rfl, hb9⟩
        have B9 := Lib.hid (B8.out.trans (hb9.mono B8.out.size))
        have WJ := Lib.hid (Set.within_string _ g3 _ g _ _ _ _ l3 F w9 (HF8.out.2.1.later hb9) (HF8.out.1.later hb9) (by have := HF8.out.2.2.1; omega) (by have := HF8.out.2.2.2; omega))
        rw [within_is, holds_true (fun x hx => (HFD.out x).2 ((HM.out x).1 hx))] at WJ
        clear WI hb9
        go_wp2_with fail
        refine WJ.out.mono ?_
        rintro e w10 ⟨rfl, hb10⟩
        have B10 := Lib.hid (B9.out.trans (hb10.mono B9.out.size))
        clear WJ hb10
        go_wp2_with fail
        go_ret
        exact ⟨rfl, B3.out.trans (B10.out.mono B3.out.size)⟩
    | cons p R =>
      have hk20 : k < 20000 := HK.out.2.2.2.2.early (by simp)
      have hRlen : (p :: R).length ≤ 10241 := HK.out.2.2.2.2.short
      rw [List.length_cons] at hRlen
      have hkI : (k : Int) < 20000 := by omega
      have kw : IntKind.i64.wrap ((k : Int) + 1) = ((k + 1 : Nat) : Int) := IntWalk.i64_in _ (by omega)
      have HKW := Lib.hid (And.intro kw hk20)
      have hpf := HK.out.2.2.2.2.pfx p (by simp)
      have hpz := pfx_size hpf
      have HPF := Lib.hid (And.intro hpf hpz)
      have HU := Lib.hid HK.out.1
      rw [List.length_cons] at HU
      obtain ⟨b0, off0, cap, rfl, hB0, hlt0, hnc, hcm, hcell, -⟩ := HU.out.at_ (by omega)
      have c0 : wr.cell? ⟨b0, off0, none⟩ = some (.string p) := by
        have := hcell 0 (by simp [scells])
        simpa [scells] using this
      obtain ⟨rl, hrl⟩ : ∃ n, n = R.length := ⟨_, rfl⟩
      rw [← hrl] at HU hnc hRlen ⊢
      have HRL := Lib.hid hrl
      have l1 : (0 : Int) < (rl : Int) + 1 := by omega
      have l2 : (0 : Int) < ((rl + 1 : Nat) : Int) := by omega
      have l3 : (1 : Int) ≤ ((rl + 1 : Nat) : Int) := by omega
      have l4 : (1 : Int) ≤ (cap : Int) := by omega
      have l5 : ((rl + 1 : Nat) : Int) ≤ (cap : Int) := by omega
      have CUT := Lib.hid (HU.out.cut (lo := 1) (hi := rl + 1) (by omega) (Nat.le_refl _))
      clear hcell hrl hpf hk20
      go_upto_region 14 with (fail)
      have Q0 := Lib.hid (show SlIs (wr.alloc (.cells #[] 9)) wr.heap.size 9 1 (.slice (some ⟨wr.heap.size, 0, none⟩) 0 0) 0 [] from SlIs.made (n := 0) (BlkIs.new _ _ _) (Nat.le_refl _) rfl (by decide))
      have CUT2 := Lib.hid (show SlIs (wr.alloc (.cells #[] 9)) w3.heap.size 9 1 (.slice (if cap = 1 then some ⟨b0, off0, none⟩ else some ⟨b0, off0 + 1, none⟩) rl (cap - 1)) rl (scells R) from by
        have h1 := CUT.out.alloc (.cells #[] 9)
        have e1 : (if cap = 1 then some (⟨b0, off0, none⟩ : Addr) else (some (⟨b0, off0, none⟩ : Addr)).map (·.add (1 * 1))) = if cap = 1 then some ⟨b0, off0, none⟩ else some ⟨b0, off0 + 1, none⟩ := by split <;> rfl
        have e2 : ((scells (p :: R)).drop (1 * 1)).take ((rl + 1 - 1) * 1) = scells R := by
          have : (scells (p :: R)).drop (1 * 1) = scells R := rfl
          rw [this]
          exact List.take_of_length_le (by simp [scells]; have := HRL.out; omega)
        rw [e1, e2] at h1
        exact h1)
      clear CUT
      go_wp2_with (at_builtin
                   refine wpList_append_sl rfl _ _ _ 22 rfl Set.el_string (.slice (some ⟨wr.heap.size, 0, none⟩) 0 0) 0 [] rfl Q0.out _ rl (scells R) rfl (SrcIs.own Tryz.underlying22 CUT2.out) (by intro u hu; obtain ⟨z, _, rfl⟩ := List.mem_map.1 hu; rfl) (by unfold maxLen; omega) (by omega) (by simp only [World.size_alloc]; omega) ?_
                   intro v8 wA hs1 hg1 hat1
                   have H1 := Lib.hid (And.intro hs1 hg1)
                   clear hs1 hg1 hat1
                   generalize (if cap = 1 then some (⟨b0, off0, none⟩ : Addr) else some ⟨b0, off0 + 1, none⟩) = oc)
      have KE := Lib.hid (show ∀ W, Below wA.heap.size wA W → SlIs W wr.heap.size 9 1 v8 rl (scells R) ∧ Set.StrSet W w3.heap.size g kv vv F ∧ Below w3.heap.size w3 W ∧ StrAt W (.slice oa la ca) a ∧ StrAt W (.slice ob lb cb) b from by
        have hbn : Below w3.heap.size w3 (wr.alloc (.cells #[] 9)) := HK.out.2.2.2.1.alloc HK.out.2.2.2.1.size _
        have hbA : Below w3.heap.size w3 wA := hbn.grown H1.out.2 hbn.size fun j hj => by
          have : wr.heap.size = j := by simpa [Value.ownBlock] using hj
          have := HK.out.2.2.2.1.size
          omega
        have hfA : Set.StrSet wA w3.heap.size g kv vv F := by
          have hal := (Below.refl wr.heap.size wr).alloc (Nat.le_refl _) (.cells #[] 9)
          refine (HK.out.2.1.later hal).chg (Chg.of_grown (S := fun j => j = wr.heap.size) H1.out.2 fun j hj => by simpa [Value.ownBlock] using hj.symm) fun j hj he => ?_
          have := (HK.out.2.1.own hj).2
          omega
        intro W hb
        have hsA := H1.out.1
        rw [Nat.zero_add, List.nil_append] at hsA
        have hb2 := hbA.trans (hb.mono hbA.size)
        exact ⟨hsA.later hb, hfA.later hb, hb2, SA3.out.later hb2, SB3.out.later hb2⟩)
      have HN := Lib.hid (show wr.heap.size ≤ wA.heap.size ∧ w3.heap.size ≤ wr.heap.size ∧ ∀ j, Set.Own_ g kv vv j → j < wr.heap.size from ⟨by have := H1.out.2.size; rw [World.size_alloc] at this; omega, HK.out.2.2.2.1.size, fun j hj => (HK.out.2.1.own hj).2⟩)
      have HP := Lib.hid (And.intro HK.out.2.2.2.2 HK.out.2.2.1)
      obtain ⟨N0, hN0⟩ : ∃ N, N = wr.heap.size := ⟨_, rfl⟩
      rw [← hN0] at KE HN
      clear hN0 HK HU H1 CUT2 Q0 c0 hlt0 hB0 hnc hcm l1 l2 l3 l4 l5 hkI kw
      have hpre : (cellC (belowL b p) p).pre = p := cellC_pre _ _
      have hbl := HSB.out.2
      have LK := Lib.hid (look_any _ b p wA (KE.out wA (Below.refl _ _)).2.2.2.2 (by omega) (by omega))
      unfold LookOut at LK
      obtain ⟨hlk1, hlk2⟩ := look_ok HSB.out.1 HPF.out.1
      rw [hlk1, hlk2] at LK
      obtain ⟨c, hc⟩ : ∃ c, c = cellC (belowL b p) p := ⟨_, rfl⟩
      rw [← hc] at LK hpre
      have HC := Lib.hid hc
      clear hlk1 hlk2 hc hpz hRlen
      go_wp2_with fail
      refine LK.out.mono ?_
      rintro e wB ⟨v, rfl, ⟨vi, vk, hv, hiB, hkB⟩, hbB⟩
      subst hv
      unfold aggC
      obtain ⟨oi, ci, rfl, -, -, -⟩ := id hiB
      obtain ⟨ok, ck, rfl, -, -, -⟩ := id hkB
      obtain ⟨G, hG⟩ : ∃ G, G = wB.heap.size := ⟨_, rfl⟩
      obtain ⟨WC, hWC⟩ : ∃ W8, W8 = wB.alloc (.cells #[.string c.pre, .int .i64 c.cnt, .string c.sum, .slice oi c.ids.length ci, .slice ok c.kids.length ck] 25) := ⟨_, rfl⟩
      have hBC : Below wB.heap.size wB WC := by rw [hWC]; exact (Below.refl _ _).alloc (Nat.le_refl _) _
      have KC := Lib.hid (show BlkIs WC G 25 #[.string c.pre, .int .i64 c.cnt, .string c.sum, .slice oi c.ids.length ci, .slice ok c.kids.length ck] by rw [hWC, hG]; exact BlkIs.new _ _ _)
      have BC := Lib.hid (hbB.trans (hBC.mono hbB.size))
      have SIK := Lib.hid (And.intro (hiB.later hBC) (hkB.later hBC))
      have HWC := Lib.hid (And.intro hWC hG)
      clear hWC hG hBC hiB hkB hbB LK
      obtain ⟨pre, cnt, sum, ids, kids⟩ := c
      dsimp only at KC SIK HWC hpre ⊢
      obtain rfl := hpre
      obtain ⟨ni, hni⟩ : ∃ n, n = ids.length := ⟨_, rfl⟩
      obtain ⟨nk, hnk⟩ : ∃ n, n = kids.length := ⟨_, rfl⟩
      rw [← hni] at KC SIK HWC ⊢
      rw [← hnk] at KC SIK HWC ⊢
      have HNN := Lib.hid (And.intro hni hnk)
      clear hni hnk
      go_upto_region 16 with (fail)
      rw [← HWC.out.1, ← HWC.out.2]
      clear HWC
      have LKA := Lib.hid (look_any _ a pre WC ((KE.out WC BC.out).2.2.2.1) (by have := HSA.out.2; omega) (by have := HPF.out.2; omega))
      unfold LookOut at LKA
      rw [(look_ok HSA.out.1 HPF.out.1).2] at LKA
      obtain ⟨d, hd⟩ : ∃ d, d = lookC a pre := ⟨_, rfl⟩
      rw [← hd] at LKA
      clear hd
      go_wp2_with fail
      refine LKA.out.mono ?_
      rintro e wD ⟨v, rfl, ⟨vi', vk', hv, hiD, hkD⟩, hbD⟩
      subst hv
      unfold aggC
      obtain ⟨oi', ci', rfl, -, -, -⟩ := id hiD
      obtain ⟨ok', ck', rfl, -, -, -⟩ := id hkD
      obtain ⟨D, hD⟩ : ∃ G, G = wD.heap.size := ⟨_, rfl⟩
      obtain ⟨WE, hWE⟩ : ∃ W8, W8 = wD.alloc (.cells #[.string d.pre, .int .i64 d.cnt, .string d.sum, .slice oi' d.ids.length ci', .slice ok' d.kids.length ck'] 25) := ⟨_, rfl⟩
      have hDE : Below wD.heap.size wD WE := by rw [hWE]; exact (Below.refl _ _).alloc (Nat.le_refl _) _
      have KD := Lib.hid (show BlkIs WE D 25 #[.string d.pre, .int .i64 d.cnt, .string d.sum, .slice oi' d.ids.length ci', .slice ok' d.kids.length ck'] by rw [hWE, hD]; exact BlkIs.new _ _ _)
      have hCE : Below WC.heap.size WC WE := hbD.trans (hDE.mono hbD.size)
      have KW := Lib.hid (show ∀ W, Below WE.heap.size WE W → W.cell? ⟨G, 0, none⟩ = some (.string pre) ∧ W.cell? ⟨G, 1, none⟩ = some (.int .i64 cnt) ∧ W.cell? ⟨G, 2, none⟩ = some (.string sum) ∧ W.cell? ⟨G, 3, none⟩ = some (.slice oi ni ci) ∧ W.cell? ⟨G, 4, none⟩ = some (.slice ok nk ck) ∧ W.cell? ⟨D, 2, none⟩ = some (.string d.sum) ∧ StrAt W (.slice oi ni ci) ids ∧ StrAt W (.slice ok nk ck) kids ∧ Below wA.heap.size wA W from fun W hb => by
        have hCW := hCE.trans (hb.mono hCE.size)
        have K := KC.out.below hCW KC.out.lt
        have K2 := KD.out.below hb KD.out.lt
        exact ⟨K.cell 0, K.cell 1, K.cell 2, K.cell 3, K.cell 4, K2.cell 2, SIK.out.1.later hCW, SIK.out.2.later hCW, BC.out.trans (hCW.mono BC.out.size)⟩)
      have HWE := Lib.hid (And.intro hWE hD)
      obtain ⟨dsum, hds⟩ : ∃ s, s = d.sum := ⟨_, rfl⟩
      rw [← hds] at KW
      have HDS := Lib.hid hds
      clear hWE hD hDE hCE hiD hkD hbD LKA KD KC SIK BC hds
      go_upto_region 19 with (fail)
      rw [← HWE.out.1, ← HWE.out.2]
      clear HWE HDS
      obtain ⟨x0, x1, x2, x3, x4, y2, -, -, -⟩ := KW.out WE (Below.refl _ _)
      go_cut [9] from 69 to 88 (fun c9 wx => ∃ cl1 : Bool, c9 = .bool cl1 ∧ Hid ((cl1 = false → cl = false) ∧ Below WE.heap.size WE wx))
      case first =>
        cases cl with
        | true =>
          go_wp2_with fail
          go_meet
          case rel => exact ⟨true, rfl, Lib.hid ⟨fun h => absurd h (by simp), Below.refl _ _⟩⟩
        | false =>
          by_cases he : sum = dsum
          · have z : (sum.toList == dsum.toList) = true := by rw [he]; simp
            have AK := Lib.hid (alike_any _ _ a b pre WE (KE.out WE (KW.out WE (Below.refl _ _)).2.2.2.2.2.2.2.2).2.2.2.1 (KE.out WE (KW.out WE (Below.refl _ _)).2.2.2.2.2.2.2.2).2.2.2.2 (by have := HSA.out.2; omega) (by have := HSB.out.2; omega) (by have := HPF.out.2; omega))
            obtain ⟨r, hr⟩ : ∃ r, r = holds (AL a b pre) := ⟨_, rfl⟩
            rw [← hr] at AK
            clear hr he
            cases r with
            | true =>
              go_wp2_with fail
              refine AK.out.mono ?_
              rintro e wF ⟨rfl, hb⟩
              have HB := Lib.hid hb
              clear AK hb x0 x1 x2 x3 x4 y2
              go_wp2_with fail
              go_meet
              case rel => exact ⟨false, rfl, Lib.hid ⟨fun _ => by simp, HB.out⟩⟩
            | false =>
              go_wp2_with fail
              refine AK.out.mono ?_
              rintro e wF ⟨rfl, hb⟩
              have HB := Lib.hid hb
              clear AK hb x0 x1 x2 x3 x4 y2
              go_wp2_with fail
              go_meet
              case rel => exact ⟨true, rfl, Lib.hid ⟨fun h => absurd h (by simp), HB.out⟩⟩
          · have z := ne_list he
            have z' : ¬ sum.toList = dsum.toList := by simpa using z
            clear he
            go_wp2_with fail
            go_meet
            case rel => exact ⟨false, rfl, Lib.hid ⟨fun _ => by simp, Below.refl _ _⟩⟩
      case rest =>
        obtain ⟨cl1, rfl, HX1⟩ := hcut
        have HKZ := Lib.hid (show nk = 0 ∨ (nk = 16 ∧ pre.size < 64) from by
          by_cases h8 : (belowL b pre).length ≤ 8
          · left
            have := (showC_few h8).2.1
            rw [← HC.out] at this
            rw [HNN.out.2, show kids = [] from this]
            rfl
          · right
            have hz := many_short HSB.out.1 HPF.out.1 h8
            have := (showC_many HSB.out.1 hz h8).2.1
            rw [← HC.out] at this
            exact ⟨HNN.out.2.trans this, hz⟩)
        clear x0 x1 x2 x3 x4 y2
        go_wp2_with fail
        go_loopw [9, 15] (fun c9 c15 wr => ∃ (cl2 : Bool) (j : Nat), c9 = .bool cl2 ∧ c15 = .int .i64 (j : Int) ∧ j ≤ nk ∧ Hid (Below WE.heap.size WE wr ∧ (cl2 = false → cl = false ∧ ∀ i, i < j → KP a b pre kids i))) (fun _ c _ => ((nk : Int) - intOf c).toNat)
        case atStart => exact ⟨cl1, 0, rfl, rfl, by omega, Lib.hid ⟨HX1.out.2, fun h => ⟨HX1.out.1 h, fun i hi => by omega⟩⟩⟩
        case round =>
          obtain ⟨cl2, j, rfl, rfl, hj, HJ⟩ := hrel
          obtain ⟨x0, x1, x2, x3, x4, y2, -, hsk, -⟩ := KW.out wr HJ.out.1
          rcases Nat.lt_or_ge j nk with h3 | h3
          · obtain ⟨bk, fk, hok, hlk, hck⟩ := strAt_at hsk (by omega)
            subst hok
            have k1 : (j : Int) < nk := by omega
            have kw : IntKind.i64.wrap ((j : Int) + 1) = ((j + 1 : Nat) : Int) := IntWalk.i64_in _ (by rcases HKZ.out with h | h <;> omega)
            have ku : IntKind.u8.wrap (j : Int) = (j : Int) := IntWalk.u8_in _ (by rcases HKZ.out with h | h <;> omega)
            have hj16 : j < 16 := by rcases HKZ.out with h | h <;> omega
            have hp64 : pre.size < 64 := by rcases HKZ.out with h | h <;> omega
            have hc0 := hck j h3
            have HCJ := Lib.hid (show ∀ W, Below wr.heap.size wr W → W.cell? ⟨bk, fk + j, none⟩ = some (.string kids[j]!) from fun W hb => by rw [hb.cell hlk]; exact hc0)
            obtain ⟨pd, hpd⟩ : ∃ q, q = ext pre j := ⟨_, rfl⟩
            have HJJ := Lib.hid (And.intro hj16 (And.intro hp64 (And.intro hpd (And.intro h3 (And.intro k1 kw)))))
            clear hck hc0 hlk hsk
            go_upto_region 23 with (fail)
            obtain ⟨Z31, hZ31⟩ : ∃ Z : ByteArray, Z = ⟨(List.replicate 31 (0 : UInt8)).toArray⟩ := ⟨_, rfl⟩
            obtain ⟨I1, hI1⟩ : ∃ Z : ByteArray, Z = ⟨#[UInt8.ofNat j]⟩ := ⟨_, rfl⟩
            obtain ⟨Z32, hZ32⟩ : ∃ Z : ByteArray, Z = Z31 ++ I1 := ⟨_, rfl⟩
            obtain ⟨Hq, hHq⟩ : ∃ Z : ByteArray, Z = hexS Z32 := ⟨_, rfl⟩
            obtain ⟨Sd, hSd⟩ : ∃ Z : ByteArray, Z = ⟨#[sgn j]⟩ := ⟨_, rfl⟩
            have z1 : Z31.size = 31 := by rw [hZ31]; simp [ByteArray.size]
            have z2 : I1.size = 1 := by rw [hI1]; rfl
            have z3 : Z32.size = 32 := by rw [hZ32, ByteArray.size_append, z1, z2]
            have z4 : Hq.size = 64 := by rw [hHq]; simp [hexS, ByteArray.size, hexL_length]
            have z5 : Sd.size = 1 := by rw [hSd]; rfl
            have q1 : Hq.extract 63 64 = Sd := by rw [hHq, hZ32, hZ31, hI1, hSd]; exact sign_of (by simp) hj16
            have q2 : pre ++ Sd = pd := by rw [hpd, hSd]; rfl
            have q3 : ¬ (9223372036854775807 < Z31.size + I1.size) := by omega
            have q4 : ¬ (9223372036854775807 < pre.size + Sd.size) := by omega
            have q5 := hZ32.symm
            have q6 : pre.size ≤ 9223372036854775806 := by omega
            have q7 : ¬ (9223372036854775807 < pre.size + 1) := by omega
            have HX2 := Lib.hid (fun W => hex_any Z32 z3 W)
            rw [← hHq] at HX2
            have ZR31 := Lib.hid (fun W b hb => zeros_text W b 31 hb (by decide))
            rw [← hZ31] at ZR31
            have TX1 := Lib.hid (fun W b hb => byte_text W b j (by omega) hb)
            rw [← hI1] at TX1
            clear hZ31 hI1 hZ32 hHq hSd z3 k1 kw h3 x0 x1 x2 x3 x4 y2 hpd hj16 hp64
            refine wp_region_via (S := fun _ => True) 4 #[true, true, true, true, true, true, true, true, false, false, false, false] (fun A x y z u v => ((((((((A.put (some 95) (.string pre)).put (some 98) (.int .i64 (j : Int))).put (some 99) (.int .u8 (j : Int))).put (some 96) (.slice (some ⟨x, 0, none⟩) 31 31)).put (some 97) (.string Z31)).put (some 100) (.slice (some ⟨y, 0, none⟩) 1 1)).put (some 101) (.string I1)).put (some 102) (.string Z32))) (fun x y z u v W => Below wr.heap.size wr W) ?_ (fun S22 => ?_)
            · intro x y z u v W hC
              have hb := hC
              have hHeld : True := trivial
              simp only [Act.put, List.getElem_toArray, List.getElem_cons_zero, List.getElem_cons_succ, List.setIfInBounds_toArray, List.set_cons_zero, List.set_cons_succ]
              refine wpAnyH_ready (rs := [8]) (by kernel_rfl) (by simp) ?_
              refine (AllReadyH.cons rfl (fun K hK => ?_) AllReadyH.nil)
              go_simp
              go_wp2_with (
                go_at_call 19
                refine (HX2.out W).mono ?_
                rintro e w6 ⟨rfl, hb1⟩)
              refine hK.out _ _ trivial (fun hHeld => ?_)
              clear hK K
              refine wpAnyH_take (i := 9) (v := .string Sd) rfl (by kernel_rfl) (by kernel_rfl) (by kernel_rfl) (fun _ _ _ h => h) (Or.inl ⟨by rfl, fun w hSw => ?_⟩) (by assumption) ?_
              · go_simp
              simp only [Act.put, List.getElem_toArray, List.getElem_cons_zero, List.getElem_cons_succ, List.setIfInBounds_toArray, List.set_cons_zero, List.set_cons_succ]
              refine wpAnyH_take (i := 10) (v := .string pd) rfl (by kernel_rfl) (by kernel_rfl) (by kernel_rfl) (fun _ _ _ h => h) (Or.inl ⟨by rfl, fun w hSw => ?_⟩) (by assumption) ?_
              · go_simp
              simp only [Act.put, List.getElem_toArray, List.getElem_cons_zero, List.getElem_cons_succ, List.setIfInBounds_toArray, List.set_cons_zero, List.set_cons_succ]
              refine wpAnyH_take (i := 11) (v := .string pd) rfl (by kernel_rfl) (by kernel_rfl) (by kernel_rfl) (fun _ _ _ h => h) (Or.inl ⟨by rfl, fun w hSw => ?_⟩) (by assumption) ?_
              · go_simp
              simp only [Act.put, List.getElem_toArray, List.getElem_cons_zero, List.getElem_cons_succ, List.setIfInBounds_toArray, List.set_cons_zero, List.set_cons_succ]
              refine wpAnyH_done (by kernel_rfl) ?_ _
              clear hHeld z1 z2 z4 z5 q1 q2 q3 q4 q5 q6 q7 HX2 ZR31 TX1
              have B6 := Lib.hid (hb.trans (hb1.mono hb.size))
              have BE6 := Lib.hid (HJ.out.1.trans (B6.out.mono HJ.out.1.size))
              clear hb hb1
              have LX := Lib.hid (look_any _ a pd w6 (KE.out w6 (KW.out w6 BE6.out).2.2.2.2.2.2.2.2).2.2.2.1 (by have := HSA.out.2; omega) (by rw [HJJ.out.2.2.1, ext_size]; have := HJJ.out.2.1; omega))
              unfold LookOut at LX
              obtain ⟨x9, hx⟩ : ∃ x, x = lookC a pd := ⟨_, rfl⟩
              obtain ⟨ex, hex⟩ : ∃ x, x = lookE a pd := ⟨_, rfl⟩
              have hxs : x9.sum = mineS a pd := by
                rw [hx, HJJ.out.2.2.1, (look_ext HSA.out.1 HPF.out.1 HJJ.out.2.1 HJJ.out.1).1, cellC_sum]
                rfl
              rw [← hx, ← hex] at LX
              have HXS := Lib.hid hxs
              clear hx hex hxs
              go_wp2_with fail
              refine LX.out.mono ?_
              rintro e w7 ⟨v9, rfl, ⟨vi2, vk2, hv, hi7, hk7⟩, hb7⟩
              subst hv
              unfold aggC
              obtain ⟨oi2, ci2, rfl, -, -, -⟩ := id hi7
              obtain ⟨ok2, ck2, rfl, -, -, -⟩ := id hk7
              obtain ⟨X, hX⟩ : ∃ G, G = w7.heap.size := ⟨_, rfl⟩
              obtain ⟨W8, hW8⟩ : ∃ W8, W8 = w7.alloc (.cells #[.string x9.pre, .int .i64 x9.cnt, .string x9.sum, .slice oi2 x9.ids.length ci2, .slice ok2 x9.kids.length ck2] 25) := ⟨_, rfl⟩
              have h78 : Below w7.heap.size w7 W8 := by rw [hW8]; exact (Below.refl _ _).alloc (Nat.le_refl _) _
              have K8 := Lib.hid (show BlkIs W8 X 25 #[.string x9.pre, .int .i64 x9.cnt, .string x9.sum, .slice oi2 x9.ids.length ci2, .slice ok2 x9.kids.length ck2] by rw [hW8, hX]; exact BlkIs.new _ _ _)
              have B8 := Lib.hid (B6.out.trans ((hb7.trans (h78.mono hb7.size)).mono B6.out.size))
              have BE8 := Lib.hid (HJ.out.1.trans (B8.out.mono HJ.out.1.size))
              have HW8 := Lib.hid (And.intro hW8 hX)
              clear hi7 hk7 hb7 hW8 hX h78 LX
              go_upto_region 25 with (fail)
              rw [← HW8.out.1, ← HW8.out.2]
              clear HW8 B6 BE6
              obtain ⟨xs, hxs⟩ : ∃ s, s = x9.sum := ⟨_, rfl⟩
              obtain ⟨kj, hkj⟩ : ∃ s, s = kids[j]! := ⟨_, rfl⟩
              have x2 : ∀ Z : LaterOf W8, Z.w.cell? ⟨X, 2, none⟩ = some (.string xs) := fun Z => by rw [hxs]; exact (K8.out.below Z.h K8.out.lt).cell 2
              have x4 : ∀ Z : LaterOf W8, Z.w.cell? ⟨G, 4, none⟩ = some (.slice (some ⟨bk, fk, none⟩) nk ck) := fun Z => (KW.out Z.w (BE8.out.trans (Z.h.mono BE8.out.size))).2.2.2.2.1
              have xk : ∀ Z : LaterOf W8, Z.w.cell? ⟨bk, fk + j, none⟩ = some (.string kj) := fun Z => by rw [hkj]; exact HCJ.out Z.w (B8.out.trans (Z.h.mono B8.out.size))
              have AX := Lib.hid (fun Z : LaterOf W8 => alike_any _ _ a b pd Z.w (KE.out Z.w (KW.out Z.w (BE8.out.trans (Z.h.mono BE8.out.size))).2.2.2.2.2.2.2.2).2.2.2.1 (KE.out Z.w (KW.out Z.w (BE8.out.trans (Z.h.mono BE8.out.size))).2.2.2.2.2.2.2.2).2.2.2.2 (by have := HSA.out.2; omega) (by have := HSB.out.2; omega) (by rw [HJJ.out.2.2.1, ext_size]; have := HJJ.out.2.1; omega))
              have AN := Lib.hid (fun Z : LaterOf W8 => alike_any (.slice none 0 0) _ [] b pd Z.w (strAt_nil _) (KE.out Z.w (KW.out Z.w (BE8.out.trans (Z.h.mono BE8.out.size))).2.2.2.2.2.2.2.2).2.2.2.2 (by simp) (by have := HSB.out.2; omega) (by rw [HJJ.out.2.2.1, ext_size]; have := HJJ.out.2.1; omega))
              have SN := Lib.hid (fun Z : LaterOf W8 => sha_none Z.w)
              obtain ⟨r1, hr1⟩ : ∃ r, r = holds (AL a b pd) := ⟨_, rfl⟩
              obtain ⟨r2, hr2⟩ : ∃ r, r = holds (AL [] b pd) := ⟨_, rfl⟩
              obtain ⟨Y, hY⟩ : ∃ Y, Y = leafS [] := ⟨_, rfl⟩
              rw [← hr1] at AX
              rw [← hr2] at AN
              rw [← hY] at SN
              have HR := Lib.hid (And.intro (hxs.trans HXS.out) (And.intro hkj (And.intro hr1 (And.intro hr2 hY))))
              have k1 := HJJ.out.2.2.2.2.1
              have kw := HJJ.out.2.2.2.2.2
              clear hxs hkj hr1 hr2 hY HXS K8
              cases cl2 with
              | true =>
                refine wp_region_all (fun w' => ∃ z : LaterOf W8, w' = z.w) (by kernel_rfl) (by kernel_rfl) ⟨LaterOf.start W8, rfl⟩ ?_
                repeat (go_big_quiet_step (first | with_reducible exact LaterOf.call _ (AX.out _) | with_reducible exact LaterOf.call _ (AN.out _) | exact LaterOf.call _ (SN.out _)))
                refine wpQuiet_nil ?_
                intro w12 hw12
                obtain ⟨Z, rfl⟩ := hw12
                clear x2 x4 xk AX AN SN
                go_wp2_with fail
                refine ⟨⟨true, j + 1, rfl, by simp, by have := HJJ.out.2.2.2.1; omega, Lib.hid ⟨BE8.out.trans (Z.h.mono BE8.out.size), kp_step HJ.out.2 fun h => absurd h (by simp)⟩⟩, ?_⟩
                simp [intOf]
                have := HJJ.out.2.2.2.1
                omega
              | false =>
                by_cases e1 : xs = kj
                · have z1 : (xs.toList == kj.toList) = true := by rw [e1]; simp
                  have E1 := Lib.hid e1
                  clear e1
                  cases r1 with
                  | false =>
                    refine wp_region_all (fun w' => ∃ z : LaterOf W8, w' = z.w) (by kernel_rfl) (by kernel_rfl) ⟨LaterOf.start W8, rfl⟩ ?_
                    repeat (go_big_quiet_step (first | with_reducible exact LaterOf.call _ (AX.out _) | with_reducible exact LaterOf.call _ (AN.out _) | exact LaterOf.call _ (SN.out _)))
                    refine wpQuiet_nil ?_
                    intro w12 hw12
                    obtain ⟨Z, rfl⟩ := hw12
                    clear x2 x4 xk AX AN SN
                    go_wp2_with fail
                    refine ⟨⟨true, j + 1, rfl, by simp, by have := HJJ.out.2.2.2.1; omega, Lib.hid ⟨BE8.out.trans (Z.h.mono BE8.out.size), kp_step HJ.out.2 fun h => absurd h (by simp)⟩⟩, ?_⟩
                    simp [intOf]
                    have := HJJ.out.2.2.2.1
                    omega
                  | true =>
                    by_cases e2 : kj = Y
                    · have z2 : (kj.toList == Y.toList) = true := by rw [e2]; simp
                      have E2 := Lib.hid e2
                      clear e2
                      cases r2 with
                      | true =>
                        refine wp_region_all (fun w' => ∃ z : LaterOf W8, w' = z.w) (by kernel_rfl) (by kernel_rfl) ⟨LaterOf.start W8, rfl⟩ ?_
                        repeat (go_big_quiet_step (first | with_reducible exact LaterOf.call _ (AX.out _) | with_reducible exact LaterOf.call _ (AN.out _) | exact LaterOf.call _ (SN.out _)))
                        refine wpQuiet_nil ?_
                        intro w12 hw12
                        obtain ⟨Z, rfl⟩ := hw12
                        clear x2 x4 xk AX AN SN
                        go_wp2_with fail
                        refine ⟨⟨false, j + 1, rfl, by simp, by have := HJJ.out.2.2.2.1; omega, Lib.hid ⟨BE8.out.trans (Z.h.mono BE8.out.size), kp_step HJ.out.2 fun h => ⟨rfl, fun _ => by rw [← HJJ.out.2.2.1]; exact holds_iff.1 HR.out.2.2.1.symm, fun _ => by rw [← HJJ.out.2.2.1]; exact holds_iff.1 HR.out.2.2.2.1.symm⟩⟩⟩, ?_⟩
                        simp [intOf]
                        have := HJJ.out.2.2.2.1
                        omega
                      | false =>
                        refine wp_region_all (fun w' => ∃ z : LaterOf W8, w' = z.w) (by kernel_rfl) (by kernel_rfl) ⟨LaterOf.start W8, rfl⟩ ?_
                        repeat (go_big_quiet_step (first | with_reducible exact LaterOf.call _ (AX.out _) | with_reducible exact LaterOf.call _ (AN.out _) | exact LaterOf.call _ (SN.out _)))
                        refine wpQuiet_nil ?_
                        intro w12 hw12
                        obtain ⟨Z, rfl⟩ := hw12
                        clear x2 x4 xk AX AN SN
                        go_wp2_with fail
                        refine ⟨⟨true, j + 1, rfl, by simp, by have := HJJ.out.2.2.2.1; omega, Lib.hid ⟨BE8.out.trans (Z.h.mono BE8.out.size), kp_step HJ.out.2 fun h => absurd h (by simp)⟩⟩, ?_⟩
                        simp [intOf]
                        have := HJJ.out.2.2.2.1
                        omega
                    · have z0 := ne_list e2
                      have z2 : (kj.toList == Y.toList) = false := z0
                      have E2 := Lib.hid e2
                      clear e2 z0
                      refine wp_region_all (fun w' => ∃ z : LaterOf W8, w' = z.w) (by kernel_rfl) (by kernel_rfl) ⟨LaterOf.start W8, rfl⟩ ?_
                      repeat (go_big_quiet_step (first | with_reducible exact LaterOf.call _ (AX.out _) | with_reducible exact LaterOf.call _ (AN.out _) | exact LaterOf.call _ (SN.out _)))
                      refine wpQuiet_nil ?_
                      intro w12 hw12
                      obtain ⟨Z, rfl⟩ := hw12
                      clear x2 x4 xk AX AN SN
                      go_wp2_with fail
                      refine ⟨⟨false, j + 1, rfl, by simp, by have := HJJ.out.2.2.2.1; omega, Lib.hid ⟨BE8.out.trans (Z.h.mono BE8.out.size), kp_step HJ.out.2 fun h => ⟨rfl, fun _ => by rw [← HJJ.out.2.2.1]; exact holds_iff.1 HR.out.2.2.1.symm, fun h => absurd (by rw [HR.out.2.1, HR.out.2.2.2.2]; exact h) E2.out⟩⟩⟩, ?_⟩
                      simp [intOf]
                      have := HJJ.out.2.2.2.1
                      omega
                · have z0 := ne_list e1
                  have z1 : (xs.toList == kj.toList) = false := z0
                  have E1 := Lib.hid e1
                  clear e1 z0
                  by_cases e2 : kj = Y
                  · have z2 : (kj.toList == Y.toList) = true := by rw [e2]; simp
                    have E2 := Lib.hid e2
                    clear e2
                    cases r2 with
                    | true =>
                      refine wp_region_all (fun w' => ∃ z : LaterOf W8, w' = z.w) (by kernel_rfl) (by kernel_rfl) ⟨LaterOf.start W8, rfl⟩ ?_
                      repeat (go_big_quiet_step (first | with_reducible exact LaterOf.call _ (AX.out _) | with_reducible exact LaterOf.call _ (AN.out _) | exact LaterOf.call _ (SN.out _)))
                      refine wpQuiet_nil ?_
                      intro w12 hw12
                      obtain ⟨Z, rfl⟩ := hw12
                      clear x2 x4 xk AX AN SN
                      go_wp2_with fail
                      refine ⟨⟨false, j + 1, rfl, by simp, by have := HJJ.out.2.2.2.1; omega, Lib.hid ⟨BE8.out.trans (Z.h.mono BE8.out.size), kp_step HJ.out.2 fun h => ⟨rfl, fun h => absurd (by rw [HR.out.1, HR.out.2.1, HJJ.out.2.2.1]; exact h) E1.out, fun _ => by rw [← HJJ.out.2.2.1]; exact holds_iff.1 HR.out.2.2.2.1.symm⟩⟩⟩, ?_⟩
                      simp [intOf]
                      have := HJJ.out.2.2.2.1
                      omega
                    | false =>
                      refine wp_region_all (fun w' => ∃ z : LaterOf W8, w' = z.w) (by kernel_rfl) (by kernel_rfl) ⟨LaterOf.start W8, rfl⟩ ?_
                      repeat (go_big_quiet_step (first | with_reducible exact LaterOf.call _ (AX.out _) | with_reducible exact LaterOf.call _ (AN.out _) | exact LaterOf.call _ (SN.out _)))
                      refine wpQuiet_nil ?_
                      intro w12 hw12
                      obtain ⟨Z, rfl⟩ := hw12
                      clear x2 x4 xk AX AN SN
                      go_wp2_with fail
                      refine ⟨⟨true, j + 1, rfl, by simp, by have := HJJ.out.2.2.2.1; omega, Lib.hid ⟨BE8.out.trans (Z.h.mono BE8.out.size), kp_step HJ.out.2 fun h => absurd h (by simp)⟩⟩, ?_⟩
                      simp [intOf]
                      have := HJJ.out.2.2.2.1
                      omega
                  · have z0 := ne_list e2
                    have z2 : (kj.toList == Y.toList) = false := z0
                    have E2 := Lib.hid e2
                    clear e2 z0
                    refine wp_region_all (fun w' => ∃ z : LaterOf W8, w' = z.w) (by kernel_rfl) (by kernel_rfl) ⟨LaterOf.start W8, rfl⟩ ?_
                    repeat (go_big_quiet_step (first | with_reducible exact LaterOf.call _ (AX.out _) | with_reducible exact LaterOf.call _ (AN.out _) | exact LaterOf.call _ (SN.out _)))
                    refine wpQuiet_nil ?_
                    intro w12 hw12
                    obtain ⟨Z, rfl⟩ := hw12
                    clear x2 x4 xk AX AN SN
                    go_wp2_with fail
                    refine ⟨⟨false, j + 1, rfl, by simp, by have := HJJ.out.2.2.2.1; omega, Lib.hid ⟨BE8.out.trans (Z.h.mono BE8.out.size), kp_step HJ.out.2 fun h => ⟨rfl, fun h => absurd (by rw [HR.out.1, HR.out.2.1, HJJ.out.2.2.1]; exact h) E1.out, fun h => absurd (by rw [HR.out.2.1, HR.out.2.2.2.2]; exact h) E2.out⟩⟩⟩, ?_⟩
                    simp [intOf]
                    have := HJJ.out.2.2.2.1
                    omega
            simp only [Act.put, List.setIfInBounds_toArray, List.set_cons_zero, List.set_cons_succ] at S22
            have S22 := Lib.hid S22
            refine wp_region_via (S := fun _ => True) 6 #[true, true, false, true, true, true, true, false, false, false, false, false] (fun A x y z u v => ((((((A.put (some 95) (.string pre)).put (some 98) (.int .i64 (j : Int))).put (some 99) (.int .u8 (j : Int))).put (some 96) (.slice (some ⟨x, 0, none⟩) 31 31)).put (some 100) (.slice (some ⟨y, 0, none⟩) 1 1)).put (some 101) (.string I1))) (fun x y z u v W => Below wr.heap.size wr W ∧ BlkIs W x 5 (Array.replicate 31 (.int .u8 0))) ?_ (fun S12 => ?_)
            · intro x y z u v W hC
              obtain ⟨hb, hx⟩ := hC
              have hHeld : True := trivial
              simp only [Act.put, List.getElem_toArray, List.getElem_cons_zero, List.getElem_cons_succ, List.setIfInBounds_toArray, List.set_cons_zero, List.set_cons_succ]
              refine wpAnyH_ready (rs := [2]) (by kernel_rfl) (by simp) ?_
              refine (AllReadyH.cons rfl (fun K hK => ?_) AllReadyH.nil)
              · have CV := ZR31.out W x hx
                go_simp
                refine hK.out _ _ trivial (fun hHeld => ?_)
                clear hK K
                refine wpAnyH_take (i := 7) (v := .string Z32) rfl (by kernel_rfl) (by kernel_rfl) (by kernel_rfl) (fun _ _ _ h => h) (Or.inl ⟨by rfl, fun w hSw => ?_⟩) (by assumption) ?_
                · go_simp
                simp only [Act.put, List.getElem_toArray, List.getElem_cons_zero, List.getElem_cons_succ, List.setIfInBounds_toArray, List.set_cons_zero, List.set_cons_succ]
                exact wpAnyH_cast (by kernel_rfl) (by kernel_rfl) (S22.out x y z u v _ (hb))
            simp only [Act.put, List.setIfInBounds_toArray, List.set_cons_zero, List.set_cons_succ] at S12
            have S12 := Lib.hid S12
            refine wp_region_via (S := fun _ => True) 6 #[true, true, true, true, true, true, false, false, false, false, false, false] (fun A x y z u v => ((((((A.put (some 95) (.string pre)).put (some 98) (.int .i64 (j : Int))).put (some 99) (.int .u8 (j : Int))).put (some 96) (.slice (some ⟨x, 0, none⟩) 31 31)).put (some 97) (.string Z31)).put (some 100) (.slice (some ⟨y, 0, none⟩) 1 1))) (fun x y z u v W => Below wr.heap.size wr W ∧ BlkIs W y 5 #[.int .u8 (j : Int)]) ?_ (fun S21 => ?_)
            · intro x y z u v W hC
              obtain ⟨hb, hy⟩ := hC
              have hHeld : True := trivial
              simp only [Act.put, List.getElem_toArray, List.getElem_cons_zero, List.getElem_cons_succ, List.setIfInBounds_toArray, List.set_cons_zero, List.set_cons_succ]
              refine wpAnyH_ready (rs := [6]) (by kernel_rfl) (by simp) ?_
              refine (AllReadyH.cons rfl (fun K hK => ?_) AllReadyH.nil)
              · have CV := TX1.out W y hy
                go_simp
                refine hK.out _ _ trivial (fun hHeld => ?_)
                clear hK K
                refine wpAnyH_take (i := 7) (v := .string Z32) rfl (by kernel_rfl) (by kernel_rfl) (by kernel_rfl) (fun _ _ _ h => h) (Or.inl ⟨by rfl, fun w hSw => ?_⟩) (by assumption) ?_
                · go_simp
                simp only [Act.put, List.getElem_toArray, List.getElem_cons_zero, List.getElem_cons_succ, List.setIfInBounds_toArray, List.set_cons_zero, List.set_cons_succ]
                exact wpAnyH_cast (by kernel_rfl) (by kernel_rfl) (S22.out x y z u v _ (hb))
            simp only [Act.put, List.setIfInBounds_toArray, List.set_cons_zero, List.set_cons_succ] at S21
            have S21 := Lib.hid S21
            refine wp_region_via (S := fun _ => True) 7 #[true, false, false, true, true, true, true, false, false, false, false, false] (fun A x y z u v => (((((A.put (some 95) (.string pre)).put (some 98) (.int .i64 (j : Int))).put (some 99) (.int .u8 (j : Int))).put (some 100) (.slice (some ⟨y, 0, none⟩) 1 1)).put (some 101) (.string I1))) (fun x y z u v W => Below wr.heap.size wr W) ?_ (fun S02 => ?_)
            · intro x y z u v W hC
              have hb := hC
              have hHeld : True := trivial
              simp only [Act.put, List.getElem_toArray, List.getElem_cons_zero, List.getElem_cons_succ, List.setIfInBounds_toArray, List.set_cons_zero, List.set_cons_succ]
              refine wpAnyH_ready (rs := [1]) (by kernel_rfl) (by simp) ?_
              refine (AllReadyH.cons rfl (fun K hK => ?_) AllReadyH.nil)
              · have MK := mk_31
                go_simp
                refine hK.out _ _ trivial (fun hHeld => ?_)
                exact wpAnyH_cast (by kernel_rfl) (by kernel_rfl) (S12.out W.heap.size y z u v _ ⟨hb.alloc hb.size _, BlkIs.new _ _ _⟩)
            simp only [Act.put, List.setIfInBounds_toArray, List.set_cons_zero, List.set_cons_succ] at S02
            have S02 := Lib.hid S02
            refine wp_region_via (S := fun _ => True) 7 #[true, true, false, true, true, true, false, false, false, false, false, false] (fun A x y z u v => (((((A.put (some 95) (.string pre)).put (some 98) (.int .i64 (j : Int))).put (some 99) (.int .u8 (j : Int))).put (some 96) (.slice (some ⟨x, 0, none⟩) 31 31)).put (some 100) (.slice (some ⟨y, 0, none⟩) 1 1))) (fun x y z u v W => Below wr.heap.size wr W ∧ BlkIs W x 5 (Array.replicate 31 (.int .u8 0)) ∧ BlkIs W y 5 #[.int .u8 (j : Int)]) ?_ (fun S11 => ?_)
            · intro x y z u v W hC
              obtain ⟨hb, hx, hy⟩ := hC
              have hHeld : True := trivial
              simp only [Act.put, List.getElem_toArray, List.getElem_cons_zero, List.getElem_cons_succ, List.setIfInBounds_toArray, List.set_cons_zero, List.set_cons_succ]
              refine wpAnyH_ready (rs := [2, 6]) (by kernel_rfl) (by simp) ?_
              refine (AllReadyH.cons rfl (fun K hK => ?_) (AllReadyH.cons rfl (fun K hK => ?_) AllReadyH.nil))
              · have CV := ZR31.out W x hx
                go_simp
                refine hK.out _ _ trivial (fun hHeld => ?_)
                exact wpAnyH_cast (by kernel_rfl) (by kernel_rfl) (S21.out x y z u v _ ⟨hb, hy.below (Below.refl _ _) hy.lt⟩)
              · have CV := TX1.out W y hy
                go_simp
                refine hK.out _ _ trivial (fun hHeld => ?_)
                exact wpAnyH_cast (by kernel_rfl) (by kernel_rfl) (S12.out x y z u v _ ⟨hb, hx.below (Below.refl _ _) hx.lt⟩)
            simp only [Act.put, List.setIfInBounds_toArray, List.set_cons_zero, List.set_cons_succ] at S11
            have S11 := Lib.hid S11
            refine wp_region_via (S := fun _ => True) 7 #[true, true, true, true, true, false, false, false, false, false, false, false] (fun A x y z u v => (((((A.put (some 95) (.string pre)).put (some 98) (.int .i64 (j : Int))).put (some 99) (.int .u8 (j : Int))).put (some 96) (.slice (some ⟨x, 0, none⟩) 31 31)).put (some 97) (.string Z31))) (fun x y z u v W => Below wr.heap.size wr W) ?_ (fun S20 => ?_)
            · intro x y z u v W hC
              have hb := hC
              have hHeld : True := trivial
              simp only [Act.put, List.getElem_toArray, List.getElem_cons_zero, List.getElem_cons_succ, List.setIfInBounds_toArray, List.set_cons_zero, List.set_cons_succ]
              refine wpAnyH_ready (rs := [5]) (by kernel_rfl) (by simp) ?_
              refine (AllReadyH.cons rfl (fun K hK => ?_) AllReadyH.nil)
              · go_simp
                refine hK.out _ _ trivial (fun hHeld => ?_)
                exact wpAnyH_cast (by kernel_rfl) (by kernel_rfl) (S21.out x W.heap.size z u v _ ⟨hb.alloc hb.size _, BlkIs.new _ _ _⟩)
            simp only [Act.put, List.setIfInBounds_toArray, List.set_cons_zero, List.set_cons_succ] at S20
            have S20 := Lib.hid S20
            refine wp_region_via (S := fun _ => True) 8 #[true, false, false, true, true, true, false, false, false, false, false, false] (fun A x y z u v => ((((A.put (some 95) (.string pre)).put (some 98) (.int .i64 (j : Int))).put (some 99) (.int .u8 (j : Int))).put (some 100) (.slice (some ⟨y, 0, none⟩) 1 1))) (fun x y z u v W => Below wr.heap.size wr W ∧ BlkIs W y 5 #[.int .u8 (j : Int)]) ?_ (fun S01 => ?_)
            · intro x y z u v W hC
              obtain ⟨hb, hy⟩ := hC
              have hHeld : True := trivial
              simp only [Act.put, List.getElem_toArray, List.getElem_cons_zero, List.getElem_cons_succ, List.setIfInBounds_toArray, List.set_cons_zero, List.set_cons_succ]
              refine wpAnyH_ready (rs := [1, 6]) (by kernel_rfl) (by simp) ?_
              refine (AllReadyH.cons rfl (fun K hK => ?_) (AllReadyH.cons rfl (fun K hK => ?_) AllReadyH.nil))
              · have MK := mk_31
                go_simp
                refine hK.out _ _ trivial (fun hHeld => ?_)
                exact wpAnyH_cast (by kernel_rfl) (by kernel_rfl) (S11.out W.heap.size y z u v _ ⟨hb.alloc hb.size _, BlkIs.new _ _ _, hy.below ((Below.refl _ _).alloc (Nat.le_refl _) _) hy.lt⟩)
              · have CV := TX1.out W y hy
                go_simp
                refine hK.out _ _ trivial (fun hHeld => ?_)
                exact wpAnyH_cast (by kernel_rfl) (by kernel_rfl) (S02.out x y z u v _ (hb))
            simp only [Act.put, List.setIfInBounds_toArray, List.set_cons_zero, List.set_cons_succ] at S01
            have S01 := Lib.hid S01
            refine wp_region_via (S := fun _ => True) 8 #[true, true, false, true, true, false, false, false, false, false, false, false] (fun A x y z u v => ((((A.put (some 95) (.string pre)).put (some 98) (.int .i64 (j : Int))).put (some 99) (.int .u8 (j : Int))).put (some 96) (.slice (some ⟨x, 0, none⟩) 31 31))) (fun x y z u v W => Below wr.heap.size wr W ∧ BlkIs W x 5 (Array.replicate 31 (.int .u8 0))) ?_ (fun S10 => ?_)
            · intro x y z u v W hC
              obtain ⟨hb, hx⟩ := hC
              have hHeld : True := trivial
              simp only [Act.put, List.getElem_toArray, List.getElem_cons_zero, List.getElem_cons_succ, List.setIfInBounds_toArray, List.set_cons_zero, List.set_cons_succ]
              refine wpAnyH_ready (rs := [2, 5]) (by kernel_rfl) (by simp) ?_
              refine (AllReadyH.cons rfl (fun K hK => ?_) (AllReadyH.cons rfl (fun K hK => ?_) AllReadyH.nil))
              · have CV := ZR31.out W x hx
                go_simp
                refine hK.out _ _ trivial (fun hHeld => ?_)
                exact wpAnyH_cast (by kernel_rfl) (by kernel_rfl) (S20.out x y z u v _ (hb))
              · go_simp
                refine hK.out _ _ trivial (fun hHeld => ?_)
                exact wpAnyH_cast (by kernel_rfl) (by kernel_rfl) (S11.out x W.heap.size z u v _ ⟨hb.alloc hb.size _, hx.below ((Below.refl _ _).alloc (Nat.le_refl _) _) hx.lt, BlkIs.new _ _ _⟩)
            simp only [Act.put, List.setIfInBounds_toArray, List.set_cons_zero, List.set_cons_succ] at S10
            have S10 := Lib.hid S10
            refine wp_region_held_drew (S := fun _ => True) (by kernel_rfl) trivial (fun hHeld => ?_)
            refine wpAnyH_take (i := 0) (v := .string pre) rfl (by kernel_rfl) (by kernel_rfl) (by kernel_rfl) (fun _ _ _ h => h) (Or.inl ⟨by rfl, fun w hSw => ?_⟩) (by assumption) ?_
            · go_simp
            simp only [Act.put, List.getElem_toArray, List.getElem_cons_zero, List.getElem_cons_succ, List.setIfInBounds_toArray, List.set_cons_zero, List.set_cons_succ]
            refine wpAnyH_take (i := 3) (v := .int .i64 (j : Int)) rfl (by kernel_rfl) (by kernel_rfl) (by kernel_rfl) (fun _ _ _ h => h) (Or.inl ⟨by rfl, fun w hSw => ?_⟩) (by assumption) ?_
            · go_simp
            simp only [Act.put, List.getElem_toArray, List.getElem_cons_zero, List.getElem_cons_succ, List.setIfInBounds_toArray, List.set_cons_zero, List.set_cons_succ]
            refine wpAnyH_take (i := 4) (v := .int .u8 (j : Int)) rfl (by kernel_rfl) (by kernel_rfl) (by kernel_rfl) (fun _ _ _ h => h) (Or.inl ⟨by rfl, fun w hSw => ?_⟩) (by assumption) ?_
            · go_simp
            simp only [Act.put, List.getElem_toArray, List.getElem_cons_zero, List.getElem_cons_succ, List.setIfInBounds_toArray, List.set_cons_zero, List.set_cons_succ]
            obtain ⟨W, hW⟩ : ∃ W, W = wr.drew := ⟨_, rfl⟩
            have hb : Below wr.heap.size wr W := by rw [hW]; exact ⟨rfl, rfl, rfl, Nat.le_refl _, fun _ _ => rfl⟩
            rw [← hW]
            clear hW
            obtain ⟨x, hx0⟩ : ∃ x : Nat, x = 0 := ⟨_, rfl⟩
            obtain ⟨y, z, u, v⟩ : Nat × Nat × Value × Value := ⟨0, 0, undef, undef⟩
            refine wpAnyH_ready (rs := [1, 5]) (by kernel_rfl) (by simp) ?_
            refine (AllReadyH.cons rfl (fun K hK => ?_) (AllReadyH.cons rfl (fun K hK => ?_) AllReadyH.nil))
            · have MK := mk_31
              go_simp
              refine hK.out _ _ trivial (fun hHeld => ?_)
              exact wpAnyH_cast (by kernel_rfl) (by kernel_rfl) (S10.out W.heap.size y z u v _ ⟨hb.alloc hb.size _, BlkIs.new _ _ _⟩)
            · go_simp
              refine hK.out _ _ trivial (fun hHeld => ?_)
              exact wpAnyH_cast (by kernel_rfl) (by kernel_rfl) (S01.out x W.heap.size z u v _ ⟨hb.alloc hb.size _, BlkIs.new _ _ _⟩)
          · have k1 : decide ((j : Int) < nk) = false := decide_eq_false (by omega)
            have k2 : ¬ ((j : Int) < nk) := by omega
            obtain rfl : j = nk := by omega
            obtain ⟨wq, hwq⟩ : ∃ w, w = wr := ⟨_, rfl⟩
            rw [← hwq] at HJ x0 x1 x2 x3 x4 ⊢
            clear y2 hsk hwq
            have hke := KE.out wq (KW.out wq HJ.out.1).2.2.2.2.2.2.2.2
            have hkw := KW.out wq HJ.out.1
            have hE := own_drawE HSA.out.1 HSB.out.1 HPF.out.1 (by have := HSB.out.2; omega)
            rw [← HC.out] at hE
            have hids : ids.length ≤ 8 := by
              have := cellC_ids (belowL b pre) pre
              rw [← HC.out] at this
              rw [show ids = _ from this]
              split <;> simp_all
            have hkl : kids.length ≤ 16 := by rw [← HNN.out.2]; rcases HKZ.out with h | h <;> omega
            have DR := Lib.hid (draw_own _ a ⟨pre, cnt, sum, ids, kids⟩ (.slice oi ni ci) (.slice ok j ck) wq hke.2.2.2.1 hkw.2.2.2.2.2.2.1 hkw.2.2.2.2.2.2.2.1 (by have := HSA.out.2; omega) (by show ids.length ≤ 1000000; omega) (by show kids.length ≤ 1000000; omega) (by show (pre.size : Int) ≤ 9223372036854775807; have := HPF.out.2; omega))
            have hLl := drawL_le a ⟨pre, cnt, sum, ids, kids⟩
            have hAl := drawA_le a ⟨pre, cnt, sum, ids, kids⟩
            have hst := fun F' cl' (hF : ∀ x, x ∈ F' ↔ x ∈ F ∨ x ∈ drawL a ⟨pre, cnt, sum, ids, kids⟩) (hcl : cl' = false → cl = false ∧ ∀ i, i < kids.length → KP a b pre kids i) => PInv.step (F' := F') (cl' := cl') HP.out.1 HSA.out.1 HSB.out.1 HSB.out.2 (by rw [← HC.out]; exact hF) (by rw [← HC.out]; exact hcl)
            rw [← HC.out] at hst
            have hln := lacks_nodup (a := a) (p := pre) HSB.out.1
            have hlm := fun x (hx : x ∈ lacksL a (cellC (belowL b pre) pre)) => lacks_mem hx
            rw [← HC.out] at hln hlm
            rw [show lacksL a ⟨pre, cnt, sum, ids, kids⟩ = drawL a ⟨pre, cnt, sum, ids, kids⟩ from by unfold drawL; rw [if_pos hE]] at hln hlm
            unfold DrawOwn at DR
            rw [hE] at DR
            obtain ⟨L, hL⟩ : ∃ L, L = drawL a ⟨pre, cnt, sum, ids, kids⟩ := ⟨_, rfl⟩
            obtain ⟨AA, hAA⟩ : ∃ L, L = drawA a ⟨pre, cnt, sum, ids, kids⟩ := ⟨_, rfl⟩
            rw [← hL] at DR hLl hst hln hlm
            rw [← hAA] at DR hAl hst
            have HST := Lib.hid hst
            have HLN := Lib.hid (And.intro hln hlm)
            have HLL := Lib.hid (And.intro (Nat.le_trans hLl hids) (Nat.le_trans hAl hkl))
            clear hke hkw hE hids hkl hLl hAl hst hln hlm hL hAA
            go_wp2_with fail
            refine DR.out.mono ?_
            rintro e wM ⟨u, v, rfl, hu, hv, hbM⟩
            have hBM : Below WE.heap.size WE wM := HJ.out.1.trans (hbM.mono HJ.out.1.size)
            have hke := KE.out wM (KW.out wM hBM).2.2.2.2.2.2.2.2
            have hNq : N0 ≤ wq.heap.size := by
              have h1 := (KW.out wq HJ.out.1).2.2.2.2.2.2.2.2.size
              have := HN.out.1
              omega
            obtain ⟨ou, cu, rfl, -, -, -⟩ := hu.form
            obtain ⟨ov, cv, rfl, -, -, -⟩ := hv.form
            obtain ⟨nL, hnL⟩ : ∃ n, n = L.length := ⟨_, rfl⟩
            obtain ⟨nA, hnA⟩ : ∃ n, n = AA.length := ⟨_, rfl⟩
            rw [← hnL] at hu ⊢
            rw [← hnA] at hv ⊢
            have ROWS := Lib.hid (show (SlIs wM N0 9 1 (.slice ou nL cu) nL (scells L) ∧ SlIs wM N0 9 1 (.slice ov nA cv) nA (scells AA) ∧ SlIs wM N0 9 1 v8 rl (scells R)) from ⟨hu.mono hNq, hv.mono hNq, hke.1⟩)
            have ST0 := Lib.hid (And.intro hke.2.1 hke.2.2.1)
            have HNL := Lib.hid (And.intro hnL hnA)
            have HNS := Lib.hid (show N0 ≤ wM.heap.size from Nat.le_trans hNq hbM.size)
            have hnL8 : nL ≤ 8 := by rw [hnL]; exact HLL.out.1
            clear DR hu hv hbM hBM hke hNq hnL hnA x0 x1 x2 x3 x4 k1 k2 h3 hj
            go_wp2_with fail
            go_loopw [21] (fun c wr => ∃ (i : Nat) (kv' vv' : Value) (F' : List ByteArray), c = .int .i64 (i : Int) ∧ i ≤ nL ∧ Hid (Set.StrSet wr w3.heap.size g kv' vv' F' ∧ (∀ x, x ∈ F' ↔ x ∈ F ∨ x ∈ L.take i) ∧ F'.length ≤ 8 * k + i ∧ (∀ q, Set.Own_ g kv' vv' q → q < N0 ∨ wM.heap.size ≤ q) ∧ (SlIs wr N0 9 1 (.slice ou nL cu) nL (scells L) ∧ SlIs wr N0 9 1 (.slice ov nA cv) nA (scells AA) ∧ SlIs wr N0 9 1 v8 rl (scells R)) ∧ Below w3.heap.size w3 wr ∧ wM.heap.size ≤ wr.heap.size)) (fun c _ => ((nL : Int) - intOf c).toNat)
            case atStart => exact ⟨0, kv, vv, F, rfl, by omega, Lib.hid ⟨ST0.out.1, fun x => by simp, by have := HP.out.2; omega, fun q hq => Or.inl (HN.out.2.2 q hq), ROWS.out, ST0.out.2, Nat.le_refl _⟩⟩
            case round =>
              obtain ⟨i, kv', vv', F', rfl, hi, HI⟩ := hrel
              rcases Nat.lt_or_ge i nL with h4 | h4
              · have k1 : (i : Int) < nL := by omega
                have kw : IntKind.i64.wrap ((i : Int) + 1) = ((i + 1 : Nat) : Int) := IntWalk.i64_in _ (by omega)
                have hsu := StrAt.of_sl (l := L) (by rw [← HNL.out.1]; exact HI.out.2.2.2.2.1.1)
                obtain ⟨bu, fu, hou, hlu, hcu⟩ := strAt_at hsu (by omega)
                subst hou
                have c0 := hcu i h4
                obtain ⟨x, hx⟩ : ∃ x, x = L[i]! := ⟨_, rfl⟩
                rw [← hx] at c0
                have hiL : i < L.length := by rw [← HNL.out.1]; exact h4
                have hxL : x ∈ L := by rw [hx, getElem!_pos L i hiL]; exact List.getElem_mem hiL
                have hnew : Set.has F' x = false := by
                  refine Set.has_false fun hxF => ?_
                  rcases (HI.out.2.1 x).1 hxF with h5 | h5
                  · have h6 := HP.out.1.out x h5 pre (by simp)
                    rw [(HLN.out.2 x hxL).2.2.1] at h6
                    cases h6
                  · obtain ⟨i', hi', he⟩ := List.getElem_of_mem h5
                    rw [List.length_take] at hi'
                    rw [List.getElem_take] at he
                    have h7 := List.pairwise_iff_getElem.1 HLN.out.1 i' i (by omega) hiL (by omega)
                    rw [hx, getElem!_pos L i hiL] at he
                    exact h7 he
                have htk : L.take (i + 1) = L.take i ++ [x] := by
                  rw [List.take_add_one, List.getElem?_eq_getElem hiL, hx, getElem!_pos L i hiL]
                  rfl
                have AD := Lib.hid (Set.add_string w3.heap.size g kv' vv' F' x wr HI.out.1 (by have := HI.out.2.2.1; have := HKW.out.2; omega))
                unfold Set.StrPut at AD
                rw [hnew] at AD
                have HTK := Lib.hid htk
                clear hsu hcu hx hiL hxL hnew htk hlu
                go_wp2_with fail
                refine AD.out.mono ?_
                rintro e wn ⟨kv2, vv2, rfl, hset, hchg, hown⟩
                have H2 := Lib.hid (show Set.StrSet wn w3.heap.size g kv2 vv2 (Set.ins x F') ∧ (∀ y, y ∈ Set.ins x F' ↔ y ∈ F ∨ y ∈ L.take (i + 1)) ∧ (Set.ins x F').length ≤ 8 * k + (i + 1) ∧ (∀ q, Set.Own_ g kv2 vv2 q → q < N0 ∨ wM.heap.size ≤ q) ∧ (SlIs wn N0 9 1 (.slice (some ⟨bu, fu, none⟩) nL cu) nL (scells L) ∧ SlIs wn N0 9 1 (.slice ov nA cv) nA (scells AA) ∧ SlIs wn N0 9 1 v8 rl (scells R)) ∧ Below w3.heap.size w3 wn ∧ wM.heap.size ≤ wn.heap.size from by
                  obtain ⟨i1, i2, i3, i4, i5, i6, i7⟩ := HI.out
                  refine ⟨hset, fun y => ?_, ?_, fun q hq => ?_, ⟨hchg.sl i5.1 fun q hq hq2 => ?_, hchg.sl i5.2.1 fun q hq hq2 => ?_, hchg.sl i5.2.2 fun q hq hq2 => ?_⟩, i6.trans (hchg.below i6.size fun q hq => (i1.own hq).1), Nat.le_trans i7 hchg.size⟩
                  · rw [HTK.out, Set.mem_ins, i2 y, List.mem_append, List.mem_singleton]
                    constructor
                    · rintro (h | h | h)
                      · exact Or.inr (Or.inr h)
                      · exact Or.inl h
                      · exact Or.inr (Or.inl h)
                    · rintro (h | h | h)
                      · exact Or.inr (Or.inl h)
                      · exact Or.inr (Or.inr h)
                      · exact Or.inl h
                  · by_cases hm : x ∈ F'
                    · rw [Set.ins_of hm]; omega
                    · rw [Set.ins_length hm]; omega
                  · rcases hown q hq with h5 | h5
                    · exact i4 q h5
                    · right; omega
                  · have h5 := ROWS.out.1.lt q hq
                    rcases i4 q hq2 with h6 | h6 <;> omega
                  · have h5 := ROWS.out.2.1.lt q hq
                    rcases i4 q hq2 with h6 | h6 <;> omega
                  · have h5 := ROWS.out.2.2.lt q hq
                    rcases i4 q hq2 with h6 | h6 <;> omega)
                clear AD hset hchg hown c0
                go_wp2_with fail
                refine ⟨⟨i + 1, kv2, vv2, _, by simp, by omega, H2⟩, ?_⟩
                simp [intOf]
                omega
              · have k1 : decide ((i : Int) < nL) = false := decide_eq_false (by omega)
                have k2 : ¬ ((i : Int) < nL) := by omega
                obtain rfl : i = nL := by omega
                have hF : ∀ x, x ∈ F' ↔ x ∈ F ∨ x ∈ L := by
                  have := HI.out.2.1
                  rw [HNL.out.1, List.take_length] at this
                  exact this
                have HF := Lib.hid hF
                have hbs := HI.out.2.2.2.2.2.1.size
                have hbn := HI.out.2.2.2.2.2.2
                have hA16 : nA ≤ 16 := by rw [HNL.out.2]; exact HLL.out.2
                have hrl2 : rl ≤ 10241 := by
                  have := HP.out.1.short
                  rw [List.length_cons] at this
                  have := HRL.out
                  omega
                have kw := HKW.out.1
                clear hF
                go_wp2_with (at_builtin
                             refine wpList_append_sl rfl _ _ _ 22 rfl Set.el_string v8 rl (scells R) rfl HI.out.2.2.2.2.1.2.2 _ nA (scells AA) rfl (SrcIs.own Tryz.underlying22 HI.out.2.2.2.2.1.2.1) (by intro u hu; obtain ⟨z, _, rfl⟩ := List.mem_map.1 hu; rfl) (by unfold maxLen; omega) (by omega) (by have := HNS.out; omega) ?_
                             intro v9 w9 hs1 hg1 hat1
                             have H9 := Lib.hid (And.intro hs1 hg1)
                             clear hs1 hg1 hat1)
                have hN3 := HN.out.2.1
                refine ⟨⟨R ++ AA, F', kv', vv', cl2, k + 1, rfl, by simp, Lib.hid ⟨?_, ?_, ?_, ?_, ?_⟩⟩, ?_⟩
                · have h5 := H9.out.1.mono hN3
                  rw [← Set.scells_app] at h5
                  rw [List.length_append, ← HRL.out, ← HNL.out.2]
                  exact h5
                · refine HI.out.1.chg (Chg.of_grown (S := fun q => v8.ownBlock = some q) H9.out.2 fun q hq => hq) fun q hq he => ?_
                  have h5 := ROWS.out.2.2.lt q he
                  rcases HI.out.2.2.2.1 q hq with h6 | h6 <;> omega
                · have := HI.out.2.2.1
                  omega
                · exact HI.out.2.2.2.2.2.1.grown H9.out.2 hbs fun q hq => by
                    have h5 := ROWS.out.2.2.lt q hq
                    omega
                · exact HST.out F' cl2 HF.out fun e => by
                    obtain ⟨h5, h6⟩ := HJ.out.2 e
                    exact ⟨h5, fun i hi => h6 i (by rw [HNN.out.2]; exact hi)⟩
                · simp [intOf]
                  have := HKW.out.2
                  omega
theorem finds_arg (a0 : Option Addr) (n0 c0 : Nat) (f0 : Nat → List UInt8) (a1 : Option Addr) (n1 c1 : Nat) (f1 : Nat → List UInt8) (w : World) (h0 : B32At w a0 n0 f0) (h1 : B32At w a1 n1 f1) :
    Calls Tryz.prog 7 #[.slice a0 n0 c0, .slice a1 n1 c1] w fun e w' => e = .returned (.bool true) ∧ Below w.heap.size w w' :=
  finds_any a0 a1 n0 c0 n1 c1 f0 f1 w h0 h1
end Go.Proofs.YtjkhmjklmclpoaaGreat.Tr
