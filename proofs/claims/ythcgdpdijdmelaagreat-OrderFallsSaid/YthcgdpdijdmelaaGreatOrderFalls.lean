/- THE LAW OrderFalls, walked: logs fall. Printed by gen_falls.py. (Layer 11.) -/
import Derived.Test.YthcgdpdijdmelaaGreatFallP
import Derived.Test.YthcgdpdijdmelaaGreatOrdG1
import Derived.Test.YthcgdpdijdmelaaGreatOrd18
namespace Go.Proofs.YthcgdpdijdmelaaGreat.Ord
set_option linter.unusedVariables false
set_option linter.unusedSimpArgs false
open Go.RowKit Go.Sort Go.Lib
open Set (Own_)
section
variable {n : Nat} {f : Nat → Fv} {a b : Nat} {M N : List Fv} {w w' : World} {e : Ending}
theorem GLog.one (hg : Grown n f) (ha : a < n) (h : GLog n f a M) (k : GLog n f a N) : M = N := h.same hg (Nat.le_refl n) ha k
theorem log_again (hg : Grown n f) (ha : a < n) (gM : GLog n f a M) (h : LogOutC n f (f a).id w w' e) :
    ∃ (ao : Option Addr) (cap : Nat), e = .returned (.tuple #[.slice ao M.length cap, .int .i64 0]) ∧ Set.StrAt w' (.slice ao M.length cap) (ids M) ∧ Below w.heap.size w w' := by
  obtain ⟨c, L, ao, cap, rfl, ⟨hc1, hc2⟩, hL, hS, hbel⟩ := h
  obtain ⟨rfl, M', rfl, gM'⟩ := hg.log ha hL
  obtain rfl := gM.one hg ha gM'
  have el : (List.map (fun x : Fv => x.id) M).length = M.length := by simp
  rw [el] at hc1 hS ⊢
  refine ⟨ao, cap, rfl, ⟨ao, cap, by rw [ids_length], by rw [ids_length]; exact hc1, hc2, fun hn => ?_⟩, hbel⟩
  rw [ids_length] at hn
  obtain ⟨b, off, h1, h2, h3⟩ := hS.2 hn
  refine ⟨b, off, h1, h2, fun i hi => ?_⟩
  rw [ids_length] at hi
  rw [h3 i hi]
  simp only [ids]
  rw [getElem!_pos (List.map (fun x : Fv => x.id) M) i (by simpa using hi)]
theorem above_again (hg : Grown n f) (ha : a < n) (gM : GLog n f a M) {old : ByteArray} (h : AboveOut n f (f a).id old w w' e) :
    e = .returned (.tuple #[.bool (holds ((f a).id ≠ old ∧ old ∈ ids M)), .int .i64 0]) ∧ Below w.heap.size w w' := by
  obtain ⟨c, L, rfl, hL, hbel⟩ := h
  obtain ⟨rfl, M', rfl, gM'⟩ := hg.log ha hL
  obtain rfl := gM.one hg ha gM'
  exact ⟨rfl, hbel⟩

end
theorem nodup_few {α : Type} [DecidableEq α] : ∀ (l m : List α), (l.Pairwise fun a b => a ≠ b) → (∀ x, x ∈ l → x ∈ m) → l.length ≤ m.length
  | [], m, _, _ => Nat.zero_le _
  | x :: r, m, hn, hs => by
    have hx := hs x (by simp)
    obtain ⟨h1, h2⟩ := List.pairwise_cons.1 hn
    have h3 := nodup_few r (m.erase x) h2 fun y hy => (List.mem_erase_of_ne fun e => h1 y hy e.symm).2 (hs y (by simp [hy]))
    rw [List.length_erase_of_mem hx] at h3
    have h4 := List.length_pos_of_mem hx
    rw [List.length_cons]
    omega
theorem falls_few {n : Nat} {f : Nat → Fv} {a : Nat} {M : List Fv} (hg : Grown n f) (ha : a < n) (h : GLog n f a M) : M.length ≤ n := by
  haveI : DecidableEq Fv := fun a b => Classical.propDecidable _
  have hs := nodup_few M ((List.range n).map f) (h.falls.imp fun h e => by subst e; exact low_irrefl _ h) fun x hx => by
    obtain ⟨i, hi, rfl⟩ := GLog.at_ h ha hx
    exact List.mem_map.2 ⟨i, List.mem_range.2 hi, rfl⟩
  simpa using hs
theorem strAt_bang {w : World} {ao : Option Addr} {cap : Nat} {l : List ByteArray} (h : Set.StrAt w (.slice ao l.length cap) l) (hn : 0 < l.length) : ∃ b off, ao = some ⟨b, off, none⟩ ∧ b < w.heap.size ∧ ∀ i, i < l.length → w.cell? ⟨b, off + i, none⟩ = some (.string l[i]!) := by
  obtain ⟨ao', cap', hv, _, _, h3⟩ := h
  injection hv with e1 e2 e3
  subst e1 e3
  obtain ⟨b, off, ha, hlt, hc⟩ := h3 hn
  exact ⟨b, off, ha, hlt, fun i hi => by rw [hc i hi, getElem!_pos l i hi]⟩
set_option maxRecDepth 100000 in
set_option maxHeartbeats 16000000 in
theorem falls_any (ao : Option Addr) (n cap : Nat) (f : Nat → Iv) (at_ : Int) (w : World) (h : IntssAt w ao n f) :
    Calls Tryz.prog 3 #[.slice ao n cap, .int .i64 at_] w fun e w' => e = .returned (.bool true) ∧ Below w.heap.size w w' := by
  have A := Lib.hid (awake w)
  have HI := Lib.hid h
  clear h
  go_enter Tryz.func3, Tryz.ntmps3
  go_wp2_with fail
  refine A.out.mono ?_
  rintro e w1 ⟨rfl, hb1⟩
  have HB1 := Lib.hid hb1
  have G := Lib.hid (grown_any ao n cap f w1 (HI.out.later hb1))
  clear A hb1 HI
  go_wp2_with fail
  refine G.out.mono ?_
  rintro e w2 ⟨bo, m, cap2, F, rfl, hmc, hF, hG, hb2⟩
  have HB2 := Lib.hid (HB1.out.trans (hb2.mono HB1.out.size))
  have hm40 := hG.few
  have HF := Lib.hid hF
  have HG := Lib.hid hG
  clear hb2 hF hG G
  rcases Nat.eq_zero_or_pos m with m0 | m0
  · subst m0
    go_wp2_with fail
    go_ret
    exact ⟨rfl, HB2.out⟩
  have j0 : decide ((m : Int) = 0) = false := decide_eq_false (by omega)
  have j1 : (m : Int) ≠ 0 := by omega
  have ku : IntKind.u64.wrap (m : Int) = (m : Int) := u64_small (by omega)
  obtain ⟨a, ha, haw⟩ := idx_in at_ m0 hm40
  have j5 : (a : Int) < m := by omega
  obtain ⟨bl, off, hbo, hlt, hcell⟩ := HF.out.2.1 m0
  subst hbo
  obtain ⟨x, hx⟩ : ∃ x, x = F a := ⟨_, rfl⟩
  have ca := hcell a ha
  rw [← hx] at ca
  obtain ⟨ca0, ca1, ca2⟩ := ca
  have hnp : ∀ i, i < m → (F i).np ≤ 1000000 := fun i hi => by have := HG.out.np i hi; omega
  have HC := Lib.hid (show ∀ W, Below w2.heap.size w2 W → ∀ i, i < m → W.cell? ⟨bl, off + i * 3, none⟩ = some (.string (F i).id) ∧ W.cell? ⟨bl, off + i * 3 + 1, none⟩ = some (.int .i64 (F i).h) ∧ W.cell? ⟨bl, off + i * 3 + 2, none⟩ = some (.slice (F i).pa (F i).np (F i).pc) from fun W hw i hi => by
    rw [hw.cell hlt, hw.cell hlt, hw.cell hlt]
    exact hcell i hi)
  have LG := Lib.hid (log_capped (some ⟨bl, off, none⟩) m cap2 F x.id w2 HF.out (by omega) hnp)
  have AB := Lib.hid (fun t W (hw : Below w2.heap.size w2 W) => above_any (some ⟨bl, off, none⟩) m cap2 F x.id t W (HF.out.later hw) (by omega) hnp)
  have HX := Lib.hid (And.intro hx (And.intro ha m0))
  clear hcell hx ha hnp hlt m0
  go_wp2_with fail
  refine LG.out.mono ?_
  rintro e w3 hpost
  have hpost' := hpost
  rw [HX.out.1] at hpost'
  have hgl : ∃ M, GLog m F a M := by
    obtain ⟨c, L, ao, cap, -, -, hL, -, -⟩ := hpost'
    obtain ⟨-, M, -, gM⟩ := HG.out.log HX.out.2.1 hL
    exact ⟨M, gM⟩
  obtain ⟨M, gM⟩ := hgl
  obtain ⟨aoM, capM, rfl, hsM, hb3⟩ := log_again HG.out HX.out.2.1 gM hpost'
  obtain ⟨hM0, hMh⟩ := gM.head HG.out HX.out.2.1
  have hfew : M.length ≤ 40 := by
    haveI : DecidableEq Fv := fun a b => Classical.propDecidable _
    have hs := falls_few HG.out HX.out.2.1 gM
    omega
  have hapt : Apt (ids M) := fun i j hij hj => by
    rw [ids_length] at hj
    rw [ids_at (by omega), ids_at hj]
    exact gM.id_ne HG.out HX.out.2.1 hij hj
  obtain ⟨K, hK⟩ : ∃ K, K = ids M := ⟨_, rfl⟩
  obtain ⟨nk, hnk⟩ : ∃ n, n = M.length := ⟨_, rfl⟩
  have hKl : K.length = nk := by rw [hK, ids_length, hnk]
  rw [← hK] at hsM hapt
  rw [← hnk] at hsM hM0 hfew ⊢
  have hK0 : K[0]! = x.id := by rw [hK, ids_at (by omega), hMh, HX.out.1]
  have HM := Lib.hid (And.intro gM (And.intro hK (And.intro hnk (And.intro hKl (And.intro hapt (And.intro hK0 (And.intro hM0 hfew)))))))
  have B3 := Lib.hid hb3
  have SK := Lib.hid hsM
  obtain ⟨bk, ofk, hbk, hltk, hck⟩ := strAt_bang (by rw [← hKl] at hsM; exact hsM) (by omega)
  subst hbk
  have HCK := Lib.hid (show ∀ W, Below w3.heap.size w3 W → ∀ i, i < nk → W.cell? ⟨bk, ofk + i, none⟩ = some (.string K[i]!) from fun W hw i hi => by
    rw [hw.cell hltk]
    exact hck i (by omega))
  have e0 : w3.cell? ⟨bk, ofk, none⟩ = some (.string x.id) := by
    have := hck 0 (by omega)
    rwa [hK0] at this
  have z0 : (x.id.toList != x.id.toList) = false := by simp
  have z1 : decide ((nk : Int) = 0) = false := decide_eq_false (by omega)
  have z2 : ((nk : Int) == 0) = false := by simpa using z1
  have z3 : (0 : Int) < nk := by omega
  have HW3 := Lib.hid (HB2.out.trans (hb3.mono HB2.out.size))
  clear hpost hpost' hsM hb3 gM hMh hapt hK hnk hKl hK0 hltk hck LG ca0 ca1 ca2 haw ku j5 j0 j1 hm40
  go_wp2_with fail
  refine (Set.map_new w3).mono ?_
  rintro e w4 ⟨g, kv0, vv0, rfl, hsm, hb4⟩
  have HS4 := Lib.hid (And.intro hsm hb4)
  clear hsm hb4 e0 z0 z1 z2 z3
  go_wp2_with fail
  go_loopw [10] (fun c wr => ∃ (i : Nat) (kv vv : Value) (L : Set.Row), c = .int .i64 (i : Int) ∧ i ≤ nk ∧ Hid (Set.SMap wr w3.heap.size g kv vv L ∧ Wh L K i ∧ L.length ≤ i ∧ Below w3.heap.size w3 wr)) (fun c _ => ((nk : Int) - intOf c).toNat)
  case atStart => exact ⟨0, kv0, vv0, [], rfl, by omega, Lib.hid ⟨HS4.out.1, fun z => ⟨fun h => absurd h (by simp), fun ⟨i, hi, _⟩ => by omega⟩, by simp, HS4.out.2⟩⟩
  case round =>
    obtain ⟨i, kv, vv, L, rfl, hi, HJ⟩ := hrel
    have hfew2 : nk ≤ 40 := HM.out.2.2.2.2.2.2.2
    rcases Nat.lt_or_ge i nk with h3 | h3
    · have k1 : (i : Int) < nk := by omega
      have kw : IntKind.i64.wrap ((i : Int) + 1) = ((i + 1 : Nat) : Int) := IntWalk.i64_in _ (by omega)
      have c0 := HCK.out wr HJ.out.2.2.2 i h3
      have hlk := HJ.out.2.2.1
      have hnew := HJ.out.2.1.new HM.out.2.2.2.2.1 (by rw [HM.out.2.2.2.1]; exact h3)
      have hput := HJ.out.2.1.put HM.out.2.2.2.2.1 (by rw [HM.out.2.2.2.1]; exact h3)
      have AD := Lib.hid (Set.map_put w3.heap.size g kv vv L K[i]! (i : Int) wr HJ.out.1 (by omega))
      unfold Set.MapPut at AD
      rw [Set.has_false hnew] at AD
      obtain ⟨xk, hxk⟩ : ∃ x, x = K[i]! := ⟨_, rfl⟩
      rw [← hxk] at AD c0 hput
      obtain ⟨L9, hL9⟩ : ∃ L9, L9 = Set.mput xk (i : Int) L := ⟨_, rfl⟩
      rw [← hL9] at AD hput
      have HPT := Lib.hid hput
      clear hnew hput hxk hL9
      go_wp2_with fail
      refine AD.out.mono ?_
      rintro e w5 ⟨kv', vv', rfl, hs5, hc5, ho5⟩
      have H5 := Lib.hid (show Set.SMap w5 w3.heap.size g kv' vv' L9 ∧ Wh L9 K (i + 1) ∧ L9.length ≤ i + 1 ∧ Below w3.heap.size w3 w5 from
        ⟨hs5, HPT.out.1, by rw [HPT.out.2]; omega, HJ.out.2.2.2.trans (hc5.below HJ.out.2.2.2.size fun k hk => (HJ.out.1.own hk).1)⟩)
      clear AD hs5 hc5 ho5 c0
      go_wp2_with fail
      refine ⟨⟨i + 1, kv', vv', _, by simp, by omega, H5⟩, ?_⟩
      simp [intOf]
      omega
    · have k1 : decide ((i : Int) < nk) = false := decide_eq_false (by omega)
      have k2 : ¬ ((i : Int) < nk) := by omega
      obtain rfl : i = nk := by omega
      obtain ⟨W6, hW6⟩ : ∃ W, W = wr := ⟨_, rfl⟩
      rw [← hW6] at HJ ⊢
      clear hW6 hi h3
      go_wp2_with fail
      refine (fmap_new W6).mono ?_
      rintro e w7 ⟨g2, kf0, vf0, rfl, hfm, hb7⟩
      have HS7 := Lib.hid (show FMap w7 W6.heap.size g2 kf0 vf0 [] ∧ Below W6.heap.size W6 w7 from ⟨hfm, hb7⟩)
      have OW := Lib.hid (show ∀ k, Own_ g kv vv k → k < W6.heap.size from fun k hk => (HJ.out.1.own hk).2)
      clear hfm hb7
      go_wp2_with fail
      go_loopw [12] (fun c wr => ∃ (j : Nat) (kv2 vv2 : Value) (L2 : RowF), c = .int .i64 (j : Int) ∧ j ≤ m ∧ Hid (FMap wr W6.heap.size g2 kv2 vv2 L2 ∧ Fw L2 F j ∧ L2.length ≤ j ∧ Below W6.heap.size W6 wr)) (fun c _ => ((m : Int) - intOf c).toNat)
      case atStart => exact ⟨0, kf0, vf0, [], rfl, by omega, Lib.hid ⟨HS7.out.1, fun z => ⟨fun h => absurd h (by simp), fun ⟨i, hi, _⟩ => by omega⟩, by simp, HS7.out.2⟩⟩
      case round =>
        obtain ⟨j, kv2, vv2, L2, rfl, hj, HK2⟩ := hrel
        have hm40 : m ≤ 40 := HG.out.few
        have hlk2 := HK2.out.2.2.1
        have hb26 : Below w2.heap.size w2 wr := B3.out.trans ((HJ.out.2.2.2.trans (HK2.out.2.2.2.mono HJ.out.2.2.2.size)).mono B3.out.size)
        rcases Nat.lt_or_ge j m with h4 | h4
        · have k1 : (j : Int) < m := by omega
          have kw : IntKind.i64.wrap ((j : Int) + 1) = ((j + 1 : Nat) : Int) := IntWalk.i64_in _ (by omega)
          obtain ⟨y, hy⟩ : ∃ y, y = F j := ⟨_, rfl⟩
          have HCJ := Lib.hid (show ∀ W, Below w2.heap.size w2 W → W.cell? ⟨bl, off + j * 3, none⟩ = some (.string y.id) ∧ W.cell? ⟨bl, off + j * 3 + 1, none⟩ = some (.int .i64 y.h) ∧ W.cell? ⟨bl, off + j * 3 + 2, none⟩ = some (.slice y.pa y.np y.pc) from fun W hW => by rw [hy]; exact HC.out W hW j h4)
          have hnew := HK2.out.2.1.new HG.out.dist h4
          rw [← hy] at hnew
          have AD := Lib.hid (fun W (hw : Below wr.heap.size wr W) => fmap_put W6.heap.size g2 kv2 vv2 L2 y.id y W (HK2.out.1.later hw) (by omega) hnew)
          unfold FPut at AD
          have HY := Lib.hid hy
          have hbd : Below wr.heap.size wr wr.drew := ⟨rfl, rfl, rfl, Nat.le_refl _, fun _ _ => rfl⟩
          have HB26 := Lib.hid hb26
          clear hnew hy hb26
          go_upto_region 20 with (fail)
          go_region_held (fun W => W.cell? ⟨bl, off + j * 3, none⟩ = some (.string y.id) ∧ W.cell? ⟨bl, off + j * 3 + 1, none⟩ = some (.int .i64 y.h) ∧ W.cell? ⟨bl, off + j * 3 + 2, none⟩ = some (.slice y.pa y.np y.pc))
            ((refine HCJ.out _ ?_; first | exact HB26.out.trans (Below.mono hbd HB26.out.size) | assumption))
            (first
              | (go_at_call 10
                 refine (AD.out _ hbd).mono ?_
                 rintro e w8 ⟨kv3, vv3, L3, rfl, hs8, hL8, hn8, hc8, ho8⟩
                 have hb8 : Below W6.heap.size W6 w8 := (HK2.out.2.2.2.trans (hbd.mono HK2.out.2.2.2.size)).trans (hc8.below (Nat.le_trans HK2.out.2.2.2.size hbd.size) fun k hk => (HK2.out.1.own hk).1)
                 have H8 := Lib.hid (show FMap w8 W6.heap.size g2 kv3 vv3 L3 ∧ Fw L3 F (j + 1) ∧ L3.length ≤ j + 1 ∧ Below W6.heap.size W6 w8 from ⟨hs8, HK2.out.2.1.put (by rw [← HY.out]; exact hL8), by omega, hb8⟩)
                 have hb28 : Below w2.heap.size w2 w8 := B3.out.trans ((HJ.out.2.2.2.trans (hb8.mono HJ.out.2.2.2.size)).mono B3.out.size)
                 clear hs8 hL8 hn8 hc8 ho8 hb8))
          clear hbd
          go_wp2_with fail
          refine ⟨⟨j + 1, kv3, vv3, L3, by simp, by omega, H8⟩, ?_⟩
          simp [intOf]
          omega
        · have k1 : decide ((j : Int) < m) = false := decide_eq_false (by omega)
          have k2 : ¬ ((j : Int) < m) := by omega
          obtain rfl : j = m := by omega
          obtain ⟨W7, hW7⟩ : ∃ W, W = wr := ⟨_, rfl⟩
          rw [← hW7] at HK2 hb26 ⊢
          have HB27 := Lib.hid hb26
          clear hW7 hb26 hj h4
          have GT := Lib.hid (show ∀ t, t < i → ∀ W, Below W7.heap.size W7 W → Calls Tryz.prog 11 #[.pointer (some ⟨g2, 0, none⟩), .string K[t]!] W fun e w' => e = .returned (.tuple #[.agg #[.string (M[t]!).id, .int .i64 (M[t]!).h, .slice (M[t]!).pa (M[t]!).np (M[t]!).pc], .bool true]) ∧ Below W.heap.size W w' from fun t ht W hW => by
            obtain ⟨q, hq, he⟩ := HM.out.1.at_i HX.out.2.1 (i := t) (by rw [← HM.out.2.2.1]; exact ht)
            have hid : K[t]! = (F q).id := by rw [HM.out.2.1, ids_at (by rw [← HM.out.2.2.1]; exact ht), he]
            refine (fmap_get W6.heap.size g2 kv2 vv2 L2 K[t]! W (HK2.out.1.later hW) (by omega) (by rw [hid]; exact HK2.out.2.1.has hq)).mono ?_
            rintro e w' ⟨y, hy, rfl, hb⟩
            rw [hid] at hy
            rw [HK2.out.2.1.get HG.out.dist hq hy, ← he]
            exact ⟨rfl, hb⟩)
          have GW := Lib.hid (show ∀ t, t < i → ∀ W, Below W7.heap.size W7 W → Calls Tryz.prog 13 #[.pointer (some ⟨g, 0, none⟩), .string K[t]!] W fun e w' => e = .returned (.tuple #[.int .i64 (t : Int), .bool true]) ∧ Below W.heap.size W w' from fun t ht W hW => by
            have hwh : Wh L K K.length := by rw [HM.out.2.2.2.1]; exact HJ.out.2.1
            obtain ⟨h1, h2⟩ := hwh.get HJ.out.1.rise HM.out.2.2.2.2.1 (i := t) (by rw [HM.out.2.2.2.1]; exact ht)
            refine (Set.map_get w3.heap.size g kv vv L K[t]! W ((HJ.out.1.later HK2.out.2.2.2).later hW) (by have := HJ.out.2.2.1; omega)).mono ?_
            rintro e w' ⟨rfl, hd⟩
            rw [h1, h2]
            exact ⟨rfl, hd.below _⟩)
          have AV := Lib.hid (show ∀ t, t < i → ∀ W, Below W7.heap.size W7 W → Calls Tryz.prog 14 #[.slice (some ⟨bl, off, none⟩) j cap2, .string x.id, .string K[t]!] W fun e w' => e = .returned (.tuple #[.bool (decide (0 < t)), .int .i64 0]) ∧ Below W.heap.size W w' from fun t ht W hW => by
            refine (AB.out K[t]! W (HB27.out.trans (hW.mono HB27.out.size))).mono ?_
            rintro e w' hpost
            rw [HX.out.1] at hpost
            obtain ⟨rfl, hb⟩ := above_again HG.out HX.out.2.1 HM.out.1 hpost
            have hh : holds ((F a).id ≠ K[t]! ∧ K[t]! ∈ ids M) = decide (0 < t) := by
              rcases Nat.eq_zero_or_pos t with h0 | h0
              · rw [holds_false (fun h => h.1 (by rw [h0, HM.out.2.2.2.2.2.1, HX.out.1])), decide_eq_false (by omega)]
              · have htl : t < K.length := by rw [HM.out.2.2.2.1]; exact ht
                rw [holds_true ⟨fun e => HM.out.2.2.2.2.1 0 t h0 htl (by rw [HM.out.2.2.2.2.2.1, HX.out.1]; exact e), by rw [← HM.out.2.1, getElem!_pos K t htl]; exact List.getElem_mem htl⟩, decide_eq_true h0]
            rw [hh]
            exact ⟨rfl, hb⟩)
          have HWF := Lib.hid (HW3.out.trans ((HJ.out.2.2.2.trans (HK2.out.2.2.2.mono HJ.out.2.2.2.size)).mono HW3.out.size))
          have B37 := Lib.hid (show Below w3.heap.size w3 W7 from HJ.out.2.2.2.trans (HK2.out.2.2.2.mono HJ.out.2.2.2.size))
          clear k1 k2 hlk2 hm40 hfew2
          go_wp2_with fail
          go_loopw [13] (fun c wr => ∃ t : Nat, c = .int .i64 (t : Int) ∧ t ≤ i ∧ Hid (Below W7.heap.size W7 wr)) (fun c _ => ((i : Int) - intOf c).toNat)
          case atStart => exact ⟨0, rfl, by omega, Lib.hid (Below.refl _ _)⟩
          case round =>
            obtain ⟨t, rfl, ht, HT⟩ := hrel
            have hi40 : i ≤ 40 := HM.out.2.2.2.2.2.2.2
            rcases Nat.lt_or_ge t i with h5 | h5
            · have k1 : (t : Int) < i := by omega
              have kw : IntKind.i64.wrap ((t : Int) + 1) = ((t + 1 : Nat) : Int) := IntWalk.i64_in _ (by omega)
              have c0 := HCK.out wr (B37.out.trans (HT.out.mono B37.out.size)) t h5
              have GT1 := Lib.hid (GT.out t h5 wr HT.out)
              have AV1 := Lib.hid (AV.out t h5)
              obtain ⟨q, hq, hqe⟩ := HM.out.1.at_i HX.out.2.1 (i := t) (by rw [← HM.out.2.2.1]; exact h5)
              have hpar := fun k hk => HM.out.1.parent HG.out HX.out.2.1 (i := t) (k := k) (by rw [← HM.out.2.2.1]; exact h5) hk
              have hst := HF.out.2.2 q hq
              rw [← hqe] at hst
              obtain ⟨y, hy⟩ : ∃ y, y = M[t]! := ⟨_, rfl⟩
              obtain ⟨xk, hxk⟩ : ∃ x, x = K[t]! := ⟨_, rfl⟩
              rw [← hy] at GT1 hpar hst
              rw [← hxk] at GT1 c0 AV1
              have HP := Lib.hid (And.intro hpar hst)
              have HYT := Lib.hid (And.intro hy (And.intro hxk h5))
              have hynp : y.np ≤ 8 := by rw [hy, hqe]; exact HG.out.np q hq
              clear hpar hst hy hxk hq hqe
              go_wp2_with fail
              refine GT1.out.mono ?_
              rintro e w8 ⟨rfl, hb8⟩
              obtain ⟨G1, hG1⟩ : ∃ G, G = w8.heap.size := ⟨_, rfl⟩
              obtain ⟨W9, hW9⟩ : ∃ W, W = w8.alloc (.cells #[.string y.id, .int .i64 y.h, .slice y.pa y.np y.pc] 28) := ⟨_, rfl⟩
              have h89 : Below w8.heap.size w8 W9 := by rw [hW9]; exact (Below.refl _ _).alloc (Nat.le_refl _) _
              have K9 := Lib.hid (show BlkIs W9 G1 28 #[.string y.id, .int .i64 y.h, .slice y.pa y.np y.pc] by rw [hW9, hG1]; exact BlkIs.new _ _ _)
              have B9 := Lib.hid (HT.out.trans ((hb8.trans (h89.mono hb8.size)).mono HT.out.size))
              have HW9 := Lib.hid (And.intro hW9 hG1)
              clear hb8 h89 hW9 hG1 GT1 c0
              go_upto_region 25 with (fail)
              rw [← HW9.out.1, ← HW9.out.2]
              clear HW9
              rcases Nat.eq_zero_or_pos t with t0 | t0
              · have q1 : decide ((0 : Int) < (t : Int)) = false := decide_eq_false (by omega)
                have q2 : decide (0 < t) = false := decide_eq_false (by omega)
                have q3 : decide ((t : Int) > 0) = false := decide_eq_false (by omega)
                have AV2 := AV1
                rw [q2] at AV2
                have HQ := Lib.hid (And.intro q1 q2)
                clear t0
                have KG := Lib.hid (show ∀ V, Below W9.heap.size W9 V → V.cell? ⟨G1, 2, none⟩ = some (.slice y.pa y.np y.pc) from fun V hV => (K9.out.below hV K9.out.lt).cell 2)
                have x2 := KG.out W9 (Below.refl _ _)
                go_wp2_with fail
                go_loopw [18] (fun c wr => ∃ d : Nat, c = .int .i64 (d : Int) ∧ d ≤ y.np ∧ Hid (Below W9.heap.size W9 wr)) (fun c _ => ((y.np : Int) - intOf c).toNat)
                case atStart => exact ⟨0, rfl, by omega, Lib.hid (Below.refl _ _)⟩
                case round =>
                  obtain ⟨d, rfl, hd, HD⟩ := hrel
                  clear x2
                  have x2 := KG.out wr HD.out
                  have BD := Lib.hid (B9.out.trans (HD.out.mono B9.out.size))
                  rcases Nat.lt_or_ge d y.np with h7 | h7
                  · have k1 : (d : Int) < y.np := by omega
                    have kw : IntKind.i64.wrap ((d : Int) + 1) = ((d + 1 : Nat) : Int) := IntWalk.i64_in _ (by omega)
                    obtain ⟨r, hr1, hr2, hr3⟩ := HP.out.1 d h7
                    obtain ⟨bp, op, hbp, hltp, hcp⟩ := HP.out.2.2 (by omega)
                    have b27 : Below w2.heap.size w2 wr := HB27.out.trans (BD.out.mono HB27.out.size)
                    have cp := hcp d h7
                    rw [← b27.cell hltp] at cp
                    have hri : r < i := by rw [HM.out.2.2.1]; exact hr2
                    have hkr : K[r]! = y.p d := by rw [HM.out.2.1, ids_at hr2, hr3]
                    have GR := Lib.hid (GW.out r hri wr BD.out)
                    obtain ⟨xr, hxr⟩ : ∃ x, x = y.p d := ⟨_, rfl⟩
                    rw [hkr, ← hxr] at GR
                    rw [← hxr] at cp
                    obtain ⟨pa, hpa⟩ : ∃ p, p = y.pa := ⟨_, rfl⟩
                    rw [← hpa] at x2 hbp
                    subst hbp
                    have k7 : decide ((r : Int) ≤ (t : Int)) = false := decide_eq_false (by omega)
                    have k8 : decide (r ≤ t) = false := decide_eq_false (by omega)
                    have k9 : ¬ ((r : Int) ≤ (t : Int)) := by omega
                    have HPA := Lib.hid hpa
                    clear hr2 hr3 hcp hltp b27 hkr hxr hri hpa
                    go_wp2_with fail
                    refine GR.out.mono ?_
                    rintro e w14 ⟨rfl, hb14⟩
                    have H14 := Lib.hid (HD.out.trans (hb14.mono HD.out.size))
                    clear GR hb14 cp x2
                    go_wp2_with fail
                    refine ⟨⟨d + 1, by simp, by omega, H14⟩, ?_⟩
                    simp [intOf]
                    omega
                  · have k1 : decide ((d : Int) < y.np) = false := decide_eq_false (by omega)
                    have k2 : ¬ ((d : Int) < y.np) := by omega
                    have c0 := HCK.out wr (B37.out.trans (BD.out.mono B37.out.size)) t HYT.out.2.2
                    rw [← HYT.out.2.1] at c0
                    have AV3 := Lib.hid (AV2.out wr BD.out)
                    have k1' : (t : Int) < i := by have := HYT.out.2.2; omega
                    have kw : IntKind.i64.wrap ((t : Int) + 1) = ((t + 1 : Nat) : Int) := IntWalk.i64_in _ (by omega)
                    have q1 := HQ.out.1
                    have q2 := HQ.out.2
                    go_wp2_with fail
                    refine AV3.out.mono ?_
                    rintro e w15 ⟨rfl, hb15⟩
                    have H15 := Lib.hid (BD.out.trans (hb15.mono BD.out.size))
                    clear AV3 hb15 c0 x2
                    go_wp2_with fail
                    refine ⟨⟨t + 1, by simp, by have := HYT.out.2.2; omega, H15⟩, ?_⟩
                    simp [intOf]
                    have := HYT.out.2.2
                    omega
              · have q1 : decide ((0 : Int) < (t : Int)) = true := decide_eq_true (by omega)
                have q2 : decide (0 < t) = true := decide_eq_true t0
                have q3 : (0 : Int) < (t : Int) := by omega
                have AV2 := AV1
                rw [q2] at AV2
                have HQ := Lib.hid (And.intro q1 q2)
                obtain ⟨p, hp⟩ : ∃ p, t = p + 1 := ⟨t - 1, by omega⟩
                have hpi : p < i := by omega
                have kp : (t : Int) - 1 = (p : Int) := by omega
                have kpw : IntKind.i64.wrap ((t : Int) - 1) = (p : Int) := by rw [kp]; exact IntWalk.i64_in _ (by omega)
                have kp5 : (p : Int) < i := by omega
                have c0 := HCK.out W9 (B37.out.trans (B9.out.mono B37.out.size)) p hpi
                have GT2 := Lib.hid (GT.out p hpi W9 B9.out)
                have hfa := HM.out.1.falls_at (i := p) (j := t) (by omega) (by rw [← HM.out.2.2.1]; exact HYT.out.2.2)
                rw [← HYT.out.1] at hfa
                obtain ⟨yp, hyp⟩ : ∃ y, y = M[p]! := ⟨_, rfl⟩
                obtain ⟨xp, hxp⟩ : ∃ x, x = K[p]! := ⟨_, rfl⟩
                rw [← hyp] at GT2 hfa
                rw [← hxp] at GT2 c0
                have hcm := cmp_one hfa
                clear hyp hxp hfa hpi hp t0
                go_wp2_with fail
                refine GT2.out.mono ?_
                rintro e w10 ⟨rfl, hb10⟩
                obtain ⟨G2, hG2⟩ : ∃ G, G = w10.heap.size := ⟨_, rfl⟩
                obtain ⟨W11, hW11⟩ : ∃ W, W = w10.alloc (.cells #[.string yp.id, .int .i64 yp.h, .slice yp.pa yp.np yp.pc] 28) := ⟨_, rfl⟩
                have h1011 : Below w10.heap.size w10 W11 := by rw [hW11]; exact (Below.refl _ _).alloc (Nat.le_refl _) _
                have h911 : Below W9.heap.size W9 W11 := hb10.trans (h1011.mono hb10.size)
                have K11 := Lib.hid (show BlkIs W11 G1 28 #[.string y.id, .int .i64 y.h, .slice y.pa y.np y.pc] from K9.out.below h911 K9.out.lt)
                have KP := Lib.hid (show BlkIs W11 G2 28 #[.string yp.id, .int .i64 yp.h, .slice yp.pa yp.np yp.pc] by rw [hW11, hG2]; exact BlkIs.new _ _ _)
                have B11 := Lib.hid (B9.out.trans (h911.mono B9.out.size))
                have HW11 := Lib.hid (And.intro hW11 hG2)
                have CM := Lib.hid (compare_below yp y W11)
                rw [hcm] at CM
                clear hb10 h1011 h911 hW11 hG2 GT2 c0 hcm
                go_upto_region 27 with (fail)
                rw [← HW11.out.1, ← HW11.out.2]
                clear HW11
                have u0 : W11.cell? ⟨G1, 0, none⟩ = some (.string y.id) := K11.out.cell 0
                have u1 : W11.cell? ⟨G1, 1, none⟩ = some (.int .i64 y.h) := K11.out.cell 1
                have u2 : W11.cell? ⟨G1, 2, none⟩ = some (.slice y.pa y.np y.pc) := K11.out.cell 2
                have v0 : W11.cell? ⟨G2, 0, none⟩ = some (.string yp.id) := KP.out.cell 0
                have v1 : W11.cell? ⟨G2, 1, none⟩ = some (.int .i64 yp.h) := KP.out.cell 1
                have v2 : W11.cell? ⟨G2, 2, none⟩ = some (.slice yp.pa yp.np yp.pc) := KP.out.cell 2
                go_wp2_with fail
                refine CM.out.mono ?_
                rintro e w12 ⟨rfl, hb12⟩
                have K12 := Lib.hid (K11.out.below hb12 K11.out.lt)
                have B12 := Lib.hid (B11.out.trans (hb12.mono B11.out.size))
                clear CM hb12 u0 u1 u2 v0 v1 v2
                have KG := Lib.hid (show ∀ V, Below w12.heap.size w12 V → V.cell? ⟨G1, 2, none⟩ = some (.slice y.pa y.np y.pc) from fun V hV => (K12.out.below hV K12.out.lt).cell 2)
                have x2 := KG.out w12 (Below.refl _ _)
                go_wp2_with fail
                go_loopw [18] (fun c wr => ∃ d : Nat, c = .int .i64 (d : Int) ∧ d ≤ y.np ∧ Hid (Below w12.heap.size w12 wr)) (fun c _ => ((y.np : Int) - intOf c).toNat)
                case atStart => exact ⟨0, rfl, by omega, Lib.hid (Below.refl _ _)⟩
                case round =>
                  obtain ⟨d, rfl, hd, HD⟩ := hrel
                  clear x2
                  have x2 := KG.out wr HD.out
                  have BD := Lib.hid (B12.out.trans (HD.out.mono B12.out.size))
                  rcases Nat.lt_or_ge d y.np with h7 | h7
                  · have k1 : (d : Int) < y.np := by omega
                    have kw : IntKind.i64.wrap ((d : Int) + 1) = ((d + 1 : Nat) : Int) := IntWalk.i64_in _ (by omega)
                    obtain ⟨r, hr1, hr2, hr3⟩ := HP.out.1 d h7
                    obtain ⟨bp, op, hbp, hltp, hcp⟩ := HP.out.2.2 (by omega)
                    have b27 : Below w2.heap.size w2 wr := HB27.out.trans (BD.out.mono HB27.out.size)
                    have cp := hcp d h7
                    rw [← b27.cell hltp] at cp
                    have hri : r < i := by rw [HM.out.2.2.1]; exact hr2
                    have hkr : K[r]! = y.p d := by rw [HM.out.2.1, ids_at hr2, hr3]
                    have GR := Lib.hid (GW.out r hri wr BD.out)
                    obtain ⟨xr, hxr⟩ : ∃ x, x = y.p d := ⟨_, rfl⟩
                    rw [hkr, ← hxr] at GR
                    rw [← hxr] at cp
                    obtain ⟨pa, hpa⟩ : ∃ p, p = y.pa := ⟨_, rfl⟩
                    rw [← hpa] at x2 hbp
                    subst hbp
                    have k7 : decide ((r : Int) ≤ (t : Int)) = false := decide_eq_false (by omega)
                    have k8 : decide (r ≤ t) = false := decide_eq_false (by omega)
                    have k9 : ¬ ((r : Int) ≤ (t : Int)) := by omega
                    have HPA := Lib.hid hpa
                    clear hr2 hr3 hcp hltp b27 hkr hxr hri hpa
                    go_wp2_with fail
                    refine GR.out.mono ?_
                    rintro e w14 ⟨rfl, hb14⟩
                    have H14 := Lib.hid (HD.out.trans (hb14.mono HD.out.size))
                    clear GR hb14 cp x2
                    go_wp2_with fail
                    refine ⟨⟨d + 1, by simp, by omega, H14⟩, ?_⟩
                    simp [intOf]
                    omega
                  · have k1 : decide ((d : Int) < y.np) = false := decide_eq_false (by omega)
                    have k2 : ¬ ((d : Int) < y.np) := by omega
                    have c0 := HCK.out wr (B37.out.trans (BD.out.mono B37.out.size)) t HYT.out.2.2
                    rw [← HYT.out.2.1] at c0
                    have AV3 := Lib.hid (AV2.out wr BD.out)
                    have k1' : (t : Int) < i := by have := HYT.out.2.2; omega
                    have kw : IntKind.i64.wrap ((t : Int) + 1) = ((t + 1 : Nat) : Int) := IntWalk.i64_in _ (by omega)
                    have q1 := HQ.out.1
                    have q2 := HQ.out.2
                    go_wp2_with fail
                    refine AV3.out.mono ?_
                    rintro e w15 ⟨rfl, hb15⟩
                    have H15 := Lib.hid (BD.out.trans (hb15.mono BD.out.size))
                    clear AV3 hb15 c0 x2
                    go_wp2_with fail
                    refine ⟨⟨t + 1, by simp, by have := HYT.out.2.2; omega, H15⟩, ?_⟩
                    simp [intOf]
                    have := HYT.out.2.2
                    omega
            · have k1 : decide ((t : Int) < i) = false := decide_eq_false (by omega)
              have k2 : ¬ ((t : Int) < i) := by omega
              go_wp2_with fail
              go_ret
              exact ⟨rfl, HWF.out.trans (HT.out.mono HWF.out.size)⟩
end Go.Proofs.YthcgdpdijdmelaaGreat.Ord
