/- THE LAW OrderBases, walked: where two commits meet. (Layer 11.) -/
import Derived.Test.YthcgdpdijdmelaaOrdBP
import Derived.Test.YthcgdpdijdmelaaOrdG1
import Derived.Test.YthcgdpdijdmelaaOrd18
import Derived.Test.YthcgdpdijdmelaaMkSet2
namespace Go.Proofs.Ythcgdpdijdmelaa.Ord
set_option linter.unusedVariables false
set_option linter.unusedSimpArgs false
open Go.RowKit Go.Sort Go.Lib
section
variable {n : Nat} {f : Nat → Fv} {a b : Nat} {M N : List Fv} {w w' : World} {e : Ending}
theorem base_first (hg : Grown n f) (ha : a < n) (hb : b < n) (h : BaseOut n f (f a).id (f b).id w w' e) :
    ∃ M N, GLog n f a M ∧ GLog n f b N ∧ e = .returned (.tuple #[.string (firstIn (ids M) (ids N)), .int .i64 0]) ∧ Below w.heap.size w w' := by
  obtain ⟨hbel, c, L, hL, h⟩ := h
  obtain ⟨rfl, M, rfl, gM⟩ := hg.log ha hL
  rcases h with ⟨h1, _⟩ | ⟨_, d, L2, hL2, h⟩
  · exact absurd rfl h1
  · obtain ⟨rfl, N, rfl, gN⟩ := hg.log hb hL2
    rcases h with ⟨h1, _⟩ | ⟨_, he⟩
    · exact absurd rfl h1
    · exact ⟨M, N, gM, gN, he, hbel⟩
theorem GLog.one (hg : Grown n f) (ha : a < n) (h : GLog n f a M) (k : GLog n f a N) : M = N := h.same hg (Nat.le_refl n) ha k
theorem base_again (hg : Grown n f) (ha : a < n) (hb : b < n) (gM : GLog n f a M) (gN : GLog n f b N) (h : BaseOut n f (f b).id (f a).id w w' e) :
    e = .returned (.tuple #[.string (firstIn (ids M) (ids N)), .int .i64 0]) ∧ Below w.heap.size w w' := by
  obtain ⟨N', M', gN', gM', he, hbel⟩ := base_first hg hb ha h
  obtain rfl := gM.one hg ha gM'
  obtain rfl := gN.one hg hb gN'
  rw [base_turn hg ha hb gM gN] at he
  exact ⟨he, hbel⟩
theorem log_again (hg : Grown n f) (ha : a < n) (gM : GLog n f a M) (h : LogOutC n f (f a).id w w' e) :
    ∃ (ao : Option Addr) (cap : Nat), e = .returned (.tuple #[.slice ao M.length cap, .int .i64 0]) ∧ Set.StrAt w' (.slice ao M.length cap) (ids M) ∧ Below w.heap.size w w' := by
  obtain ⟨c, L, ao, cap, rfl, ⟨hc1, hc2⟩, hL, hS, hbel⟩ := h
  obtain ⟨rfl, M', rfl, gM'⟩ := hg.log ha hL
  obtain rfl := gM.one hg ha gM'
  have el : (List.map (fun x : Fv => x.id) M).length = M.length := by simp
  rw [el] at hc1 hS ⊢
  refine ⟨ao, cap, rfl, ⟨ao, cap, by rw [ids_length], by rw [ids_length]; exact hc1, hc2, fun hn => ?_⟩, hbel⟩
  rw [ids_length] at hn
  obtain ⟨b, off, h1, h2, h3⟩ := hS.2 hn
  refine ⟨b, off, h1, h2, fun i hi => ?_⟩
  rw [ids_length] at hi
  rw [h3 i hi]
  simp only [ids]
  rw [getElem!_pos (List.map (fun x : Fv => x.id) M) i (by simpa using hi)]
theorem above_again (hg : Grown n f) (ha : a < n) (gM : GLog n f a M) {old : ByteArray} (h : AboveOut n f (f a).id old w w' e) :
    e = .returned (.tuple #[.bool (holds ((f a).id ≠ old ∧ old ∈ ids M)), .int .i64 0]) ∧ Below w.heap.size w w' := by
  obtain ⟨c, L, rfl, hL, hbel⟩ := h
  obtain ⟨rfl, M', rfl, gM'⟩ := hg.log ha hL
  obtain rfl := gM.one hg ha gM'
  exact ⟨rfl, hbel⟩
end
theorem mem_part {M N : List Fv} {la lb : List ByteArray} (ha : Set.IsOf (ids M) la) (hb : Set.IsOf (ids N) lb) (x : ByteArray) : x ∈ la.filter (Set.partOf lb true) ↔ x ∈ ids M ∧ x ∈ ids N := by
  rw [List.mem_filter, ha.2 x, ← hb.2 x]
  unfold Set.partOf
  by_cases h : x ∈ lb
  · simp [Set.has_true h, h]
  · simp [Set.has_false h, h]
theorem nodup_le {α : Type} [DecidableEq α] : ∀ (l m : List α), (l.Pairwise fun a b => a ≠ b) → (∀ x, x ∈ l → x ∈ m) → l.length ≤ m.length
  | [], m, _, _ => Nat.zero_le _
  | x :: r, m, hn, hs => by
    have hx := hs x (by simp)
    obtain ⟨h1, h2⟩ := List.pairwise_cons.1 hn
    have h3 := nodup_le r (m.erase x) h2 fun y hy => (List.mem_erase_of_ne fun e => h1 y hy e.symm).2 (hs y (by simp [hy]))
    rw [List.length_erase_of_mem hx] at h3
    have h4 := List.length_pos_of_mem hx
    rw [List.length_cons]
    omega
theorem isOf_length {l m : List ByteArray} (h : Set.IsOf l m) : m.length ≤ l.length :=
  nodup_le m l (h.1.imp fun h e => by subst e; exact Set.El.irr _ h) fun x hx => (h.2 x).1 hx
theorem glog_few {n : Nat} {f : Nat → Fv} {a : Nat} {M : List Fv} (hg : Grown n f) (ha : a < n) (h : GLog n f a M) : M.length ≤ n := by
  haveI : DecidableEq Fv := fun a b => Classical.propDecidable _
  have hs := nodup_le M ((List.range n).map f) (h.falls.imp fun h e => by subst e; exact low_irrefl _ h) fun x hx => by
    obtain ⟨i, hi, rfl⟩ := h.at_ ha hx
    exact List.mem_map.2 ⟨i, List.mem_range.2 hi, rfl⟩
  simpa using hs
set_option maxRecDepth 100000 in
set_option maxHeartbeats 8000000 in
theorem bases_any (ao : Option Addr) (n cap : Nat) (f : Nat → Iv) (at_ other : Int) (w : World) (h : IntssAt w ao n f) :
    Calls Try.prog 7 #[.slice ao n cap, .int .i64 at_, .int .i64 other] w fun e w' => e = .returned (.bool true) ∧ Below w.heap.size w w' := by
  have A := Lib.hid (awake w)
  have HI := Lib.hid h
  clear h
  go_enter Try.func7, Try.ntmps7
  go_wp2_with fail
  refine A.out.mono ?_
  rintro e w1 ⟨rfl, hb1⟩
  have HB1 := Lib.hid hb1
  have G := Lib.hid (grown_any ao n cap f w1 (HI.out.later hb1))
  clear A hb1 HI
  go_wp2_with fail
  refine G.out.mono ?_
  rintro e w2 ⟨bo, m, cap2, F, rfl, hmc, hF, hG, hb2⟩
  have HB2 := Lib.hid (HB1.out.trans (hb2.mono HB1.out.size))
  have hm40 := hG.few
  have HF := Lib.hid hF
  have HG := Lib.hid hG
  clear hb2 hF hG G
  rcases Nat.eq_zero_or_pos m with m0 | m0
  · subst m0
    go_wp2_with fail
    go_ret
    exact ⟨rfl, HB2.out⟩
  have j0 : decide ((m : Int) = 0) = false := decide_eq_false (by omega)
  have j1 : (m : Int) ≠ 0 := by omega
  have ku : IntKind.u64.wrap (m : Int) = (m : Int) := u64_small (by omega)
  obtain ⟨a, ha, haw⟩ := idx_in at_ m0 hm40
  obtain ⟨b, hb, hbw⟩ := idx_in other m0 hm40
  have j5 : (a : Int) < m := by omega
  have j6 : (b : Int) < m := by omega
  obtain ⟨bl, off, hbo, hlt, hcell⟩ := HF.out.2.1 m0
  subst hbo
  have HC := Lib.hid hcell
  obtain ⟨x, hx⟩ : ∃ x, x = F a := ⟨_, rfl⟩
  obtain ⟨y, hy⟩ : ∃ y, y = F b := ⟨_, rfl⟩
  have ca := hcell a ha
  have cb := hcell b hb
  rw [← hx] at ca
  rw [← hy] at cb
  obtain ⟨ca0, ca1, ca2⟩ := ca
  obtain ⟨cb0, cb1, cb2⟩ := cb
  have hal : Below w2.heap.size w2 (w2.alloc (.cells #[.string x.id, .int .i64 x.h, .slice x.pa x.np x.pc] 24)) := (Below.refl _ _).alloc (Nat.le_refl _) _
  rw [← hal.cell hlt] at cb0 cb1 cb2
  obtain ⟨B, hB⟩ : ∃ B, B = w2.heap.size := ⟨_, rfl⟩
  obtain ⟨W0, hW0⟩ : ∃ W0, W0 = (w2.alloc (.cells #[.string x.id, .int .i64 x.h, .slice x.pa x.np x.pc] 24)).alloc (.cells #[.string y.id, .int .i64 y.h, .slice y.pa y.np y.pc] 24) := ⟨_, rfl⟩
  have h02 : Below w2.heap.size w2 W0 := by rw [hW0]; exact hal.alloc (by simp) _
  have KA := Lib.hid (show BlkIs W0 B 24 #[.string x.id, .int .i64 x.h, .slice x.pa x.np x.pc] by rw [hW0, hB]; exact (BlkIs.new _ _ _).alloc _)
  have KB := Lib.hid (show BlkIs W0 (B + 1) 24 #[.string y.id, .int .i64 y.h, .slice y.pa y.np y.pc] by rw [hW0, hB]; exact BlkIs.new2 _ _ _ _)
  have F0 := Lib.hid (HF.out.later h02)
  have HC0 := Lib.hid (fun W (hw : Below W0.heap.size W0 W) i (hi : i < m) => show W.cell? ⟨bl, off + i * 3, none⟩ = some (.string (F i).id) ∧ W.cell? ⟨bl, off + i * 3 + 1, none⟩ = some (.int .i64 (F i).h) ∧ W.cell? ⟨bl, off + i * 3 + 2, none⟩ = some (.slice (F i).pa (F i).np (F i).pc) from by
    have hw2 : Below w2.heap.size w2 W := h02.trans (hw.mono h02.size)
    rw [hw2.cell hlt, hw2.cell hlt, hw2.cell hlt]
    exact HC.out i hi)
  have HW := Lib.hid (HB2.out.trans (h02.mono HB2.out.size))
  have HXY := Lib.hid (And.intro hx (And.intro ha (And.intro hy hb)))
  have hnp : ∀ i, i < m → (F i).np ≤ 1000000 := fun i hi => by have := HG.out.np i hi; omega
  have BA := Lib.hid (fun s t W (hw : Below W0.heap.size W0 W) => base_any (some ⟨bl, off, none⟩) m cap2 F s t W (F0.out.later hw) (by omega) hnp)
  have LG := Lib.hid (fun s W (hw : Below W0.heap.size W0 W) => log_capped (some ⟨bl, off, none⟩) m cap2 F s W (F0.out.later hw) (by omega) hnp)
  have AB := Lib.hid (fun s t W (hw : Below W0.heap.size W0 W) => above_any (some ⟨bl, off, none⟩) m cap2 F s t W (F0.out.later hw) (by omega) hnp)
  have H0 := Lib.hid (And.intro hW0 hB)
  clear hcell hx hy ha hb hW0 hB h02 hnp HC HF HB2 HB1 hlt
  go_upto_region 8 with (fail)
  rw [← H0.out.1, ← H0.out.2]
  clear H0 ca0 ca1 ca2 cb0 cb1 cb2 hal haw hbw ku j5 j6
  have d0 : W0.cell? ⟨B, 0, none⟩ = some (.string x.id) := KA.out.cell 0
  have d1 : W0.cell? ⟨B + 1, 0, none⟩ = some (.string y.id) := KB.out.cell 0
  go_wp2_with fail
  refine (BA.out x.id y.id W0 (Below.refl _ _)).mono ?_
  rintro e w3 hpost
  obtain ⟨M, N, gM, gN, rfl, hb3⟩ := base_first HG.out HXY.out.2.1 HXY.out.2.2.2 (by rw [← HXY.out.1, ← HXY.out.2.2.1]; exact hpost)
  have GM := Lib.hid gM
  have GN := Lib.hid gN
  obtain ⟨X, hX⟩ : ∃ X, X = firstIn (ids M) (ids N) := ⟨_, rfl⟩
  rw [← hX]
  have HX := Lib.hid hX
  have BE3 := Lib.hid hb3
  clear hpost gM gN hX d0 d1 hb3
  have d0 : w3.cell? ⟨B, 0, none⟩ = some (.string x.id) := (KA.out.below BE3.out KA.out.lt).cell 0
  have d1 : w3.cell? ⟨B + 1, 0, none⟩ = some (.string y.id) := (KB.out.below BE3.out KB.out.lt).cell 0
  go_wp2_with fail
  refine (BA.out y.id x.id w3 BE3.out).mono ?_
  rintro e w4 hpost
  obtain ⟨rfl, hb4⟩ := base_again HG.out HXY.out.2.1 HXY.out.2.2.2 GM.out GN.out (by rw [← HXY.out.1, ← HXY.out.2.2.1]; exact hpost)
  rw [← HX.out]
  have BE4 := Lib.hid (BE3.out.trans (hb4.mono BE3.out.size))
  clear hpost hb4 d0 d1 BA
  have d0 : w4.cell? ⟨B, 0, none⟩ = some (.string x.id) := (KA.out.below BE4.out KA.out.lt).cell 0
  go_wp2_with fail
  refine (LG.out x.id w4 BE4.out).mono ?_
  rintro e w5 hpost
  obtain ⟨aoM, capM, rfl, hsM, hb5⟩ := log_again HG.out HXY.out.2.1 GM.out (by rw [← HXY.out.1]; exact hpost)
  have BE5 := Lib.hid (BE4.out.trans (hb5.mono BE4.out.size))
  have SM := Lib.hid hsM
  clear hpost hsM hb5 d0
  have d1 : w5.cell? ⟨B + 1, 0, none⟩ = some (.string y.id) := (KB.out.below BE5.out KB.out.lt).cell 0
  go_wp2_with fail
  refine (LG.out y.id w5 BE5.out).mono ?_
  rintro e w6 hpost
  obtain ⟨aoN, capN, rfl, hsN, hb6⟩ := log_again HG.out HXY.out.2.2.2 GN.out (by rw [← HXY.out.2.2.1]; exact hpost)
  have BE6 := Lib.hid (BE5.out.trans (hb6.mono BE5.out.size))
  have SN := Lib.hid hsN
  have SM := Lib.hid (SM.out.later hb6)
  clear hpost hsN hb6 d1 LG
  have zX : (X.toList == X.toList) = true := by simp
  have lM := glog_few HG.out HXY.out.2.1 GM.out
  have lN := glog_few HG.out HXY.out.2.2.2 GN.out
  have O1 := Lib.hid (Set.of_string (.slice aoM M.length capM) (ids M) w6 SM.out (by rw [ids_length]; omega))
  go_wp2_with fail
  refine O1.out.mono ?_
  rintro e w7 ⟨g1, kv1, vv1, la, rfl, hla, hs1, hb7⟩
  have BE7 := Lib.hid (BE6.out.trans (hb7.mono BE6.out.size))
  have LA := Lib.hid (And.intro hla (And.intro hs1 (SN.out.later hb7)))
  clear hla hs1 hb7 O1
  have O2 := Lib.hid (Set.of_string (.slice aoN N.length capN) (ids N) w7 LA.out.2.2 (by rw [ids_length]; omega))
  go_wp2_with fail
  refine O2.out.mono ?_
  rintro e w8 ⟨g2, kv2, vv2, lb, rfl, hlb, hs2, hb8⟩
  have BE8 := Lib.hid (BE7.out.trans (hb8.mono BE7.out.size))
  have la1 := isOf_length LA.out.1
  have lb1 := isOf_length hlb
  rw [ids_length] at la1 lb1
  have ME := Lib.hid (Set.meet_string _ g1 _ g2 kv1 vv1 kv2 vv2 la lb w8 (LA.out.2.1.later hb8) hs2 (by omega) (by omega))
  have HK := Lib.hid (fun x => mem_part LA.out.1 hlb x)
  have hkl : (la.filter (Set.partOf lb true)).length ≤ 1000 := Nat.le_trans (List.length_filter_le _ _) (by omega)
  clear hlb hs2 hb8 O2 LA
  go_wp2_with fail
  refine ME.out.mono ?_
  rintro e w9 ⟨g, kv, vv, rfl, hs9, hb9⟩
  obtain ⟨K, hK⟩ : ∃ K, K = la.filter (Set.partOf lb true) := ⟨_, rfl⟩
  rw [← hK] at HK hs9 hkl
  have BE9 := Lib.hid (BE8.out.trans (hb9.mono BE8.out.size))
  have S9 := Lib.hid hs9
  clear hK hs9 hb9 ME la1 lb1
  have HAS := Lib.hid (fun x W (hw : Below w9.heap.size w9 W) => Set.has_string _ g kv vv K x W (S9.out.later hw) (by omega))
  have LE := Lib.hid (Set.len_string _ g kv vv K w9 S9.out)
  have HXK := Lib.hid (show (X = ⟨#[]⟩ ∧ K.length = 0) ∨ (X ≠ ⟨#[]⟩ ∧ K.length ≠ 0 ∧ X ∈ K) by rw [HX.out]; exact base_empty HG.out HXY.out.2.1 HXY.out.2.2.2 GM.out GN.out HK.out)
  rcases HXK.out with ⟨hx1, hx2⟩ | ⟨hx1, hx2, hx3⟩
  · have et : (⟨#[]⟩ : ByteArray).toList = [] := by simp [ByteArray.toList, ByteArray.toList.loop, ByteArray.size]
    have hx3 : (X.toList == []) = true := by rw [hx1, et]; rfl
    have hx4 : (X.toList != []) = false := by rw [hx1, et]; rfl
    have hx5 : (X.toList == (⟨#[]⟩ : ByteArray).toList) = true := by rw [hx1, et]; rfl
    have hx6 : (X.toList != (⟨#[]⟩ : ByteArray).toList) = false := by rw [hx1, et]; rfl
    rw [hx2] at LE
    clear hx1 HXK
    go_wp2_with fail
    refine LE.out.mono ?_
    rintro e _ ⟨rfl, rfl⟩
    clear LE hx2
    go_wp2_with fail
    go_loopw [19] (fun c wr => c = .int .i64 0 ∧ wr = w9) (fun c _ => 0)
    case atStart => exact ⟨rfl, rfl⟩
    case round =>
      obtain ⟨rfl, rfl⟩ := hrel
      have j7 : (0 : Int) < (m : Int) := by omega
      have d0 : wr.cell? ⟨B, 0, none⟩ = some (.string x.id) := (KA.out.below BE9.out KA.out.lt).cell 0
      have d1 : wr.cell? ⟨B + 1, 0, none⟩ = some (.string y.id) := (KB.out.below BE9.out KB.out.lt).cell 0
      go_wp2_with fail
      refine (AB.out x.id y.id wr BE9.out).mono ?_
      rintro e w20 hpost
      obtain ⟨rfl, hb20⟩ := above_again HG.out HXY.out.2.1 GM.out (by rw [← HXY.out.1]; exact hpost)
      have BE20 := Lib.hid (HW.out.trans ((BE9.out.trans (hb20.mono BE9.out.size)).mono HW.out.size))
      have d1' : w20.cell? ⟨B + 1, 0, none⟩ = some (.string y.id) := (KB.out.below (BE9.out.trans (hb20.mono BE9.out.size)) KB.out.lt).cell 0
      rw [← HXY.out.1]
      clear hpost hb20 d0 d1
      by_cases hup : x.id ≠ y.id ∧ y.id ∈ ids M
      · rw [holds_true hup]
        have hxy : X = y.id := by
          rw [HX.out, HXY.out.2.2.1]
          refine base_old HG.out HXY.out.2.1 HXY.out.2.2.2 GM.out GN.out ?_
          rw [← HXY.out.2.2.1]
          exact hup.2
        have HXE := Lib.hid hxy
        have zXY : (X.toList == y.id.toList) = true := by rw [hxy]; simp
        clear hup hxy
        go_wp2_with fail
        go_ret
        exact ⟨rfl, BE20.out⟩
      · rw [holds_false hup]
        clear hup
        go_wp2_with fail
        go_ret
        exact ⟨rfl, BE20.out⟩
  · have hx4 : (X.toList == (⟨#[]⟩ : ByteArray).toList) = false := ne_list hx1
    have et : (⟨#[]⟩ : ByteArray).toList = [] := by simp [ByteArray.toList, ByteArray.toList.loop, ByteArray.size]
    have hx5 : (X.toList == []) = false := by rw [et] at hx4; exact hx4
    have hx6 : (X.toList != []) = true := by rw [bne, hx5]; rfl
    have hx7 : (X.toList != (⟨#[]⟩ : ByteArray).toList) = true := by rw [et]; exact hx6
    obtain ⟨kl, hkl2⟩ : ∃ kl, kl = K.length := ⟨_, rfl⟩
    have kl0 : decide ((kl : Int) = 0) = false := decide_eq_false (by omega)
    have kl1 : ((kl : Int) == 0) = false := by simpa using kl0
    have kl2 : (kl : Int) ≠ 0 := by omega
    have HA := Lib.hid (HAS.out X w9 (Below.refl _ _))
    rw [Set.has_true hx3] at HA
    rw [← hkl2] at LE
    clear hx1 HXK hx2 hx3 hkl2
    go_wp2_with fail
    refine LE.out.mono ?_
    rintro e _ ⟨rfl, rfl⟩
    clear LE
    go_wp2_with fail
    refine HA.out.mono ?_
    rintro e w10 ⟨rfl, hd10⟩
    have BE10 := Lib.hid (show Below w9.heap.size w9 w10 from hd10.below _)
    have BZ10 := Lib.hid (BE9.out.trans (BE10.out.mono BE9.out.size))
    clear HA hd10 kl0 kl1 kl2
    go_wp2_with fail
    go_loopw [19] (fun c wr => ∃ i : Nat, c = .int .i64 (i : Int) ∧ i ≤ m ∧ Hid (Below w9.heap.size w9 wr)) (fun c _ => ((m : Int) - intOf c).toNat)
    case atStart => exact ⟨0, rfl, by omega, BE10⟩
    case round =>
      obtain ⟨i, rfl, him, HI⟩ := hrel
      obtain ⟨wo, rfl⟩ : ∃ wo, wo = wr := ⟨_, rfl⟩
      have BI := Lib.hid (BE9.out.trans (HI.out.mono BE9.out.size))
      rcases Nat.lt_or_ge i m with hi | hi
      · have i1 : (i : Int) < m := by omega
        have iw : IntKind.i64.wrap ((i : Int) + 1) = ((i + 1 : Nat) : Int) := IntWalk.i64_in _ (by omega)
        obtain ⟨u, hu⟩ : ∃ u, u = F i := ⟨_, rfl⟩
        have HU := Lib.hid hu
        have HCU := Lib.hid (fun W hw => by have := HC0.out W hw i hi; rwa [← hu] at this)
        clear hu
        go_wp2_with fail
        go_loopw [20] (fun c wx => ∃ j : Nat, c = .int .i64 (j : Int) ∧ j ≤ m ∧ Hid (Below w9.heap.size w9 wx)) (fun c _ => ((m : Int) - intOf c).toNat)
        case atStart => exact ⟨0, rfl, by omega, HI⟩
        case round =>
          obtain ⟨j, rfl, hjm, HJ⟩ := hrel
          have BJ := Lib.hid (BE9.out.trans (HJ.out.mono BE9.out.size))
          rcases Nat.lt_or_ge j m with hj | hj
          · have j1 : (j : Int) < m := by omega
            have jw : IntKind.i64.wrap ((j : Int) + 1) = ((j + 1 : Nat) : Int) := IntWalk.i64_in _ (by omega)
            obtain ⟨c0, c1, c2⟩ := HCU.out wr BJ.out
            have HA := Lib.hid (HAS.out u.id wr HJ.out)
            go_wp2_with fail
            refine HA.out.mono ?_
            rintro e w11 ⟨rfl, hd⟩
            have B11 := Lib.hid (HJ.out.trans ((hd.below _).mono HJ.out.size))
            have BZ := Lib.hid (BE9.out.trans (B11.out.mono BE9.out.size))
            clear HA hd c0 c1 c2
            by_cases hm : u.id ∈ K
            · rw [Set.has_true hm]
              have HM := Lib.hid hm
              clear hm
              obtain ⟨v, hv⟩ : ∃ v, v = F j := ⟨_, rfl⟩
              have e0 : ∀ z : LaterOf w11, z.w.cell? ⟨bl, off + i * 3, none⟩ = some (.string u.id) := fun z => (HCU.out z.w (BZ.out.trans (z.h.mono BZ.out.size))).1
              have e1 : ∀ z : LaterOf w11, z.w.cell? ⟨bl, off + i * 3 + 1, none⟩ = some (.int .i64 u.h) := fun z => (HCU.out z.w (BZ.out.trans (z.h.mono BZ.out.size))).2.1
              have e2 : ∀ z : LaterOf w11, z.w.cell? ⟨bl, off + i * 3 + 2, none⟩ = some (.slice u.pa u.np u.pc) := fun z => (HCU.out z.w (BZ.out.trans (z.h.mono BZ.out.size))).2.2
              have g0 : ∀ z : LaterOf w11, z.w.cell? ⟨bl, off + j * 3, none⟩ = some (.string v.id) := fun z => by rw [hv]; exact (HC0.out z.w (BZ.out.trans (z.h.mono BZ.out.size)) j hj).1
              have g1 : ∀ z : LaterOf w11, z.w.cell? ⟨bl, off + j * 3 + 1, none⟩ = some (.int .i64 v.h) := fun z => by rw [hv]; exact (HC0.out z.w (BZ.out.trans (z.h.mono BZ.out.size)) j hj).2.1
              have g2 : ∀ z : LaterOf w11, z.w.cell? ⟨bl, off + j * 3 + 2, none⟩ = some (.slice v.pa v.np v.pc) := fun z => by rw [hv]; exact (HC0.out z.w (BZ.out.trans (z.h.mono BZ.out.size)) j hj).2.2
              have HV := Lib.hid hv
              clear hv
              by_cases he : v.id = X
              · have hc := base_top HG.out HXY.out.2.1 HXY.out.2.2.2 GM.out GN.out HK.out hi hj (by rw [← HU.out]; exact HM.out) (by rw [← HV.out, he]; exact HX.out)
                rw [← HU.out, ← HV.out] at hc
                have C := Lib.hid (fun z : LaterOf w11 => compare_below u v z.w)
                obtain ⟨q, hq⟩ : ∃ q, q = cmpF u v := ⟨_, rfl⟩
                rw [← hq] at C hc
                have q1 : decide (q > 0) = false := decide_eq_false hc
                have q2 : decide (0 < q) = false := decide_eq_false (by omega)
                have ze : (v.id.toList == X.toList) = true := by rw [he]; simp
                clear he hc hq
                go_upto_region 23 with (fail)
                refine wp_region_all (fun w' => ∃ z : LaterOf w11, w' = z.w) (by kernel_rfl) (by kernel_rfl) ⟨LaterOf.start w11, rfl⟩ ?_
                repeat (go_big_quiet_step (first | exact LaterOf.call _ (C.out _)))
                refine wpQuiet_nil ?_
                intro w12 hw12
                obtain ⟨z, rfl⟩ := hw12
                clear C e0 e1 e2 g0 g1 g2
                go_wp2_with fail
                refine ⟨⟨j + 1, by simp, by omega, Lib.hid (B11.out.trans (z.h.mono B11.out.size))⟩, ?_⟩
                simp [intOf]
                omega
              · have ze : (v.id.toList == X.toList) = false := ne_list he
                clear he
                go_upto_region 23 with (fail)
                refine wp_region_all (fun w' => ∃ z : LaterOf w11, w' = z.w) (by kernel_rfl) (by kernel_rfl) ⟨LaterOf.start w11, rfl⟩ ?_
                repeat (go_big_quiet_step (fail))
                refine wpQuiet_nil ?_
                intro w12 hw12
                obtain ⟨z, rfl⟩ := hw12
                clear e0 e1 e2 g0 g1 g2
                go_wp2_with fail
                refine ⟨⟨j + 1, by simp, by omega, Lib.hid (B11.out.trans (z.h.mono B11.out.size))⟩, ?_⟩
                simp [intOf]
                omega
            · rw [Set.has_false hm]
              clear hm
              go_wp2_with fail
              refine ⟨⟨i + 1, by simp, by omega, B11⟩, ?_⟩
              simp [intOf]
              omega
          · have j1 : decide ((j : Int) < m) = false := decide_eq_false (by omega)
            have j2 : ¬ ((j : Int) < m) := by omega
            go_wp2_with fail
            refine ⟨⟨i + 1, by simp, by omega, HJ⟩, ?_⟩
            simp [intOf]
            omega
      · have i1 : decide ((i : Int) < m) = false := decide_eq_false (by omega)
        have i2 : ¬ ((i : Int) < m) := by omega
        have d0 : wo.cell? ⟨B, 0, none⟩ = some (.string x.id) := (KA.out.below BI.out KA.out.lt).cell 0
        have d1 : wo.cell? ⟨B + 1, 0, none⟩ = some (.string y.id) := (KB.out.below BI.out KB.out.lt).cell 0
        go_wp2_with fail
        refine (AB.out x.id y.id wo BI.out).mono ?_
        rintro e w20 hpost
        obtain ⟨rfl, hb20⟩ := above_again HG.out HXY.out.2.1 GM.out (by rw [← HXY.out.1]; exact hpost)
        have BE20 := Lib.hid (HW.out.trans ((BI.out.trans (hb20.mono BI.out.size)).mono HW.out.size))
        have d1' : w20.cell? ⟨B + 1, 0, none⟩ = some (.string y.id) := (KB.out.below (BI.out.trans (hb20.mono BI.out.size)) KB.out.lt).cell 0
        rw [← HXY.out.1]
        clear hpost hb20 d0 d1
        by_cases hup : x.id ≠ y.id ∧ y.id ∈ ids M
        · rw [holds_true hup]
          have hxy : X = y.id := by
            rw [HX.out, HXY.out.2.2.1]
            refine base_old HG.out HXY.out.2.1 HXY.out.2.2.2 GM.out GN.out ?_
            rw [← HXY.out.2.2.1]
            exact hup.2
          have HXE := Lib.hid hxy
          have zXY : (X.toList == y.id.toList) = true := by rw [hxy]; simp
          clear hup hxy
          go_wp2_with fail
          go_ret
          exact ⟨rfl, BE20.out⟩
        · rw [holds_false hup]
          clear hup
          go_wp2_with fail
          go_ret
          exact ⟨rfl, BE20.out⟩
end Go.Proofs.Ythcgdpdijdmelaa.Ord
