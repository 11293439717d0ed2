/- order's met, walked. Conditions: the book as a map, the facts' parents readable, at most 1,000,000 facts. (Layer 11.) -/
import Derived.Test.YthcgdpdijdmelaaGreatOrd9
namespace Go.Proofs.YthcgdpdijdmelaaGreat.Ord
set_option linter.unusedVariables false
open Go.RowKit Go.Sort Go.Lib
theorem enc_one (x : Fv) : ∀ u ∈ encF x, u.oneCell' = true := by
  intro u hu
  simp [encF] at hu
  rcases hu with rfl | rfl | rfl <;> rfl
theorem fcells_snoc (l : List Fv) (x : Fv) : fcells l ++ encF x = fcells (l ++ [x]) := by simp [fcells]
theorem MetW.row {w : World} {g gs n : Nat} {f : Nat → Fv} {s : ByteArray} {v : Value} {i c : Nat} {ix : List Nat} {wr : World} (h : MetW w g gs n f s v i c ix wr) (hi : i < ix.length) :
    ∃ b off cap, v = .slice (some ⟨b, off, none⟩) ix.length cap ∧ ix.length ≤ cap ∧ w.heap.size ≤ b ∧ b < wr.heap.size ∧ wr.cell? ⟨b, off + i * 3 + 2, none⟩ = some (.slice (f ix[i]).pa (f ix[i]).np (f ix[i]).pc) := by
  obtain ⟨b, off, cap, hv, h1, h2, h3, h4, h5, h6⟩ := h.sl.at_ (by omega)
  refine ⟨b, off, cap, hv, h3, h1, h2, ?_⟩
  have hl := fcells_length (ix.map f)
  rw [List.length_map] at hl
  have hg := (fcells_get (ix.map f) i (by simpa using hi)).2.2
  rw [Nat.add_assoc, h5 (i * 3 + 2) (by omega), hg]
  simp
theorem met_none (n : Nat) (f : Nat → Fv) (s : ByteArray) (g : Nat) (w : World) (hb : SMap w g (bookL n f)) (h : ¬ Here n f s) :
    Calls Tryz.prog 22 #[.map (some g), .string s] w fun e w' => MetOut n f s w w' e := by
  have V := Lib.hid (lookT_none (.agg #[.string ⟨#[]⟩, .int .i64 0, .slice none 0 0]) (book_none h))
  have HH := Lib.hid h
  have HB := Lib.hid hb
  have hz := Tryz.zeroValue28
  have hu := Tryz.underlying58
  have hs := Tryz.underlying9
  clear h hb
  go_enter Tryz.func22, Tryz.ntmps22
  go_wp2_with (at_lookup; refine wpList_lookup_ok rfl _ _ rfl hu hs (hz _) rfl HB.out s rfl V.out ?_)
  go_ret2
  exact met_end0 HH.out ((Below.refl _ _).alloc (Nat.le_refl _) _)
theorem MetW.grow {w : World} {g gs n : Nat} {f : Nat → Fv} {s : ByteArray} {v v1 : Value} {i c j : Nat} {ix : List Nat} {wr wa wb wc : World} (h : MetW w g gs n f s v i c ix wr) (hgs : w.heap.size ≤ gs)
    (hi : i < ix.length) (hc : c < (f ix[i]).np) (hj : j < n) (he : (f j).id = (f ix[i]).p c) (hn : ∀ j' ∈ ix, (f j').id ≠ (f j).id)
    (ha : Below w.heap.size w wa) (hm2 : SMap wb gs (putAt (seenL f ix) (f j).id (.bool true))) (hg2 : wa.grownBy wb (some gs)) (o : Obj)
    (hs1 : SlIs wc w.heap.size 28 3 v1 (ix.length + 1) (fcells (ix.map f) ++ encF (f j))) (hg1 : (wb.alloc o).grownBy wc v.ownBlock) (hne : v.ownBlock ≠ some gs) (hlt : ∀ k, v.ownBlock = some k → w.heap.size ≤ k) :
    MetW w g gs n f s v1 i (c + 1) (ix ++ [j]) wc where
  inv := h.inv.new hi hc hj he hn
  sl := by
    have e : fcells (ix.map f) ++ encF (f j) = fcells ((ix ++ [j]).map f) := by rw [fcells_snoc, List.map_append]; rfl
    rw [e] at hs1
    simpa using hs1
  seen := by
    rw [← seenL_put hn]
    exact (hm2.alloc o).grown hg1 (Ne.symm hne)
  below := by
    have h1 := ha.trans (grown_below hg2 hgs ha.size)
    exact (h1.alloc h1.size o).grown hg1 (by simp only [World.size_alloc]; have := h1.size; omega) hlt
theorem MetW.skip {w : World} {g gs n : Nat} {f : Nat → Fv} {s : ByteArray} {v : Value} {i c j : Nat} {ix : List Nat} {wr : World} (h : MetW w g gs n f s v i c ix wr) (hgs : gs < wr.heap.size)
    (hi : i < ix.length) (hj : j ∈ ix) (he : (f j).id = (f ix[i]).p c) (o : Obj) : MetW w g gs n f s v i (c + 1) ix (wr.alloc o) where
  inv := h.inv.old hi hj he
  sl := h.sl.alloc o
  seen := h.seen.alloc o
  below := h.below.alloc h.below.size o
/-- The inner rounds' keeping. -/
def InMet (w : World) (g gs n : Nat) (f : Nat → Fv) (s : ByteArray) (i j0 c : Nat) (v : Value) (ix : List Nat) (wr : World) : Prop :=
  ∃ hi : i < ix.length, ix[i] = j0 ∧ MetW w g gs n f s v i c ix wr
set_option maxRecDepth 100000 in
set_option maxHeartbeats 1000000 in
theorem met_some (n : Nat) (f : Nat → Fv) (i0 : Nat) (s : ByteArray) (g : Nat) (w : World) (hi0 : i0 < n) (hs0 : (f i0).id = s) (hn : n ≤ 1000000) (hd : Dist n f) (hst : ∀ i, i < n → StrsAt w (f i).pa (f i).np (f i).p) (hb : SMap w g (bookL n f)) :
    Calls Tryz.prog 22 #[.map (some g), .string s] w fun e w' => MetOut n f s w w' e := by
  obtain ⟨q, V⟩ := book_some hd hi0
  rw [hs0] at V
  have V := Lib.hid (lookT_some (.agg #[.string ⟨#[]⟩, .int .i64 0, .slice none 0 0]) V)
  obtain ⟨y, hy⟩ : ∃ y, y = f i0 := ⟨_, rfl⟩
  rw [← hy] at V
  unfold aggF at V
  have HY := Lib.hid (And.intro hy (And.intro hi0 hs0))
  have HB := Lib.hid hb
  have HD := Lib.hid hd
  have HST := Lib.hid hst
  have HH := Lib.hid (show Here n f s from ⟨i0, hi0, hs0⟩)
  have hgw := hb.lt
  have hz := Tryz.zeroValue28
  have hz2 := Tryz.zeroValue4
  have hu := Tryz.underlying58
  have hu2 := Tryz.underlying87
  have hs := Tryz.underlying9
  have hmm := @run_makeMap Tryz.prog
  clear hy hi0 hs0 hb hd hst
  go_enter Tryz.func22, Tryz.ntmps22
  go_wp2_with (first
    | (at_lookup; refine wpList_lookup_ok rfl _ _ rfl hu hs (hz _) rfl HB.out s rfl V.out ?_)
    | (refine wpList_insert_smap rfl _ _ _ rfl hu2 hs rfl (smap_new1 _ _ 0) s rfl _ rfl ?_
       intro w1 hm1 hg1
       have hb1 := ((Below.refl w.heap.size w).alloc (Nat.le_refl _) (.cells #[.string y.id, .int .i64 y.h, .slice y.pa y.np y.pc] 28)).alloc (by simp) (.map #[] 0)
       have hk1 : BlkIs w1 w.heap.size 28 #[.string y.id, .int .i64 y.h, .slice y.pa y.np y.pc] := ((BlkIs.new w 28 _).alloc _).grown hg1 (by simp)
       have hw1 := hb1.trans (grown_below hg1 (by omega) (by simp; omega))
       have H1 := Lib.hid (And.intro hm1 (And.intro hk1 hw1))
       have e0 : w1.cell? ⟨w.heap.size, 0, none⟩ = some (.string y.id) := hk1.cell 0
       have e1 : w1.cell? ⟨w.heap.size, 1, none⟩ = some (.int .i64 y.h) := hk1.cell 1
       have e2 : w1.cell? ⟨w.heap.size, 2, none⟩ = some (.slice y.pa y.np y.pc) := hk1.cell 2
       clear hm1 hg1 hb1 hk1 hw1))
  clear V hmm
  have H0 := Lib.hid (show ∃ ix : List Nat, ∃ v, v = Value.slice (some ⟨w1.heap.size, 0, none⟩) 1 1 ∧ MetW w g (w.heap.size + 1) n f s v 0 0 ix (w1.alloc (.cells #[.string y.id, .int .i64 y.h, .slice y.pa y.np y.pc] 28)) from
    ⟨[i0], _, rfl, by
      have := MetInv.init (f := f) HY.out.2.1
      rw [HY.out.2.2] at this
      exact this, by
      have := SlIs.made (w := w1.alloc (.cells #[.string y.id, .int .i64 y.h, .slice y.pa y.np y.pc] 28)) (base := w.heap.size) (n := 1) (size := 3) (BlkIs.new w1 28 #[.string y.id, .int .i64 y.h, .slice y.pa y.np y.pc]) H1.out.2.2.size rfl (by decide)
      rw [HY.out.1] at this ⊢
      exact this, by
      have := H1.out.1
      rw [← HY.out.2.2] at this
      exact this.alloc _, H1.out.2.2.alloc H1.out.2.2.size _⟩)
  clear e0 e1 e2
  obtain ⟨W, hW⟩ : ∃ W, W = w1.alloc (.cells #[.string y.id, .int .i64 y.h, .slice y.pa y.np y.pc] 28) := ⟨_, rfl⟩
  rw [← hW] at H0 ⊢
  clear hW
  go_loopw [9, 10] (fun v i wr => ∃ k : Nat, i = .int .i64 (k : Int) ∧ Hid (∃ ix : List Nat, k ≤ ix.length ∧ MetW w g (w.heap.size + 1) n f s v k 0 ix wr)) (fun _ i _ => ((n : Int) - intOf i).toNat)
  case atStart =>
    obtain ⟨ix, v, rfl, hM⟩ := H0.out
    exact ⟨0, rfl, Lib.hid ⟨ix, Nat.zero_le _, hM⟩⟩
  case round =>
    obtain ⟨k, rfl, HK⟩ := hrel
    obtain ⟨ix, hk, hM⟩ := HK.out
    clear HK H0
    rcases Nat.lt_or_ge k ix.length with hk1 | hk1
    · obtain ⟨b, off, cap, rfl, hcap, hbb, hblt, hc2⟩ := hM.row hk1
      have ki : (k : Int) < ix.length := by omega
      have hkn := hM.inv.len
      have hlm := hM.inv.lt _ (List.getElem_mem hk1)
      obtain ⟨j0, hj0⟩ : ∃ j, j = ix[k] := ⟨_, rfl⟩
      rw [← hj0] at hc2 hlm
      obtain ⟨z, hzf⟩ : ∃ z, z = f j0 := ⟨_, rfl⟩
      have hstz := HST.out j0 hlm
      rw [← hzf] at hc2 hstz
      have HZ := Lib.hid (And.intro hzf hlm)
      have HSZ := Lib.hid hstz
      have hmz := hstz.1
      have HM := Lib.hid (show InMet w g (w.heap.size + 1) n f s k j0 0 (.slice (some ⟨b, off, none⟩) ix.length cap) ix wr from ⟨hk1, hj0.symm, hM⟩)
      clear hM hj0 hzf hstz
      go_wp2_with fail
      go_loopw [9, 40] (fun v c wr => ∃ m : Nat, c = .int .i64 (m : Int) ∧ m ≤ z.np ∧ Hid (∃ ix : List Nat, InMet w g (w.heap.size + 1) n f s k j0 m v ix wr)) (fun _ c _ => ((z.np : Int) - intOf c).toNat)
      case atStart => exact ⟨0, rfl, by omega, Lib.hid ⟨ix, HM.out⟩⟩
      case round =>
        obtain ⟨m, rfl, hm, HI⟩ := hrel
        obtain ⟨ix1, hI⟩ := HI.out
        clear HI HM
        obtain ⟨hk2, hj2, hM⟩ := hI
        have hbw := hM.below.size
        rcases Nat.lt_or_ge m z.np with hm1 | hm1
        · obtain ⟨bp, offp, hpa, hlt, hcell⟩ := HSZ.out.2 (by omega)
          have c0 := hcell m hm1
          rw [← hM.below.cell hlt] at c0
          rw [hpa]
          have mi : (m : Int) < z.np := by omega
          obtain ⟨p, hp⟩ : ∃ p, p = z.p m := ⟨_, rfl⟩
          rw [← hp] at c0
          have HP := Lib.hid (show p = (f ix1[k]).p m from by rw [hp, HZ.out.1, hj2])
          have hpn : m < (f ix1[k]).np := by rw [hj2, ← HZ.out.1]; exact hm1
          have HM := Lib.hid (And.intro hM (And.intro hpn hj2))
          have hl1 := hM.inv.len
          have hM2 := hM
          obtain ⟨ao1, cap1, hv1, hnc1, hcm1, hao1⟩ := hM.sl.form
          subst hv1
          clear hcell hM hp hpn hj2
          by_cases hh : Here n f p
          · obtain ⟨j, hj, he⟩ := hh
            obtain ⟨q2, V⟩ := book_some HD.out hj
            rw [he] at V
            have V := Lib.hid (lookT_some (.agg #[.string ⟨#[]⟩, .int .i64 0, .slice none 0 0]) V)
            obtain ⟨x, hx⟩ : ∃ x, x = f j := ⟨_, rfl⟩
            rw [← hx] at V
            unfold aggF at V
            have HJ := Lib.hid (And.intro hj (And.intro he hx))
            by_cases hsn : ∃ j' ∈ ix1, (f j').id = p
            · obtain ⟨j', hj', he'⟩ := hsn
              obtain ⟨q3, V2⟩ := seen_some 0 hj'
              rw [he'] at V2
              have V2 := Lib.hid (lookF_some (.bool false) V2)
              have HJ' := Lib.hid (And.intro hj' he')
              clear hj he hx hj' he'
              go_wp2_with (first
                | (at_lookup; refine wpList_lookup_ok rfl _ _ rfl hu hs (hz _) rfl (HM.out.1.book HB.out) p rfl V.out ?_)
                | (at_lookup; refine wpList_lookup_one rfl _ _ rfl hu2 hs (hz2 _) rfl (HM.out.1.seen.alloc _) p rfl V2.out ?_))
              refine ⟨⟨m + 1, rfl, hm1, Lib.hid ⟨ix1, hk2, ?_, ?_⟩⟩, ?_⟩
              · exact HM.out.2.2
              · exact HM.out.1.skip (by have := HM.out.1.seen.lt; omega) hk2 HJ'.out.1 (by rw [HJ'.out.2]; exact HP.out) _
              · simp [intOf]
                omega
            · have hsn' : ∀ j' ∈ ix1, (f j').id ≠ p := fun j' hj' he' => hsn ⟨j', hj', he'⟩
              have V2 := Lib.hid (lookF_none (.bool false) (seen_none hsn'))
              have HJ' := Lib.hid hsn'
              have ha := hM2.below.alloc hbw (.cells #[.string x.id, .int .i64 x.h, .slice x.pa x.np x.pc] 28)
              have hx1 := BlkIs.new wr 28 #[.string x.id, .int .i64 x.h, .slice x.pa x.np x.pc]
              have hgs := hM2.seen.lt
              have HA := Lib.hid (And.intro ha hx1)
              clear hj he hx hsn hsn' ha hx1 hM2
              go_wp2_with (first
                | (at_lookup; refine wpList_lookup_ok rfl _ _ rfl hu hs (hz _) rfl (HM.out.1.book HB.out) p rfl V.out ?_)
                | (at_lookup; refine wpList_lookup_one rfl _ _ rfl hu2 hs (hz2 _) rfl (HM.out.1.seen.alloc _) p rfl V2.out ?_)
                | (at_mapUpdate
                   refine wpList_update_smap rfl _ _ _ rfl hu2 hs rfl (HM.out.1.seen.alloc _) p rfl _ rfl ?_
                   intro w2 hm2 hg2
                   have hx2 := HA.out.2.grown hg2 (by simp; omega)
                   have e0 : w2.cell? ⟨wr.heap.size, 0, none⟩ = some (.string x.id) := hx2.cell 0
                   have e1 : w2.cell? ⟨wr.heap.size, 1, none⟩ = some (.int .i64 x.h) := hx2.cell 1
                   have e2 : w2.cell? ⟨wr.heap.size, 2, none⟩ = some (.slice x.pa x.np x.pc) := hx2.cell 2
                   have hs2 := (HM.out.1.sl.alloc (.cells #[.string x.id, .int .i64 x.h, .slice x.pa x.np x.pc] 28)).kept hg2 (Or.inr (ne_map HM.out.1.sl HM.out.1.seen))
                   have hz2' : w.heap.size ≤ w2.heap.size := Nat.le_trans HA.out.1.size hg2.size
                   have H2 := Lib.hid (And.intro hm2 (And.intro hg2 hs2))
                   clear hm2 hg2 hx2 hs2)
                | (at_builtin
                   refine wpList_append_sl rfl _ _ _ 24 rfl el_fact (.slice ao1 ix1.length cap1) ix1.length (fcells (ix1.map f)) rfl (H2.out.2.2.alloc _) _ 1 (encF x) rfl (SrcIs.own Tryz.underlying24 (SlIs.made (base := 0) (BlkIs.new _ _ _) (Nat.zero_le _) rfl (by decide))) (enc_one x) (by unfold maxLen; omega) (by omega) (by simp only [World.size_alloc]; omega) ?_
                   intro v1 w3 hs1 hg1 hat1
                   have H3 := Lib.hid (And.intro hs1 hg1)
                   clear hs1 hg1 hat1 hao1))
              refine ⟨⟨m + 1, rfl, hm1, Lib.hid ⟨ix1 ++ [j], by simp; omega, ?_, ?_⟩⟩, ?_⟩
              · rw [List.getElem_append_left hk2]; exact HM.out.2.2
              · have hs3 := H3.out.1
                have hm3 := H2.out.1
                rw [HJ.out.2.2] at hs3
                rw [← HJ.out.2.1] at hm3
                exact HM.out.1.grow (by omega) hk2 HM.out.2.1 HJ.out.1 (HJ.out.2.1.trans HP.out) (fun j' hj' => by rw [HJ.out.2.1]; exact HJ'.out j' hj') HA.out.1 hm3 H2.out.2.1 _ hs3 H3.out.2 (ne_map HM.out.1.sl HM.out.1.seen) (fun k hk => (HM.out.1.sl.lt k hk).1)
              · simp [intOf]
                omega
          · have V := Lib.hid (lookT_none (.agg #[.string ⟨#[]⟩, .int .i64 0, .slice none 0 0]) (book_none hh))
            have HHH := Lib.hid hh
            clear hh
            go_wp2_with (at_lookup; refine wpList_lookup_ok rfl _ _ rfl hu hs (hz _) rfl (HM.out.1.book HB.out) p rfl V.out ?_)
            go_ret2
            exact met_end1 HH.out (HM.out.1.inv.parent hk2 HM.out.2.1) (by rw [← HP.out]; exact HHH.out) (HM.out.1.below.alloc HM.out.1.below.size _)
        · have mi : (z.np : Int) ≤ (m : Int) := by omega
          obtain rfl : m = z.np := by omega
          have hN := hM
          have hnp : z.np = (f ix1[k]).np := by rw [hj2, ← HZ.out.1]
          rw [hnp] at hN
          have HN := Lib.hid (And.intro (hN.inv.next hk2) (And.intro hM.sl (And.intro hM.seen hM.below)))
          have hln := hM.inv.len
          clear hN hnp hM hj2
          go_wp2_with fail
          refine ⟨⟨k + 1, rfl, Lib.hid ⟨ix1, hk2, ⟨HN.out.1, HN.out.2.1, HN.out.2.2.1, HN.out.2.2.2⟩⟩⟩, ?_⟩
          simp [intOf]
          omega
    · obtain rfl : k = ix.length := by omega
      obtain ⟨ao1, cap1, hv1, hnc1, hcm1, hao1⟩ := hM.sl.form
      subst hv1
      have ki : (ix.length : Int) ≤ (ix.length : Int) := by omega
      have hkn := hM.inv.len
      have hpos : 0 < ix.length := by
        obtain ⟨j, hj, _⟩ := hM.inv.start
        exact List.length_pos_of_mem hj
      have S := Lib.hid (sort_factsl w.heap.size (ix.map f) (.slice ao1 ix.length cap1) wr (by rw [List.length_map]; exact hM.sl) hM.below.size (by rw [List.length_map]; exact hpos) (by rw [List.length_map]; omega))
      have HM := Lib.hid (And.intro hM.inv hM.below)
      clear hM hao1
      go_wp2_with fail
      refine S.out.mono ?_
      rintro e w8 ⟨rfl, hS, hb8⟩
      have H8 := Lib.hid (And.intro hS (HM.out.2.trans hb8))
      clear hS hb8 S
      go_wp2_with fail
      go_ret2
      exact met_end2 HD.out HH.out HST.out (by omega) HM.out.1 H8.out.1 H8.out.2
theorem met_any (n : Nat) (f : Nat → Fv) (s : ByteArray) (g : Nat) (w : World) (hn : n ≤ 1000000) (hd : Dist n f) (hst : ∀ i, i < n → StrsAt w (f i).pa (f i).np (f i).p) (hb : SMap w g (bookL n f)) :
    Calls Tryz.prog 22 #[.map (some g), .string s] w fun e w' => MetOut n f s w w' e := by
  by_cases h : Here n f s
  · obtain ⟨i, hi, he⟩ := h
    exact met_some n f i s g w hi he hn hd hst hb
  · exact met_none n f s g w hb h
end Go.Proofs.YthcgdpdijdmelaaGreat.Ord
