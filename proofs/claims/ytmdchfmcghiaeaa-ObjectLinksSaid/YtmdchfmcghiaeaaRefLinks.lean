/- The reference's Links and the law's same, walked. Conditions: the slices readable. -/
import Derived.Test.YtmdchfmcghiaeaaWith
import Derived.Test.YtmdchfmcghiaeaaLinks2
import Derived.Test.YtmdchfmcghiaeaaRGood
namespace Go.Proofs.Ytmdchfmcghiaeaa.Obj
set_option linter.unusedVariables false
open Go.RowKit Go.Sort Go.Lib
open Oct (Moved)
theorem addL_length (l : List Lk) (x : Lk) : (withL l x).length ≤ l.length + 1 := by
  unfold withL
  split
  · omega
  · unfold addL
    have := wOut_length x (fun i => l[i]!) l.length
    split
    · next h => rw [h] at this; simpa using this
    · next h =>
      rw [List.length_append, List.length_singleton]
      rw [if_neg h] at this
      omega
/-- The reference's list of the first n links. -/
noncomputable def foldW (f : Nat → Lk) : Nat → List Lk
  | 0 => []
  | k + 1 => withL (foldW f k) (f k)
theorem foldW_length (f : Nat → Lk) : ∀ n, (foldW f n).length ≤ n
  | 0 => Nat.le_refl _
  | n + 1 => Nat.le_trans (addL_length _ _) (by have := foldW_length f n; omega)
noncomputable def rlinksL (o : Plain) : List Lk := if o.good then foldW (rawF o) (rawN o) else []
set_option maxRecDepth 100000 in
set_option maxHeartbeats 1000000 in
theorem rlinks_any (o : Plain) (es ps : Value) (w : World) (he : EntsV w es o) (hp : StrsV w ps o) :
    Calls Try.prog 35 #[obj o.k o.d es o.t ps o.h o.n] w fun e w' => (∃ u, e = .returned u ∧ LinksOut w' u (rlinksL o)) ∧ Below w.heap.size w w' := by
  have O := Lib.hid (fun w he hp => rgood_any o es ps w he hp)
  have hlk : o.good = false → rlinksL o = [] := fun h => by unfold rlinksL; rw [h]; rfl
  have hlk2 : o.good = true → rlinksL o = foldW (rawF o) (rawN o) := fun h => by unfold rlinksL; rw [if_pos h]
  have hnp : o.good = true → o.k = 3 → o.np ≤ 8 := fun h hk => (commit_fields (enc_commit h hk).2).1
  have hne : o.good = true → o.k = 2 → o.ne ≤ 256 := fun h hk => (enc_tree h hk).2.2.1
  have hk123 : o.good = true → o.k = 1 ∨ o.k = 2 ∨ o.k = 3 := good_kinds
  have hb := ((Below.refl w.heap.size w).alloc (Nat.le_refl _) (.cells (objCells o es ps) 34)).alloc (by simp) (.cells #[] 53)
  have k1 : BlkIs ((w.alloc (.cells (objCells o es ps) 34)).alloc (.cells #[] 53)) w.heap.size 34 (objCells o es ps) := (BlkIs.new w 34 (objCells o es ps)).alloc _
  have k2 : BlkIs ((w.alloc (.cells (objCells o es ps) 34)).alloc (.cells #[] 53)) (w.heap.size + 1) 53 #[] := BlkIs.new2 _ _ _ _
  have hl0 : LinksOut ((w.alloc (.cells (objCells o es ps) 34)).alloc (.cells #[] 53)) (.slice (some ⟨w.heap.size + 1, 0, none⟩) 0 0) [] := ⟨_, 0, rfl, by show ((0 : Nat) : Int) ≤ _; decide, fun hh => absurd hh (Nat.lt_irrefl 0)⟩
  have H0 := Lib.hid (And.intro k1 (And.intro (he.later hb) (And.intro (hp.later hb) (And.intro hb hl0))))
  clear hb k1 k2 hl0
  have hraw2 : o.k = 2 → rawN o = o.ne ∧ rawF o = fun i => (o.kd i, o.id i) := fun hk => by unfold rawN rawF; rw [if_pos hk, if_pos hk]; exact ⟨rfl, rfl⟩
  have hraw3 : o.k = 3 → rawN o = o.np + 1 ∧ rawF o = fun i => if i = 0 then (2, o.t) else (3, o.f (i - 1)) := fun hk => by
    unfold rawN rawF
    rw [if_neg (by omega), if_pos hk, if_neg (by omega)]
    exact ⟨rfl, rfl⟩
  have hraw1 : o.k = 1 → rawN o = 0 := fun hk => by unfold rawN; rw [if_neg (by omega), if_neg (by omega)]
  generalize rawN o = rn at *
  generalize rawF o = rf at *
  obtain ⟨gx, hgx⟩ : ∃ g, g = o.good := ⟨_, rfl⟩
  obtain ⟨ls, hls⟩ : ∃ l, l = rlinksL o := ⟨_, rfl⟩
  rw [← hgx] at O hlk hlk2 hnp hk123 hne
  rw [← hls] at hlk hlk2 ⊢
  clear hgx hls
  obtain ⟨k, d, ne, nm, kd, id, t, np, f, h, n⟩ := o
  obtain ⟨ao, cap, rfl, he⟩ := he
  obtain ⟨ap, cp, rfl, hp⟩ := hp
  simp only at O hnp hk123 hraw2 hraw3 hraw1 hne ⊢
  have hm1 := he.1
  have hm2 := hp.1
  have HL := Lib.hid hlk
  have HL2 := Lib.hid hlk2
  have HNP := Lib.hid hnp
  have HNE := Lib.hid hne
  have HK := Lib.hid hk123
  have R2 := Lib.hid hraw2
  have R3 := Lib.hid hraw3
  have R1 := Lib.hid hraw1
  have HE := Lib.hid he
  have HP := Lib.hid hp
  clear hlk hlk2 hnp hk123 hraw1 hraw2 hraw3 he hp hne
  unfold obj at O ⊢
  go_enter Try.func35, Try.ntmps35
  go_wp2_with fail
  refine (O.out _ H0.out.2.1 H0.out.2.2.1).mono ?_
  rintro e w1 ⟨rfl, hb1⟩
  have H1 := Lib.hid (And.intro (H0.out.1.below hb1 H0.out.1.lt) (And.intro (H0.out.2.2.2.1.trans (hb1.mono H0.out.2.2.2.1.size)) (H0.out.2.2.2.2.later hb1)))
  clear hb1 O
  have c0 : w1.cell? ⟨w.heap.size, 0, none⟩ = some (.int .i64 k) := H1.out.1.cell 0
  cases gx
  case false =>
    obtain rfl := HL.out rfl
    go_wp2_with fail
    go_ret
    exact ⟨⟨_, rfl, H1.out.2.2⟩, H1.out.2.1⟩
  case true =>
    obtain rfl := HL2.out rfl
    have hk := HK.out rfl
    have hnp8 := HNP.out rfl
    have hne8 := HNE.out rfl
    clear HL HL2 HNP HK HNE
    rcases hk with rfl | rfl | rfl
    case inl =>
      obtain rfl := R1.out rfl
      go_wp2_with fail
      go_ret
      exact ⟨⟨_, rfl, H1.out.2.2⟩, H1.out.2.1⟩
    case inr.inl =>
      obtain ⟨rfl, rfl⟩ := R2.out rfl
      have hn8 := hne8 rfl
      clear R1 R2 R3 hnp8 hne8
      have hlt := H1.out.1.lt
      go_wp2_with fail
      clear c0
      go_loopw [3, 4] (fun v i wr => ∃ j : Nat, i = .int .i64 (j : Int) ∧ j ≤ rn ∧ LinksOut wr v (foldW (fun i => (kd i, id i)) j) ∧ Below w1.heap.size w1 wr) (fun _ i _ => ((rn : Int) - intOf i).toNat)
      case atStart => exact ⟨0, rfl, by omega, H1.out.2.2, Below.refl _ _⟩
      case round =>
        obtain ⟨j, rfl, hj, hl, hb⟩ := hrel
        have hlv := hl
        obtain ⟨ao1, cap1, rfl, -⟩ := hl
        have c2 : wr.cell? ⟨w.heap.size, 2, none⟩ = some (.slice ao rn cap) := (H1.out.1.below hb hlt).cell 2
        have hbb := H1.out.2.1.trans (hb.mono H1.out.2.1.size)
        rcases Nat.lt_or_ge j rn with hj1 | hj1
        case inl =>
          have ji : (j : Int) < rn := by omega
          obtain ⟨b, off, rfl, hbw, hcell⟩ := HE.out.2 (by omega)
          have p0 : ∀ q : Nat, (wr.drewN q).cell? ⟨b, off + j * 3, none⟩ = some (.string (nm j)) := fun q => (hbb.cell hbw).trans (hcell j hj1).1
          have p1 : ∀ q : Nat, (wr.drewN q).cell? ⟨b, off + j * 3 + 1, none⟩ = some (.int .i64 (kd j)) := fun q => (hbb.cell hbw).trans (hcell j hj1).2.1
          have p2 : ∀ q : Nat, (wr.drewN q).cell? ⟨b, off + j * 3 + 2, none⟩ = some (.string (id j)) := fun q => (hbb.cell hbw).trans (hcell j hj1).2.2
          have c2q : ∀ q : Nat, (wr.drewN q).cell? ⟨w.heap.size, 2, none⟩ = some (.slice (some ⟨b, off, none⟩) rn cap) := fun q => c2
          have HW := Lib.hid (fun q => with_any _ (foldW (fun i => (kd i, id i)) j) (kd j, id j) (wr.drewN q) (hlv.later (((DrawsOf.refl wr).drewN q).below _)) (by have := foldW_length (fun i => (kd i, id i)) j; omega))
          have HB := Lib.hid hb
          have hlen : (foldW (fun i => (kd i, id i)) j).length ≤ j := foldW_length _ _
          clear hcell hb hbb hlv
          go_upto_region 8 with (fail)
          clear c2
          refine wp_region_heads (fun w' => ∃ q : Nat, w' = wr.drewN q) 14 (by kernel_rfl) (by kernel_rfl) ⟨1, rfl⟩ ?_
          simp only [List.take_succ_cons, List.take_zero, List.drop_succ_cons, List.drop_zero]
          repeat (go_big_quiet_step (fail))
          refine wpQuiet_nil ?_
          intro w3 hw3
          obtain ⟨q, rfl⟩ := hw3
          clear p0 p1 p2 c2q
          go_wp2_with fail
          refine (HW.out q).mono ?_
          rintro e w4 ⟨⟨u, rfl, hu⟩, hb4⟩
          have H4 := Lib.hid (And.intro hu ((HB.out.trans (((DrawsOf.refl wr).drewN q).below _)).trans (hb4.mono (HB.out.trans (((DrawsOf.refl wr).drewN q).below _)).size)))
          clear hu hb4
          go_wp2_with fail
          refine ⟨⟨j + 1, rfl, hj1, H4.out.1, H4.out.2⟩, ?_⟩
          simp [intOf]
          omega
        case inr =>
          have ji : (rn : Int) ≤ j := by omega
          obtain rfl : j = rn := by omega
          have H := Lib.hid (And.intro hlv hbb)
          clear hlv hb hbb
          go_wp2_with fail
          go_ret
          exact ⟨⟨_, rfl, H.out.1⟩, H.out.2⟩
    case inr.inr =>
      obtain ⟨rfl, rfl⟩ := R3.out rfl
      have hn8 := hnp8 rfl
      clear R1 R2 R3 hnp8 hne8
      have hlt := H1.out.1.lt
      have c3 : w1.cell? ⟨w.heap.size, 3, none⟩ = some (.string t) := H1.out.1.cell 3
      have HW0 := Lib.hid (with_any _ [] (2, t) w1 H1.out.2.2 (by decide))
      go_wp2_with fail
      refine HW0.out.mono ?_
      rintro e w2 ⟨⟨u0, rfl, hu0⟩, hb2⟩
      have H2 := Lib.hid (And.intro hu0 hb2)
      clear hu0 hb2 c0 c3
      go_wp2_with fail
      go_loopw [3, 5] (fun v i wr => ∃ j : Nat, i = .int .i64 (j : Int) ∧ j ≤ np ∧ LinksOut wr v (foldW (fun i => if i = 0 then (2, t) else (3, f (i - 1))) (j + 1)) ∧ Below w1.heap.size w1 wr) (fun _ i _ => ((np : Int) - intOf i).toNat)
      case atStart => exact ⟨0, rfl, by omega, H2.out.1, H2.out.2⟩
      case round =>
        obtain ⟨j, rfl, hj, hl, hb⟩ := hrel
        have hlv := hl
        obtain ⟨ao1, cap1, rfl, -⟩ := hl
        have c4 : wr.cell? ⟨w.heap.size, 4, none⟩ = some (.slice ap np cp) := (H1.out.1.below hb hlt).cell 4
        have hbb := H1.out.2.1.trans (hb.mono H1.out.2.1.size)
        rcases Nat.lt_or_ge j np with hj1 | hj1
        case inl =>
          have ji : (j : Int) < np := by omega
          obtain ⟨b, off, rfl, hbw, hcell⟩ := HP.out.2 (by omega)
          have p0 : wr.cell? ⟨b, off + j, none⟩ = some (.string (f j)) := (hbb.cell hbw).trans (hcell j hj1)
          have hlen : (foldW (fun i => if i = 0 then (2, t) else (3, f (i - 1))) (j + 1)).length ≤ j + 1 := foldW_length _ _
          have HW := Lib.hid (with_any _ (foldW (fun i => if i = 0 then (2, t) else (3, f (i - 1))) (j + 1)) (3, f j) wr hlv (by omega))
          have HB := Lib.hid hb
          clear hcell hb hbb hlv
          go_wp2_with fail
          refine HW.out.mono ?_
          rintro e w4 ⟨⟨u, rfl, hu⟩, hb4⟩
          have H4 := Lib.hid (And.intro hu (HB.out.trans (hb4.mono HB.out.size)))
          clear hu hb4 c4 p0
          go_wp2_with fail
          refine ⟨⟨j + 1, rfl, hj1, H4.out.1, H4.out.2⟩, ?_⟩
          simp [intOf]
          omega
        case inr =>
          have ji : (np : Int) ≤ j := by omega
          obtain rfl : j = np := by omega
          have H := Lib.hid (And.intro hlv hbb)
          clear hlv hb hbb
          go_wp2_with fail
          go_ret
          exact ⟨⟨_, rfl, H.out.1⟩, H.out.2⟩
end Go.Proofs.Ytmdchfmcghiaeaa.Obj
