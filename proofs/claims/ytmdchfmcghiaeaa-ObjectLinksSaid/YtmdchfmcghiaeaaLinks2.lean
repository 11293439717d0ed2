/- object.Links, walked: what an object names, rising, each once. Conditions: at most 1,000,000 entries; the slices readable. -/
import Derived.Test.YtmdchfmcghiaeaaLinks
import Derived.Test.YtmdchfmcghiaeaaOne
import Derived.Test.YtmdchfmcghiaeaaCutLaw
namespace Go.Proofs.Ytmdchfmcghiaeaa.Obj
set_option linter.unusedVariables false
open Go.RowKit Go.Sort Go.Lib
open Oct (Moved)
/-- What an object names, as it comes: how many, and which. -/
def rawN (o : Plain) : Nat := if o.k = 2 then o.ne else if o.k = 3 then o.np + 1 else 0
def rawF (o : Plain) : Nat → Lk := if o.k = 2 then fun i => (o.kd i, o.id i) else fun i => if i = 0 then (2, o.t) else (3, o.f (i - 1))
/-- What Links hands back. -/
def linksL (o : Plain) : List Lk := if o.good then outL (rawF o) (rawN o) else []
theorem linksOut_nil (w : World) : LinksOut w (.slice none 0 0) [] := ⟨none, 0, rfl, by show ((0 : Nat) : Int) ≤ _; decide, fun hh => absurd hh (Nat.lt_irrefl 0)⟩
set_option maxRecDepth 100000 in
set_option maxHeartbeats 1000000 in
theorem links_any (o : Plain) (es ps : Value) (w : World) (he : EntsV w es o) (hp : StrsV w ps o) (hn : o.ne ≤ 1000000) :
    Calls Try.prog 34 #[obj o.k o.d es o.t ps o.h o.n] w fun e w' => (∃ u, e = .returned u ∧ LinksOut w' u (linksL o)) ∧ Below w.heap.size w w' := by
  have O := Lib.hid (fun w he hp => good_any o es ps w he hp hn)
  have hlk : o.good = false → linksL o = [] := fun h => by unfold linksL; rw [h]; rfl
  have hlk2 : o.good = true → linksL o = outL (rawF o) (rawN o) := fun h => by unfold linksL; rw [if_pos h]
  have hnp : o.good = true → o.k = 3 → o.np ≤ 8 := fun h hk => (commit_fields (enc_commit h hk).2).1
  have hk123 : o.good = true → o.k = 1 ∨ o.k = 2 ∨ o.k = 3 := good_kinds
  have hb := (Below.refl w.heap.size w).alloc (Nat.le_refl _) (.cells (objCells o es ps) 34)
  have k1 := BlkIs.new w 34 (objCells o es ps)
  have H0 := Lib.hid (And.intro k1 (And.intro (he.later hb) (And.intro (hp.later hb) hb)))
  clear hb k1
  have hraw2 : o.k = 2 → rawN o = o.ne ∧ rawF o = fun i => (o.kd i, o.id i) := fun hk => by unfold rawN rawF; rw [if_pos hk, if_pos hk]; exact ⟨rfl, rfl⟩
  have hraw3 : o.k = 3 → rawN o = o.np + 1 ∧ rawF o = fun i => if i = 0 then (2, o.t) else (3, o.f (i - 1)) := fun hk => by
    unfold rawN rawF
    rw [if_neg (by omega), if_pos hk, if_neg (by omega)]
    exact ⟨rfl, rfl⟩
  have hraw1 : o.k = 1 → rawN o = 0 := fun hk => by unfold rawN; rw [if_neg (by omega), if_neg (by omega)]
  generalize rawN o = rn at *
  generalize rawF o = rf at *
  obtain ⟨gx, hgx⟩ : ∃ g, g = o.good := ⟨_, rfl⟩
  obtain ⟨ls, hls⟩ : ∃ l, l = linksL o := ⟨_, rfl⟩
  rw [← hgx] at O hlk hlk2 hnp hk123
  rw [← hls] at hlk hlk2 ⊢
  clear hgx hls
  obtain ⟨k, d, ne, nm, kd, id, t, np, f, h, n⟩ := o
  obtain ⟨ao, cap, rfl, he⟩ := he
  obtain ⟨ap, cp, rfl, hp⟩ := hp
  simp only at hn O hnp hk123 hraw2 hraw3 hraw1 ⊢
  have hm1 := he.1
  have hm2 := hp.1
  have HL := Lib.hid hlk
  have HL2 := Lib.hid hlk2
  have HNP := Lib.hid hnp
  have HK := Lib.hid hk123
  have R2 := Lib.hid hraw2
  have R3 := Lib.hid hraw3
  have R1 := Lib.hid hraw1
  have HE := Lib.hid he
  have HP := Lib.hid hp
  clear hlk hlk2 hnp hk123 hraw1 hraw2 hraw3 he hp
  unfold obj at O ⊢
  cases gx
  case false =>
    have hl := HL.out rfl
    subst hl
    clear HL HL2 HNP HK R1 R2 R3
    go_enter Try.func34, Try.ntmps34
    go_wp2_with fail
    refine (O.out _ H0.out.2.1 H0.out.2.2.1).mono ?_
    rintro e w1 ⟨rfl, hb1⟩
    have H1 := Lib.hid (And.intro (H0.out.1.below hb1 H0.out.1.lt) (H0.out.2.2.2.trans (hb1.mono H0.out.2.2.2.size)))
    clear hb1 O
    go_wp2_with fail
    go_ret
    exact ⟨⟨_, rfl, linksOut_nil _⟩, H1.out.2⟩
  case true =>
    obtain rfl := HL2.out rfl
    have hk := HK.out rfl
    have hnp8 := HNP.out rfl
    clear HL HL2 HNP HK
    rcases hk with rfl | rfl | rfl
    case inl =>
      obtain rfl := R1.out rfl
      clear R1 R2 R3 hnp8
      go_enter Try.func34, Try.ntmps34
      go_wp2_with fail
      refine (O.out _ H0.out.2.1 H0.out.2.2.1).mono ?_
      rintro e w1 ⟨rfl, hb1⟩
      have H1 := Lib.hid (And.intro (H0.out.1.below hb1 H0.out.1.lt) (H0.out.2.2.2.trans (hb1.mono H0.out.2.2.2.size)))
      clear hb1 O
      have c0 : w1.cell? ⟨w.heap.size, 0, none⟩ = some (.int .i64 1) := H1.out.1.cell 0
      go_wp2_with fail
      refine (sort_sl w.heap.size 0 rf _ _ (SlIs.nil_ _ _ _ _) H1.out.2.size (by omega)).mono ?_
      rintro e w8 ⟨rfl, hS, hb8⟩
      have H8 := Lib.hid (And.intro hS (H1.out.2.trans hb8))
      clear hS hb8
      go_wp2_with fail
      refine (compact_sl w.heap.size 0 rf _ _ H8.out.1 H8.out.2.size (by omega)).mono ?_
      rintro e w9 ⟨⟨u, rfl, hu⟩, hb9⟩
      have H9 := Lib.hid (And.intro hu (H8.out.2.trans hb9))
      clear hu hb9
      go_wp2_with fail
      go_ret
      exact ⟨⟨_, rfl, H9.out.1⟩, H9.out.2⟩
    case inr.inl =>
      obtain ⟨rfl, rfl⟩ := R2.out rfl
      clear R1 R2 R3 hnp8
      go_enter Try.func34, Try.ntmps34
      go_wp2_with fail
      refine (O.out _ H0.out.2.1 H0.out.2.2.1).mono ?_
      rintro e w1 ⟨rfl, hb1⟩
      have H1 := Lib.hid (And.intro (H0.out.1.below hb1 H0.out.1.lt) (H0.out.2.2.2.trans (hb1.mono H0.out.2.2.2.size)))
      clear hb1 O
      have c0 : w1.cell? ⟨w.heap.size, 0, none⟩ = some (.int .i64 2) := H1.out.1.cell 0
      have c2 : w1.cell? ⟨w.heap.size, 2, none⟩ = some (.slice ao rn cap) := H1.out.1.cell 2
      go_wp2_with fail
      clear c0 c2
      go_loopw [3, 18] (fun v i wr => ∃ j : Nat, i = .int .i64 (j : Int) ∧ j ≤ rn ∧ SlIs wr w.heap.size 53 2 v j (lcells (fun i => (kd i, id i)) j) ∧ Below w.heap.size w wr) (fun _ i _ => ((rn : Int) - intOf i).toNat)
      case atStart => exact ⟨0, rfl, by omega, SlIs.nil_ _ _ _ _, H1.out.2⟩
      case round =>
        obtain ⟨j, rfl, hj, hs, hb⟩ := hrel
        have H := Lib.hid (And.intro hs hb)
        clear hs hb
        rcases Nat.lt_or_ge j rn with hj1 | hj1
        case inl =>
          obtain ⟨b, off, rfl, hb, hcell⟩ := HE.out.2 (by omega)
          have c0 : wr.cell? ⟨b, off + j * 3, none⟩ = some (.string (nm j)) := by rw [H.out.2.cell hb]; exact (hcell j hj1).1
          have c1 : wr.cell? ⟨b, off + j * 3 + 1, none⟩ = some (.int .i64 (kd j)) := by rw [H.out.2.cell hb]; exact (hcell j hj1).2.1
          have c2 : wr.cell? ⟨b, off + j * 3 + 2, none⟩ = some (.string (id j)) := by rw [H.out.2.cell hb]; exact (hcell j hj1).2.2
          have ki : (j : Int) < rn := by omega
          have hbw := H.out.2.size
          obtain ⟨ao1, cap1, rfl, hnc1, hcm1, hao1⟩ := H.out.1.form
          clear hcell
          go_wp2_with (first
            | (at_builtin
               refine wpList_append_sl rfl _ _ _ 50 rfl el_link (.slice ao1 j cap1) j (lcells (fun i => (kd i, id i)) j) rfl ((H.out.1.alloc _).alloc _) _ 1 (encL (kd j, id j)) rfl (SrcIs.own Try.underlying50 (SlIs.made (base := 0) (BlkIs.new2 _ _ _ _) (Nat.zero_le _) rfl (by decide))) (by intro u hu; simp [encL] at hu; rcases hu with rfl | rfl <;> rfl) (by unfold maxLen; omega) (by omega) (by simp only [World.size_alloc]; omega) ?_
               intro v1 w2 hs1 hg1 hat1
               have hb2 := ((H.out.2.alloc hbw _).alloc (by simp only [World.size_alloc]; omega) _).grown hg1 (by simp only [World.size_alloc]; omega) fun j hj => (H.out.1.lt j hj).1
               have H2 := Lib.hid (And.intro hs1 hb2)
               clear hs1 hb2 hg1 hat1 hao1))
          refine ⟨⟨j + 1, rfl, hj1, H2.out.1, H2.out.2⟩, ?_⟩
          simp [intOf]
          omega
        case inr =>
          have ki : (rn : Int) ≤ (j : Int) := by omega
          obtain rfl : j = rn := by omega
          go_wp2_with fail
          refine (sort_sl w.heap.size j (fun i => (kd i, id i)) _ _ H.out.1 H.out.2.size (by omega)).mono ?_
          rintro e w8 ⟨rfl, hS, hb8⟩
          have H8 := Lib.hid (And.intro hS (H.out.2.trans hb8))
          clear hS hb8
          go_wp2_with fail
          refine (compact_sl w.heap.size j (fun i => (kd i, id i)) _ _ H8.out.1 H8.out.2.size (by omega)).mono ?_
          rintro e w9 ⟨⟨u, rfl, hu⟩, hb9⟩
          have H9 := Lib.hid (And.intro hu (H8.out.2.trans hb9))
          clear hu hb9
          go_wp2_with fail
          go_ret
          exact ⟨⟨_, rfl, H9.out.1⟩, H9.out.2⟩
    case inr.inr =>
      obtain ⟨rfl, rfl⟩ := R3.out rfl
      have hn8 := hnp8 rfl
      clear R1 R2 R3 hnp8
      go_enter Try.func34, Try.ntmps34
      go_wp2_with fail
      refine (O.out _ H0.out.2.1 H0.out.2.2.1).mono ?_
      rintro e w1 ⟨rfl, hb1⟩
      have H1 := Lib.hid (And.intro (H0.out.1.below hb1 H0.out.1.lt) (H0.out.2.2.2.trans (hb1.mono H0.out.2.2.2.size)))
      clear hb1 O
      have c0 : w1.cell? ⟨w.heap.size, 0, none⟩ = some (.int .i64 3) := H1.out.1.cell 0
      have c3 : w1.cell? ⟨w.heap.size, 3, none⟩ = some (.string t) := H1.out.1.cell 3
      have c4 : w1.cell? ⟨w.heap.size, 4, none⟩ = some (.slice ap np cp) := H1.out.1.cell 4
      have hz1 := H1.out.2.size
      have hlt1 := H1.out.1.lt
      go_wp2_with (first
        | (at_builtin
           refine wpList_append_sl rfl _ _ _ 50 rfl el_link (.slice none 0 0) 0 [] rfl (SlIs.nil_ _ w.heap.size _ _) _ 1 (encL (2, t)) rfl (SrcIs.own Try.underlying50 (SlIs.made (base := 0) (BlkIs.new _ _ _) (Nat.zero_le _) rfl (by decide))) (by intro u hu; simp [encL] at hu; rcases hu with rfl | rfl <;> rfl) (by decide) (by omega) (by simp only [World.size_alloc]; omega) ?_
           intro v1 w2 hs1 hg1 hat1
           have hb2 := (H1.out.2.alloc hz1 _).grown hg1 (by simp only [World.size_alloc]; omega) fun j hj => by cases hj
           have hk2 : BlkIs w2 w.heap.size 34 #[.int .i64 3, .string d, .slice ao ne cap, .string t, .slice ap np cp, .int .i64 h, .string n] := by
             have hbb := ((Below.refl w1.heap.size w1).alloc (Nat.le_refl _) (.cells #[.int .i64 2, .string t] 53)).grown hg1 (by simp only [World.size_alloc]; omega) fun j hj => by cases hj
             exact H1.out.1.below hbb hlt1
           have H2 := Lib.hid (And.intro hs1 (And.intro hb2 hk2))
           have c4' : w2.cell? ⟨w.heap.size, 4, none⟩ = some (.slice ap np cp) := hk2.cell 4
           clear hs1 hb2 hg1 hat1 hk2))
      clear c0 c3 c4 c4'
      go_loopw [3, 42] (fun v i wr => ∃ j : Nat, i = .int .i64 (j : Int) ∧ j ≤ np ∧ SlIs wr w.heap.size 53 2 v (j + 1) (lcells (fun i => if i = 0 then (2, t) else (3, f (i - 1))) (j + 1)) ∧ Below w.heap.size w wr) (fun _ i _ => ((np : Int) - intOf i).toNat)
      case atStart => exact ⟨0, rfl, by omega, H2.out.1, H2.out.2.1⟩
      case round =>
        obtain ⟨j, rfl, hj, hs, hb⟩ := hrel
        have H := Lib.hid (And.intro hs hb)
        clear hs hb
        rcases Nat.lt_or_ge j np with hj1 | hj1
        case inl =>
          obtain ⟨b, off, rfl, hb, hcell⟩ := HP.out.2 (by omega)
          have c0 : wr.cell? ⟨b, off + j, none⟩ = some (.string (f j)) := by rw [H.out.2.cell hb]; exact hcell j hj1
          have ki : (j : Int) < np := by omega
          have hbw := H.out.2.size
          obtain ⟨ao1, cap1, rfl, hnc1, hcm1, hao1⟩ := H.out.1.form
          clear hcell
          go_wp2_with (first
            | (at_builtin
               refine wpList_append_sl rfl _ _ _ 50 rfl el_link (.slice ao1 (j + 1) cap1) (j + 1) (lcells (fun i => if i = 0 then (2, t) else (3, f (i - 1))) (j + 1)) rfl (H.out.1.alloc _) _ 1 (encL (3, f j)) rfl (SrcIs.own Try.underlying50 (SlIs.made (base := 0) (BlkIs.new _ _ _) (Nat.zero_le _) rfl (by decide))) (by intro u hu; simp [encL] at hu; rcases hu with rfl | rfl <;> rfl) (by unfold maxLen; omega) (by omega) (by simp only [World.size_alloc]; omega) ?_
               intro v1 w3 hs1 hg1 hat1
               have hb3 := (H.out.2.alloc hbw _).grown hg1 (by simp only [World.size_alloc]; omega) fun j hj => (H.out.1.lt j hj).1
               have H3 := Lib.hid (And.intro hs1 hb3)
               clear hs1 hb3 hg1 hat1 hao1))
          refine ⟨⟨j + 1, rfl, hj1, H3.out.1, H3.out.2⟩, ?_⟩
          simp [intOf]
          omega
        case inr =>
          have ki : (np : Int) ≤ (j : Int) := by omega
          obtain rfl : j = np := by omega
          go_wp2_with fail
          refine (sort_sl w.heap.size (j + 1) (fun i => if i = 0 then (2, t) else (3, f (i - 1))) _ _ H.out.1 H.out.2.size (by omega)).mono ?_
          rintro e w8 ⟨rfl, hS, hb8⟩
          have H8 := Lib.hid (And.intro hS (H.out.2.trans hb8))
          clear hS hb8
          go_wp2_with fail
          refine (compact_sl w.heap.size (j + 1) (fun i => if i = 0 then (2, t) else (3, f (i - 1))) _ _ H8.out.1 H8.out.2.size (by omega)).mono ?_
          rintro e w9 ⟨⟨u, rfl, hu⟩, hb9⟩
          have H9 := Lib.hid (And.intro hu (H8.out.2.trans hb9))
          clear hu hb9
          go_wp2_with fail
          go_ret
          exact ⟨⟨_, rfl, H9.out.1⟩, H9.out.2⟩
end Go.Proofs.Ytmdchfmcghiaeaa.Obj
