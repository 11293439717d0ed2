/- awake of layer 11: four facts, their logs reckoned; walked. No conditions. (Layer 11.) -/
import Derived.Test.YthcgdpdijdmelaaGreatOrd17
namespace Go.Proofs.YthcgdpdijdmelaaGreat.Ord
set_option linter.unusedVariables false
open Go.RowKit Go.Sort Go.Lib
/-- The four facts of awake. -/
def f4 (g : Nat) : Nat → Fv
  | 0 => ⟨⟨#[97]⟩, 0, none, 0, 0, fun _ => ⟨#[]⟩⟩
  | 1 => ⟨⟨#[98]⟩, 1, some ⟨g, 0, none⟩, 1, 1, fun _ => ⟨#[97]⟩⟩
  | 2 => ⟨⟨#[99]⟩, 1, some ⟨g + 1, 0, none⟩, 1, 1, fun _ => ⟨#[97]⟩⟩
  | _ => ⟨⟨#[100]⟩, 2, some ⟨g + 2, 0, none⟩, 2, 2, fun k => if k = 0 then ⟨#[98]⟩ else ⟨#[99]⟩⟩
theorem i4 {i : Nat} (h : i < 4) : i = 0 ∨ i = 1 ∨ i = 2 ∨ i = 3 := by omega
theorem f4_dist (g : Nat) : Dist 4 (f4 g) := fun i j hi hj he => by
  rcases i4 hi with rfl | rfl | rfl | rfl <;> rcases i4 hj with rfl | rfl | rfl | rfl <;> first | rfl | (simp [f4] at he)
theorem f4_right (g : Nat) (i : Nat) (hi : i < 4) : RightF 4 (f4 g) (f4 g i) := by
  have pa : place (f4 g) ⟨#[97]⟩ 4 = 0 := place_dist (f4_dist g) (i := 0) (by decide)
  have pb : place (f4 g) ⟨#[98]⟩ 4 = 1 := place_dist (f4_dist g) (i := 1) (by decide)
  have pc : place (f4 g) ⟨#[99]⟩ 4 = 2 := place_dist (f4_dist g) (i := 2) (by decide)
  have one : wrap64 (0 + 1) = 1 := by decide +kernel
  have two : wrap64 (1 + 1) = 2 := by decide +kernel
  rcases i4 hi with rfl | rfl | rfl | rfl
  · rfl
  · show (1 : Int) = wrap64 ((f4 g (place (f4 g) ⟨#[97]⟩ 4)).h + 1)
    rw [pa]
    exact one.symm
  · show (1 : Int) = wrap64 ((f4 g (place (f4 g) ⟨#[97]⟩ 4)).h + 1)
    rw [pa]
    exact one.symm
  · show (2 : Int) = wrap64 ((if (f4 g (place (f4 g) ⟨#[98]⟩ 4)).h < (f4 g (place (f4 g) ⟨#[99]⟩ 4)).h then (f4 g (place (f4 g) ⟨#[99]⟩ 4)).h else (f4 g (place (f4 g) ⟨#[98]⟩ 4)).h) + 1)
    rw [pb, pc]
    exact two.symm
/-- A log of the four, by the places of what is met. -/
theorem log4 (g : Nat) (s : ByteArray) (R : List Nat) (h4 : ∀ j ∈ R, j < 4) (hs : ∃ j ∈ R, (f4 g j).id = s) (hm : ∀ j ∈ R, Met 4 (f4 g) s (f4 g j).id)
    (hc : ∀ j ∈ R, ∀ k, k < (f4 g j).np → ∃ j' ∈ R, (f4 g j').id = (f4 g j).p k) (hp : (R.map (f4 g)).Pairwise fun x y => lowF y x) : LogIs 4 (f4 g) s 0 ((R.map (f4 g)).map (·.id)) := by
  have hall : ∀ x, Met 4 (f4 g) s x → ∃ j ∈ R, (f4 g j).id = x := by
    intro x hx
    induction hx with
    | self => exact hs
    | @step i k hi hr hk ih =>
      obtain ⟨j, hj, he⟩ := ih
      obtain rfl := f4_dist g j i (h4 j hj) hi he
      exact hc j hj k hk
  refine LogIs.ok _ (f4_dist g) (by obtain ⟨j, hj, he⟩ := hs; exact ⟨j, h4 j hj, he⟩) (fun x hx => by obtain ⟨j, hj, he⟩ := hall x hx; exact ⟨j, h4 j hj, he⟩) (fun i hi _ => f4_right g i hi) (fun x => ?_) hp
  rw [List.mem_map]
  constructor
  · rintro ⟨j, hj, rfl⟩
    exact ⟨j, h4 j hj, hm j hj, rfl⟩
  · rintro ⟨i, hi, hx, rfl⟩
    obtain ⟨j, hj, he⟩ := hall _ hx
    obtain rfl := f4_dist g j i (h4 j hj) hi he
    exact ⟨j, hj, rfl⟩
theorem low_h {x y : Fv} (h : x.h < y.h) : lowF x y := Or.inl h
theorem low_id {x y : Fv} (h : x.h = y.h) (h2 : x.id.data.toList < y.id.data.toList) : lowF x y := Or.inr ⟨h, h2⟩
theorem met_b (g : Nat) : Met 4 (f4 g) ⟨#[98]⟩ ⟨#[97]⟩ := Met.step (i := 1) (k := 0) (by decide) .self (by show 0 < 1; decide)
theorem met_c (g : Nat) : Met 4 (f4 g) ⟨#[99]⟩ ⟨#[97]⟩ := Met.step (i := 2) (k := 0) (by decide) .self (by show 0 < 1; decide)
theorem met_db (g : Nat) : Met 4 (f4 g) ⟨#[100]⟩ ⟨#[98]⟩ := Met.step (i := 3) (k := 0) (by decide) .self (by show 0 < 2; decide)
theorem met_dc (g : Nat) : Met 4 (f4 g) ⟨#[100]⟩ ⟨#[99]⟩ := Met.step (i := 3) (k := 1) (by decide) .self (by show 1 < 2; decide)
theorem met_da (g : Nat) : Met 4 (f4 g) ⟨#[100]⟩ ⟨#[97]⟩ := Met.step (i := 1) (k := 0) (by decide) (met_db g) (by show 0 < 1; decide)
theorem log_b (g : Nat) : LogIs 4 (f4 g) ⟨#[98]⟩ 0 [⟨#[98]⟩, ⟨#[97]⟩] :=
  log4 g _ [1, 0] (by decide) ⟨1, by decide, rfl⟩ (fun j hj => by rcases List.mem_cons.1 hj with rfl | hj; exact .self; rcases List.mem_singleton.1 hj with rfl; exact met_b g)
    (fun j hj k hk => by
      rcases List.mem_cons.1 hj with rfl | hj
      · exact ⟨0, by decide, rfl⟩
      · rcases List.mem_singleton.1 hj with rfl
        exact absurd hk (Nat.not_lt_zero _))
    (by simp only [List.map_cons, List.map_nil, List.pairwise_cons, List.mem_cons, List.not_mem_nil, or_false, forall_eq]
        exact ⟨low_h (by show (0 : Int) < 1; decide), fun _ h => absurd h id, List.Pairwise.nil⟩)
theorem log_c (g : Nat) : LogIs 4 (f4 g) ⟨#[99]⟩ 0 [⟨#[99]⟩, ⟨#[97]⟩] :=
  log4 g _ [2, 0] (by decide) ⟨2, by decide, rfl⟩ (fun j hj => by rcases List.mem_cons.1 hj with rfl | hj; exact .self; rcases List.mem_singleton.1 hj with rfl; exact met_c g)
    (fun j hj k hk => by
      rcases List.mem_cons.1 hj with rfl | hj
      · exact ⟨0, by decide, rfl⟩
      · rcases List.mem_singleton.1 hj with rfl
        exact absurd hk (Nat.not_lt_zero _))
    (by simp only [List.map_cons, List.map_nil, List.pairwise_cons, List.mem_cons, List.not_mem_nil, or_false, forall_eq]
        exact ⟨low_h (by show (0 : Int) < 1; decide), fun _ h => absurd h id, List.Pairwise.nil⟩)
theorem log_d (g : Nat) : LogIs 4 (f4 g) ⟨#[100]⟩ 0 [⟨#[100]⟩, ⟨#[99]⟩, ⟨#[98]⟩, ⟨#[97]⟩] :=
  log4 g _ [3, 2, 1, 0] (by decide) ⟨3, by decide, rfl⟩ (fun j hj => by
      simp only [List.mem_cons, List.not_mem_nil, or_false] at hj
      rcases hj with rfl | rfl | rfl | rfl
      · exact .self
      · exact met_dc g
      · exact met_db g
      · exact met_da g)
    (fun j hj k hk => by
      simp only [List.mem_cons, List.not_mem_nil, or_false] at hj
      rcases hj with rfl | rfl | rfl | rfl
      · have hk : k < 2 := hk
        have : k = 0 ∨ k = 1 := by omega
        rcases this with rfl | rfl
        · exact ⟨1, by decide, rfl⟩
        · exact ⟨2, by decide, rfl⟩
      · exact ⟨0, by decide, rfl⟩
      · exact ⟨0, by decide, rfl⟩
      · exact absurd hk (Nat.not_lt_zero _))
    (by
      have h30 : lowF (f4 g 2) (f4 g 3) := low_h (by show (1 : Int) < 2; decide)
      have h31 : lowF (f4 g 1) (f4 g 2) := low_id rfl (by show ([98] : List UInt8) < [99]; decide)
      have h32 : lowF (f4 g 0) (f4 g 1) := low_h (by show (0 : Int) < 1; decide)
      simp only [List.map_cons, List.map_nil, List.pairwise_cons, List.mem_cons, List.not_mem_nil, or_false, forall_eq_or_imp, forall_eq]
      exact ⟨⟨h30, low_trans h31 h30, low_trans h32 (low_trans h31 h30)⟩, ⟨h31, low_trans h32 h31⟩, h32, fun _ h => absurd h id, List.Pairwise.nil⟩)
theorem log_x (g : Nat) : LogIs 4 (f4 g) ⟨#[120]⟩ 12 [] := .none_ (f4_dist g) (by
  rintro ⟨i, hi, he⟩
  rcases i4 hi with rfl | rfl | rfl | rfl <;> simp [f4] at he)
theorem best4 (g : Nat) : bestOf (f4 g) 4 = f4 g 3 := rfl
theorem cmp4 (g : Nat) : cmpF (f4 g 1) (f4 g 2) = -1 := rfl
theorem first4 : firstIn [⟨#[98]⟩, ⟨#[97]⟩] [⟨#[99]⟩, ⟨#[97]⟩] = ⟨#[97]⟩ := by
  have := firstIn_at (L := [⟨#[98]⟩, ⟨#[97]⟩]) (M := [⟨#[99]⟩, ⟨#[97]⟩]) (k := 1) (by decide) (fun j hj => by
    obtain rfl : j = 0 := by omega
    show ¬ (⟨#[98]⟩ : ByteArray) ∈ _
    intro h
    simp only [List.mem_cons, List.not_mem_nil, or_false] at h
    rcases h with h | h <;> exact absurd h (by decide)) (List.mem_cons_of_mem _ (List.mem_cons_self ..))
  exact this
theorem f4_np (g i : Nat) (hi : i < 4) : (f4 g i).np ≤ 1000000 := by
  rcases i4 hi with rfl | rfl | rfl | rfl <;> simp [f4]
/-- The four facts as they lie. -/
theorem facts4 (w : World) (W : World) (hW : W = ((((w.alloc (.cells #[.string ⟨#[97]⟩] 9)).alloc (.cells #[.string ⟨#[97]⟩] 9)).alloc (.cells #[.string ⟨#[98]⟩, .string ⟨#[99]⟩] 9)).alloc
      (.cells #[.string ⟨#[97]⟩, .int .i64 0, .slice none 0 0, .string ⟨#[98]⟩, .int .i64 1, .slice (some ⟨w.heap.size, 0, none⟩) 1 1, .string ⟨#[99]⟩, .int .i64 1, .slice (some ⟨w.heap.size + 1, 0, none⟩) 1 1, .string ⟨#[100]⟩, .int .i64 2, .slice (some ⟨w.heap.size + 2, 0, none⟩) 2 2] 28))) :
    FactsAt W (some ⟨w.heap.size + 3, 0, none⟩) 4 (f4 w.heap.size) ∧ Below w.heap.size w W := by
  have k0 : BlkIs W w.heap.size 9 #[.string ⟨#[97]⟩] := by rw [hW]; exact ((BlkIs.new _ _ _).alloc _).alloc _ |>.alloc _
  have k1 : BlkIs W (w.heap.size + 1) 9 #[.string ⟨#[97]⟩] := by rw [hW]; exact (BlkIs.new2 _ _ _ _).alloc _ |>.alloc _
  have k2 : BlkIs W (w.heap.size + 2) 9 #[.string ⟨#[98]⟩, .string ⟨#[99]⟩] := by rw [hW]; exact (BlkIs.new3 _ _ _ _ _).alloc _
  have k3 : BlkIs W (w.heap.size + 3) 28 #[.string ⟨#[97]⟩, .int .i64 0, .slice none 0 0, .string ⟨#[98]⟩, .int .i64 1, .slice (some ⟨w.heap.size, 0, none⟩) 1 1, .string ⟨#[99]⟩, .int .i64 1, .slice (some ⟨w.heap.size + 1, 0, none⟩) 1 1, .string ⟨#[100]⟩, .int .i64 2, .slice (some ⟨w.heap.size + 2, 0, none⟩) 2 2] := by
    rw [hW]; exact BlkIs.new4 _ _ _ _ _ _
  refine ⟨⟨by decide, fun _ => ⟨_, _, rfl, k3.lt, fun i hi => ?_⟩, fun i hi => ?_⟩, ?_⟩
  · rcases i4 hi with rfl | rfl | rfl | rfl
    · exact ⟨k3.cell 0, k3.cell 1, k3.cell 2⟩
    · exact ⟨k3.cell 3, k3.cell 4, k3.cell 5⟩
    · exact ⟨k3.cell 6, k3.cell 7, k3.cell 8⟩
    · exact ⟨k3.cell 9, k3.cell 10, k3.cell 11⟩
  · rcases i4 hi with rfl | rfl | rfl | rfl
    · exact StrsAt.none_ _ _
    · refine ⟨by show ((1 : Nat) : Int) ≤ _; decide, fun _ => ⟨_, _, rfl, k0.lt, fun i hi => ?_⟩⟩
      obtain rfl : i = 0 := by have : i < 1 := hi; omega
      exact k0.cell 0
    · refine ⟨by show ((1 : Nat) : Int) ≤ _; decide, fun _ => ⟨_, _, rfl, k1.lt, fun i hi => ?_⟩⟩
      obtain rfl : i = 0 := by have : i < 1 := hi; omega
      exact k1.cell 0
    · refine ⟨by show ((2 : Nat) : Int) ≤ _; decide, fun _ => ⟨_, _, rfl, k2.lt, fun i hi => ?_⟩⟩
      have : i = 0 ∨ i = 1 := by have : i < 2 := hi; omega
      rcases this with rfl | rfl
      · exact k2.cell 0
      · exact k2.cell 1
  · rw [hW]
    exact ((((Below.refl _ _).alloc (Nat.le_refl _) _).alloc (by simp) _).alloc (by simp; omega) _).alloc (by simp; omega) _
set_option maxRecDepth 100000 in
set_option maxHeartbeats 1000000 in
theorem awake (w : World) : Calls Tryz.prog 4 #[] w fun e w' => e = .returned (.bool true) ∧ Below w.heap.size w w' := by
  have H0 := Lib.hid (facts4 w)
  go_enter Tryz.func4, Tryz.ntmps4
  go_upto_region 2 with (fail)
  obtain ⟨W, hW⟩ : ∃ W, W = ((((w.alloc (.cells #[.string ⟨#[97]⟩] 9)).alloc (.cells #[.string ⟨#[97]⟩] 9)).alloc (.cells #[.string ⟨#[98]⟩, .string ⟨#[99]⟩] 9)).alloc
      (.cells #[.string ⟨#[97]⟩, .int .i64 0, .slice none 0 0, .string ⟨#[98]⟩, .int .i64 1, .slice (some ⟨w.heap.size, 0, none⟩) 1 1, .string ⟨#[99]⟩, .int .i64 1, .slice (some ⟨w.heap.size + 1, 0, none⟩) 1 1, .string ⟨#[100]⟩, .int .i64 2, .slice (some ⟨w.heap.size + 2, 0, none⟩) 2 2] 28)) := ⟨_, rfl⟩
  rw [← hW]
  have H1 := Lib.hid (H0.out W hW)
  clear hW H0
  have hnp := f4_np w.heap.size
  have LD := Lib.hid (fun s W (hF : FactsAt W (some ⟨w.heap.size + 3, 0, none⟩) 4 (f4 w.heap.size)) => log_any (some ⟨w.heap.size + 3, 0, none⟩) 4 4 (f4 w.heap.size) s W hF (by decide) hnp)
  have AB := Lib.hid (fun s t W (hF : FactsAt W (some ⟨w.heap.size + 3, 0, none⟩) 4 (f4 w.heap.size)) => above_any (some ⟨w.heap.size + 3, 0, none⟩) 4 4 (f4 w.heap.size) s t W hF (by decide) hnp)
  have BA := Lib.hid (fun s t W (hF : FactsAt W (some ⟨w.heap.size + 3, 0, none⟩) 4 (f4 w.heap.size)) => base_any (some ⟨w.heap.size + 3, 0, none⟩) 4 4 (f4 w.heap.size) s t W hF (by decide) hnp)
  have BE := Lib.hid (fun W (hF : FactsAt W (some ⟨w.heap.size + 3, 0, none⟩) 4 (f4 w.heap.size)) => best_any (some ⟨w.heap.size + 3, 0, none⟩) 4 4 (f4 w.heap.size) W hF)
  clear hnp
  go_wp2_with fail
  refine (LD.out _ W H1.out.1).mono ?_
  rintro e w1 ⟨c, L, ao, cap, rfl, hL, hS, hb⟩
  obtain ⟨rfl, rfl⟩ := log_unique hL (log_d w.heap.size)
  obtain ⟨bS, oS, rfl, hltS, hcS⟩ := hS.2 (by decide)
  have H2 := Lib.hid (And.intro (H1.out.1.later hb) (And.intro hS (H1.out.2.trans (hb.mono H1.out.2.size))))
  have hbS : bS < w1.heap.size := hltS
  clear hL hS hb H1 hcS hltS
  simp only [List.length_cons, List.length_nil, Nat.zero_add, Nat.reduceAdd]
  go_wp2_with fail
  refine (AB.out _ _ w1 H2.out.1).mono ?_
  rintro e w2 ⟨c, L, rfl, hL, hb⟩
  obtain ⟨rfl, rfl⟩ := log_unique hL (log_d w.heap.size)
  rw [holds_true (p := _ ∧ _) ⟨by decide, by simp⟩]
  have H3 := Lib.hid (And.intro (H2.out.1.later hb) (And.intro (H2.out.2.1.later hb) (H2.out.2.2.trans (hb.mono H2.out.2.2.size))))
  clear hL hb H2
  go_wp2_with fail
  refine (BA.out _ _ w2 H3.out.1).mono ?_
  rintro e w3 ⟨hb, c, L, hL, hE⟩
  obtain ⟨rfl, rfl⟩ := log_unique hL (log_b w.heap.size)
  rcases hE with ⟨h, _⟩ | ⟨_, d, M, hM, hE⟩
  · exact absurd rfl h
  obtain ⟨rfl, rfl⟩ := log_unique hM (log_c w.heap.size)
  rcases hE with ⟨h, _⟩ | ⟨_, rfl⟩
  · exact absurd rfl h
  rw [first4]
  have H4 := Lib.hid (And.intro (H3.out.1.later hb) (And.intro (H3.out.2.1.later hb) (H3.out.2.2.trans (hb.mono H3.out.2.2.size))))
  clear hL hM hb H3
  go_wp2_with fail
  refine (LD.out _ w3 H4.out.1).mono ?_
  rintro e w4 ⟨c, L, ao4, cap4, rfl, hL, hS, hb⟩
  obtain ⟨rfl, rfl⟩ := log_unique hL (log_x w.heap.size)
  have H5 := Lib.hid (And.intro (H4.out.1.later hb) (And.intro (H4.out.2.1.later hb) (H4.out.2.2.trans (hb.mono H4.out.2.2.size))))
  clear hL hS hb H4 LD AB BA
  simp only [List.length_nil]
  go_wp2_with fail
  refine (BE.out w4 H5.out.1).mono ?_
  rintro e w5 ⟨rfl, hb⟩
  rw [best4]
  have ef : factCells (f4 w.heap.size 3) = #[.string ⟨#[100]⟩, .int .i64 2, .slice (some ⟨w.heap.size + 2, 0, none⟩) 2 2] := rfl
  rw [ef]
  have hb6 := (H5.out.2.2.trans (hb.mono H5.out.2.2.size)).alloc (Nat.le_trans H5.out.2.2.size hb.size) (.cells #[.string ⟨#[100]⟩, .int .i64 2, .slice (some ⟨w.heap.size + 2, 0, none⟩) 2 2] 28)
  have hb7 := hb.alloc hb.size (.cells #[.string ⟨#[100]⟩, .int .i64 2, .slice (some ⟨w.heap.size + 2, 0, none⟩) 2 2] 28)
  obtain ⟨W6, hW6⟩ : ∃ W6, W6 = w5.alloc (.cells #[.string ⟨#[100]⟩, .int .i64 2, .slice (some ⟨w.heap.size + 2, 0, none⟩) 2 2] 28) := ⟨_, rfl⟩
  have HF := H5.out.1.later hb7
  have HS := H5.out.2.1.later hb7
  have k6 := BlkIs.new w5 28 #[.string ⟨#[100]⟩, .int .i64 2, .slice (some ⟨w.heap.size + 2, 0, none⟩) 2 2]
  rw [← hW6] at HF HS hb6 k6
  obtain ⟨b', o', e1, HF3, hc1⟩ := HF.2.1 (by decide)
  cases e1
  obtain ⟨p0, p1, p2⟩ := hc1 1 (by decide)
  obtain ⟨q0, q1, q2⟩ := hc1 2 (by decide)
  obtain ⟨b', o', e1, HS3, hc2⟩ := HS.2 (by decide)
  cases e1
  have r0 := hc2 0 (by decide)
  have r1 := hc2 1 (by decide)
  have r2 := hc2 2 (by decide)
  have r3 := hc2 3 (by decide)
  have s0 := k6.cell 0
  change W6.cell? ⟨w.heap.size + 1 + 1 + 1, 3, none⟩ = some (.string ⟨#[98]⟩) at p0
  change W6.cell? ⟨w.heap.size + 1 + 1 + 1, 4, none⟩ = some (.int .i64 1) at p1
  change W6.cell? ⟨w.heap.size + 1 + 1 + 1, 5, none⟩ = some (.slice (some ⟨w.heap.size, 0, none⟩) 1 1) at p2
  change W6.cell? ⟨w.heap.size + 1 + 1 + 1, 6, none⟩ = some (.string ⟨#[99]⟩) at q0
  change W6.cell? ⟨w.heap.size + 1 + 1 + 1, 7, none⟩ = some (.int .i64 1) at q1
  change W6.cell? ⟨w.heap.size + 1 + 1 + 1, 8, none⟩ = some (.slice (some ⟨w.heap.size + 1, 0, none⟩) 1 1) at q2
  change W6.cell? ⟨bS, oS, none⟩ = some (.string ⟨#[100]⟩) at r0
  change W6.cell? ⟨bS, oS + 1, none⟩ = some (.string ⟨#[99]⟩) at r1
  change W6.cell? ⟨bS, oS + 2, none⟩ = some (.string ⟨#[98]⟩) at r2
  change W6.cell? ⟨bS, oS + 3, none⟩ = some (.string ⟨#[97]⟩) at r3
  change W6.cell? ⟨w5.heap.size, 0, none⟩ = some (.string ⟨#[100]⟩) at s0
  have C := Lib.hid (fun u : LaterOf W6 => by have := compare_below (f4 w.heap.size 1) (f4 w.heap.size 2) u.w; rw [cmp4] at this; exact this)
  have l3 : w.heap.size + 1 + 1 + 1 < W6.heap.size := HF3
  have lS : bS < W6.heap.size := HS3
  have l5 : w5.heap.size < W6.heap.size := k6.lt
  have p0' : ∀ u : LaterOf W6, u.w.cell? ⟨w.heap.size + 1 + 1 + 1, 3, none⟩ = some (.string ⟨#[98]⟩) := fun u => (u.h.cell l3).trans p0
  have p1' : ∀ u : LaterOf W6, u.w.cell? ⟨w.heap.size + 1 + 1 + 1, 4, none⟩ = some (.int .i64 1) := fun u => (u.h.cell l3).trans p1
  have p2' : ∀ u : LaterOf W6, u.w.cell? ⟨w.heap.size + 1 + 1 + 1, 5, none⟩ = some (.slice (some ⟨w.heap.size, 0, none⟩) 1 1) := fun u => (u.h.cell l3).trans p2
  have q0' : ∀ u : LaterOf W6, u.w.cell? ⟨w.heap.size + 1 + 1 + 1, 6, none⟩ = some (.string ⟨#[99]⟩) := fun u => (u.h.cell l3).trans q0
  have q1' : ∀ u : LaterOf W6, u.w.cell? ⟨w.heap.size + 1 + 1 + 1, 7, none⟩ = some (.int .i64 1) := fun u => (u.h.cell l3).trans q1
  have q2' : ∀ u : LaterOf W6, u.w.cell? ⟨w.heap.size + 1 + 1 + 1, 8, none⟩ = some (.slice (some ⟨w.heap.size + 1, 0, none⟩) 1 1) := fun u => (u.h.cell l3).trans q2
  have r0' : ∀ u : LaterOf W6, u.w.cell? ⟨bS, oS, none⟩ = some (.string ⟨#[100]⟩) := fun u => (u.h.cell lS).trans r0
  have r1' : ∀ u : LaterOf W6, u.w.cell? ⟨bS, oS + 1, none⟩ = some (.string ⟨#[99]⟩) := fun u => (u.h.cell lS).trans r1
  have r2' : ∀ u : LaterOf W6, u.w.cell? ⟨bS, oS + 2, none⟩ = some (.string ⟨#[98]⟩) := fun u => (u.h.cell lS).trans r2
  have r3' : ∀ u : LaterOf W6, u.w.cell? ⟨bS, oS + 3, none⟩ = some (.string ⟨#[97]⟩) := fun u => (u.h.cell lS).trans r3
  have s0' : ∀ u : LaterOf W6, u.w.cell? ⟨w5.heap.size, 0, none⟩ = some (.string ⟨#[100]⟩) := fun u => (u.h.cell l5).trans s0
  have HB6 := Lib.hid (And.intro hW6 hb6)
  clear hb hb6 hb7 HF HS k6 hc1 hc2 H5 BE p0 p1 p2 q0 q1 q2 r0 r1 r2 r3 s0 l3 lS l5 HF3 HS3
  go_upto_region 7 with (fail)
  rw [← HB6.out.1]
  refine wp_region_all (fun w' => ∃ u : LaterOf W6, w' = u.w) (by kernel_rfl) (by kernel_rfl) ⟨LaterOf.start W6, rfl⟩ ?_
  simp only [List.append]
  repeat (go_big_quiet_step (first | exact LaterOf.call _ (C.out _)))
  refine wpQuiet_nil ?_
  intro w8 hw8
  obtain ⟨u, rfl⟩ := hw8
  clear C p0' p1' p2' q0' q1' q2' r0' r1' r2' r3' s0'
  go_wp2_with fail
  go_ret
  exact ⟨rfl, HB6.out.2.trans (u.h.mono HB6.out.2.size)⟩
end Go.Proofs.YthcgdpdijdmelaaGreat.Ord
