/- What sha.tail, New, End and Sum compute, walked. -/
import Derived.Test.YtjkhmjklmclpoaaGreatSha3
namespace Go.Proofs.YtjkhmjklmclpoaaGreat.Sha
open Go.RowKit
theorem zeros_snoc (n : Nat) (h : 1 ≤ n) : bcells (128 :: List.replicate (n - 1) 0) ++ bcells [0] = bcells (128 :: List.replicate (n + 1 - 1) 0) := by
  rw [bcells_append]
  congr 1
  rw [show n + 1 - 1 = (n - 1) + 1 by omega, List.replicate_succ']; rfl
set_option maxHeartbeats 400000 in
theorem tail_any (cnt : Nat) (w : World) (hc : cnt ≤ 9223372036854775807) :
    Calls Tryz.prog 81 #[.int .u64 cnt] w fun e w' => e = .returned (.string ⟨(padTail cnt).toArray⟩) ∧ Below w.heap.size w w' := by
  have Hc := Lib.hid hc; clear hc
  have hci : (cnt : Int) ≤ 9223372036854775807 := by have := Hc.out; omega
  go_enter Tryz.func81, Tryz.ntmps81
  go_wp2
  go_loopw [3] (fun b wr => ∃ (n : Nat) (ao : Option Addr) (cap : Nat), 1 ≤ n ∧ n ≤ 1 + zeros cnt ∧ b = .slice ao n cap ∧ SlIs wr w.heap.size 5 1 (.slice ao n cap) n (bcells (128 :: List.replicate (n - 1) 0)) ∧ Below w.heap.size w wr) (fun b _ => 100 - lenAt (some b))
  case atStart => exact ⟨1, _, _, by omega, by omega, rfl, SlIs.made (BlkIs.new _ _ _) (Nat.le_refl _) rfl (by decide), (Below.refl _ _).alloc (Nat.le_refl _) _⟩
  case round =>
    obtain ⟨n, ao, cap, hn1, hn2, rfl, hsl, hbe⟩ := hrel
    have hz := zeros_le cnt
    have hnb : (n : Int) ≤ 100 := by omega
    by_cases hlt : n < 1 + zeros cnt
    · have hne : (((cnt : Int) + (n : Int)) % 64 != 56) = true := by
        have := zeros_hit cnt n hn1 hn2
        simp; omega
      have H := Lib.hid (And.intro hsl hbe); clear hsl hbe
      have hbw := H.out.2.size
      go_wp2_with (first
        | (at_builtin
           refine wpList_append_sl rfl _ _ _ 40 rfl el_u8 (.slice ao n cap) n (bcells (128 :: List.replicate (n - 1) 0)) rfl (H.out.1.alloc _) _ 1 (bcells [0]) rfl (SrcIs.own Tryz.underlying40 (SlIs.made (base := 0) (BlkIs.new _ _ _) (Nat.zero_le _) rfl (by decide))) (bcells_one _) (by unfold maxLen; omega) (by omega) (by simp only [World.size_alloc]; omega) ?_
           intro v1 w1 hs1 hg1 hat1
           obtain ⟨ao1, cap1, rfl, hnc1, hcm1, hao1⟩ := hs1.form
           rw [zeros_snoc n hn1] at hs1
           have hb1 := (H.out.2.alloc hbw _).grown hg1 (by simp only [World.size_alloc]; omega) fun k hk => (H.out.1.lt k hk).1
           have H1 := Lib.hid (And.intro hs1 hb1)
           clear hs1 hb1 hg1 hat1 hao1))
      go_roundw
      case rel => exact ⟨n + 1, ao1, cap1, by omega, by omega, rfl, H1.out.1, H1.out.2⟩
      case measure => show 100 - (n + 1) < 100 - n; omega
    · have hne : (((cnt : Int) + (n : Int)) % 64 != 56) = false := by
        have := zeros_hit cnt n hn1 hn2
        simp; omega
      have hn : n = 1 + zeros cnt := by omega
      have H := Lib.hid (And.intro hsl (And.intro hbe hn)); clear hsl hbe hn
      go_wp2
      obtain ⟨N, hN⟩ : ∃ N, N = cnt * 8 % 18446744073709551616 := ⟨_, rfl⟩
      have HN := Lib.hid hN
      have hNi : IntKind.u64.wrap ((cnt : Int) * 8) = (N : Int) := by rw [hN, IntKind.wrap_u64]; omega
      clear hN
      obtain ⟨hd, hhd⟩ : ∃ hd, hd = (128 : UInt8) :: List.replicate (n - 1) 0 := ⟨_, rfl⟩
      have Hhd := Lib.hid hhd; clear hhd
      go_loopw [3, 4] (fun b i wr => ∃ (j : Nat) (ao : Option Addr) (cap : Nat), j ≤ 8 ∧ i = .int .i64 (56 - 8 * (j : Int)) ∧ b = .slice ao (n + j) cap ∧ SlIs wr w.heap.size 5 1 (.slice ao (n + j) cap) (n + j) (bcells (hd ++ (be8 N).take j)) ∧ Below w.heap.size w wr) (fun b _ _ => 1000 - lenAt (some b))
      case atStart => exact ⟨0, _, _, by omega, rfl, rfl, by rw [List.take_zero, List.append_nil, Hhd.out]; exact H.out.1, H.out.2.1⟩
      case round =>
        obtain ⟨j, ao, cap, hj, rfl, rfl, hsl, hbe⟩ := hrel
        have H := Lib.hid (And.intro hsl hbe); clear hsl hbe
        have hbw := H.out.2.size
        by_cases hlt : j < 8
        · have h1 : (0 : Int) ≤ 56 - 8 * (j : Int) := by omega
          have h2 : 8 * (j : Int) ≤ 56 := by omega
          have ht : (56 - 8 * (j : Int)).toNat = 56 - 8 * j := by omega
          have hnb2 : n + j ≤ 100 := by omega
          go_wp2_with (first
            | (at_builtin
               refine wpList_append_sl rfl _ _ _ 40 rfl el_u8 (.slice ao (n + j) cap) (n + j) (bcells (hd ++ (be8 N).take j)) rfl (H.out.1.alloc _) _ 1 [Value.int .u8 ((N : Int) / 2 ^ (56 - 8 * j) % 256)] rfl (SrcIs.own Tryz.underlying40 (SlIs.made (base := 0) (BlkIs.new _ _ _) (Nat.zero_le _) rfl (by decide))) (by rw [byte_cell]; exact bcells_one _) (by unfold maxLen; omega) (by omega) (by simp only [World.size_alloc]; omega) ?_
               intro v1 w1 hs1 hg1 hat1
               obtain ⟨ao1, cap1, rfl, hnc1, hcm1, hao1⟩ := hs1.form
               rw [byte_cell, bcells_append, List.append_assoc, ← be8_next N j hlt] at hs1
               have hb1 := (H.out.2.alloc hbw _).grown hg1 (by simp only [World.size_alloc]; omega) fun k hk => (H.out.1.lt k hk).1
               have H1 := Lib.hid (And.intro hs1 hb1)
               clear hs1 hb1 hg1 hat1 hao1))
          go_roundw
          case rel => exact ⟨j + 1, ao1, cap1, by omega, by go_num, rfl, H1.out.1, H1.out.2⟩
          case measure => show 1000 - (n + (j + 1)) < 1000 - (n + j); omega
        · obtain rfl : j = 8 := by omega
          have hconv := H.out.1.text (P := Tryz.prog) (dst := 9) Tryz.underlying40 Tryz.underlying5 Tryz.underlying9
          go_wp2
          go_ret
          refine ⟨?_, H.out.2⟩
          rw [Hhd.out, List.take_of_length_le (by rw [be8_length]; omega), HN.out]
          have hnn : n - 1 = zeros cnt := by omega
          rw [hnn]; rfl
theorem new_any (w : World) : Calls Tryz.prog 53 #[] w fun e w' => ∃ g, e = .returned (.pointer (some ⟨g, 0, none⟩)) ∧ w.heap.size ≤ g ∧ BlkIs w' g 106 (hcells H0 (.slice none 0 0) 0) ∧ Below w.heap.size w w' := by
  go_enter Tryz.func53, Tryz.ntmps53
  go_wp2_with (first
    | (go_at_call 79; refine (first_any _).mono ?_; rintro e w1 ⟨rfl, hb1⟩)
    | (refine wpList_build_to rfl 106 _ rfl (hcells H0 (.slice none 0 0) 0) (by kernel_rfl) ?_))
  go_ret
  exact ⟨_, rfl, hb1.size, BlkIs.new _ _ _, hb1.alloc hb1.size _⟩
theorem out4_cells (x : Int) (h : isW x) : bcells (out4 x) = [Value.int .u8 (x / 16777216 % 256), Value.int .u8 (x / 65536 % 256), Value.int .u8 (x / 256 % 256), Value.int .u8 (x % 256)] := by
  obtain ⟨n, rfl⟩ := Int.eq_ofNat_of_zero_le h.1
  simp only [bcells, out4, List.map_cons, List.map_nil, UInt8.toNat_ofNat', Int.toNat_natCast]
  congr 2
  congr 2
  congr 2
  congr 2
  omega
theorem out_snoc (l : List Int) (j : Nat) (h : j < l.length) : out (l.take (j + 1)) = out (l.take j) ++ out4 (l.getD j 0) := by
  unfold out
  rw [List.take_add_one, List.flatMap_append, List.getElem?_eq_getElem h]
  simp [List.getD, List.getElem?_eq_getElem h]
theorem out_length (l : List Int) : (out l).length = 4 * l.length := by
  induction l with
  | nil => rfl
  | cons x l ih => simp [out, out4] at ih ⊢; omega
set_option maxHeartbeats 1000000 in
theorem end_any (g B : Nat) (st : St) (v : Value) (l : List UInt8) (cnt : Nat) (w : World)
    (hst : st.isW) (hblk : BlkIs w g 106 (hcells st v cnt)) (hsl : SlIs w B 5 1 v l.length (bcells l)) (hc1 : cnt ≤ 4611686018427387904) (hl : l.length ≤ 1000) :
    Calls Tryz.prog 55 #[.pointer (some ⟨g, 0, none⟩)] w fun e w' => e = .returned (.string ⟨(finish st l cnt).toArray⟩) ∧ Below w.heap.size w w' := by
  obtain ⟨ao, cap, rfl, hnc, hcm, hao⟩ := hsl.form
  clear hao
  obtain ⟨z1, z2, z3, z4, z5, z6, z7, z8⟩ := st
  have d0 : w.cell? ⟨g, 0, none⟩ = some (.int .u32 z1) := hblk.cell 0
  have d1 : w.cell? ⟨g, 1, none⟩ = some (.int .u32 z2) := hblk.cell 1
  have d2 : w.cell? ⟨g, 2, none⟩ = some (.int .u32 z3) := hblk.cell 2
  have d3 : w.cell? ⟨g, 3, none⟩ = some (.int .u32 z4) := hblk.cell 3
  have d4 : w.cell? ⟨g, 4, none⟩ = some (.int .u32 z5) := hblk.cell 4
  have d5 : w.cell? ⟨g, 5, none⟩ = some (.int .u32 z6) := hblk.cell 5
  have d6 : w.cell? ⟨g, 6, none⟩ = some (.int .u32 z7) := hblk.cell 6
  have d7 : w.cell? ⟨g, 7, none⟩ = some (.int .u32 z8) := hblk.cell 7
  have d8 : w.cell? ⟨g, 8, none⟩ = some (.slice ao l.length cap) := hblk.cell 8
  have hgw := hblk.lt
  have H := Lib.hid (And.intro hblk (And.intro hsl hst))
  clear hblk hsl hst
  go_enter Tryz.func55, Tryz.ntmps55
  go_wp2_with fail
  go_region_held3 (fun w' => w'.cell? ⟨g, 0, none⟩ = some (.int .u32 z1) ∧ w'.cell? ⟨g, 1, none⟩ = some (.int .u32 z2) ∧ w'.cell? ⟨g, 2, none⟩ = some (.int .u32 z3) ∧ w'.cell? ⟨g, 3, none⟩ = some (.int .u32 z4) ∧ w'.cell? ⟨g, 4, none⟩ = some (.int .u32 z5) ∧ w'.cell? ⟨g, 5, none⟩ = some (.int .u32 z6) ∧ w'.cell? ⟨g, 6, none⟩ = some (.int .u32 z7) ∧ w'.cell? ⟨g, 7, none⟩ = some (.int .u32 z8) ∧ w'.cell? ⟨g, 8, none⟩ = some (.slice ao l.length cap))
    (first | go_keep | exact ⟨q0, q1, q2, q3, q4, q5, q6, q7, q8⟩)
    ((refine step_append_sl rfl _ _ _ 40 (by rfl) el_u8 (base := w.heap.size) (.slice none 0 0) 0 [] (by rfl) (SlIs.nil_ _ _ _ _) (.slice ao l.length cap) l.length (bcells l) (by rfl) (SrcIs.own Tryz.underlying40 H.out.2.1.drew) (bcells_one _) (by unfold maxLen; omega) (by omega) (Nat.le_refl _) ?_; intro v1 w1 hs1 hg1 hat1
      obtain ⟨ao1, cap1, rfl, hnc1, hcm1, hao1⟩ := hs1.form
      have hb1 : BlkIs w1 g 106 (hcells ⟨z1, z2, z3, z4, z5, z6, z7, z8⟩ (.slice ao l.length cap) cnt) := BlkIs.grown H.out.1.drew hg1 (by simp [Value.ownBlock])
      have q0 : w1.cell? ⟨g, 0, none⟩ = some (.int .u32 z1) := hb1.cell 0
      have q1 : w1.cell? ⟨g, 1, none⟩ = some (.int .u32 z2) := hb1.cell 1
      have q2 : w1.cell? ⟨g, 2, none⟩ = some (.int .u32 z3) := hb1.cell 2
      have q3 : w1.cell? ⟨g, 3, none⟩ = some (.int .u32 z4) := hb1.cell 3
      have q4 : w1.cell? ⟨g, 4, none⟩ = some (.int .u32 z5) := hb1.cell 4
      have q5 : w1.cell? ⟨g, 5, none⟩ = some (.int .u32 z6) := hb1.cell 5
      have q6 : w1.cell? ⟨g, 6, none⟩ = some (.int .u32 z7) := hb1.cell 6
      have q7 : w1.cell? ⟨g, 7, none⟩ = some (.int .u32 z8) := hb1.cell 7
      have q8 : w1.cell? ⟨g, 8, none⟩ = some (.slice ao l.length cap) := hb1.cell 8
      have H1 := Lib.hid (And.intro hs1 (And.intro hg1 hb1))
      clear hs1 hg1 hat1 hao1 hb1))
  have hq1 : BlkIs w1 g 106 (hcells ⟨z1, z2, z3, z4, z5, z6, z7, z8⟩ (.slice ao l.length cap) cnt) := H1.out.2.2
  have hgw1 : g < w1.heap.size := hq1.lt
  have q9 : w1.cell? ⟨g, 9, none⟩ = some (.int .u64 cnt) := hq1.cell 9
  clear hq1 d0 d1 d2 d3 d4 d5 d6 d7 d8 q0 q1 q2 q3 q4 q5 q6 q7 q8
  go_wp2_with fail
  refine (tail_any cnt _ (by omega)).mono ?_
  rintro e w3 ⟨rfl, hb3⟩
  have hz3 := hb3.size
  simp only [World.size_alloc] at hz3
  have hg1s : w.heap.size ≤ w1.heap.size := H1.out.2.1.size
  have hL : BlkIs w3 w1.heap.size 106 (hcells ⟨z1, z2, z3, z4, z5, z6, z7, z8⟩ (.slice ao1 l.length cap1) 0) := (BlkIs.new w1 _ _).below hb3 (by simp only [World.size_alloc]; omega)
  have hS : SlIs w3 w.heap.size 5 1 (.slice ao1 l.length cap1) l.length (bcells l) := by
    have := H1.out.1
    rw [List.nil_append, Nat.zero_add] at this
    exact (this.alloc _).later hb3
  have hA : Below w.heap.size w w1 := (below_drewN (Below.refl w.heap.size w) 1).grown (row := none) H1.out.2.1 (Nat.le_refl _) (fun k hk => by cases hk)
  have hbe3 : Below w.heap.size w w3 := (hA.alloc hg1s _).trans (hb3.mono (by simp only [World.size_alloc]; omega))
  have hps : (ByteArray.mk (padTail cnt).toArray).size = (padTail cnt).length := by simp [ByteArray.size]
  have hpl := padTail_length cnt
  have hzl := zeros_le cnt
  have H3 := Lib.hid (And.intro hL (And.intro hS (And.intro hbe3 hps)))
  clear hL hS hbe3 hb3 q9
  go_wp2_with fail
  refine (add_any w1.heap.size w.heap.size ⟨(padTail cnt).toArray⟩ ⟨z1, z2, z3, z4, z5, z6, z7, z8⟩ _ l 0 w3 H.out.2.2 H3.out.1 H3.out.2.1 hg1s (by omega) (by rw [hps]; omega) (by rw [hps]; omega)).mono ?_
  rintro e w4 ⟨rfl, v4, hB4, hS4, hb4⟩
  obtain ⟨fz, hfz⟩ : ∃ fz, fz = (absorb (l.length + (padTail cnt).length) ⟨z1, z2, z3, z4, z5, z6, z7, z8⟩ (l ++ padTail cnt)).1 := ⟨_, rfl⟩
  have hB5 : BlkIs w4 w1.heap.size 106 (hcells fz v4 (0 + (ByteArray.mk (padTail cnt).toArray).size)) := by rw [hfz, ← hps]; exact hB4
  have hfw : fz.isW := by rw [hfz]; exact absorb_isW _ _ _ H.out.2.2
  have hfin : finish ⟨z1, z2, z3, z4, z5, z6, z7, z8⟩ l cnt = out fz.cells := by rw [hfz]; rfl
  have hbe4 : Below w.heap.size w w4 := H3.out.2.2.1.trans hb4
  have hz4 := hb4.size
  clear hB4 hfz hps
  obtain ⟨y1, y2, y3, y4, y5, y6, y7, y8⟩ := fz
  have c0 : w4.cell? ⟨w1.heap.size, 0, none⟩ = some (.int .u32 y1) := hB5.cell 0
  have c1 : w4.cell? ⟨w1.heap.size, 1, none⟩ = some (.int .u32 y2) := hB5.cell 1
  have c2 : w4.cell? ⟨w1.heap.size, 2, none⟩ = some (.int .u32 y3) := hB5.cell 2
  have c3 : w4.cell? ⟨w1.heap.size, 3, none⟩ = some (.int .u32 y4) := hB5.cell 3
  have c4 : w4.cell? ⟨w1.heap.size, 4, none⟩ = some (.int .u32 y5) := hB5.cell 4
  have c5 : w4.cell? ⟨w1.heap.size, 5, none⟩ = some (.int .u32 y6) := hB5.cell 5
  have c6 : w4.cell? ⟨w1.heap.size, 6, none⟩ = some (.int .u32 y7) := hB5.cell 6
  have c7 : w4.cell? ⟨w1.heap.size, 7, none⟩ = some (.int .u32 y8) := hB5.cell 7
  have H4 := Lib.hid (And.intro hbe4 (And.intro hfin hfw))
  clear hB5 hS4 hb4 hbe4 hfin hfw H3
  go_wp2
  obtain ⟨L, hL⟩ : ∃ L, L = (St.mk y1 y2 y3 y4 y5 y6 y7 y8).cells := ⟨_, rfl⟩
  have HL := Lib.hid hL
  obtain ⟨i0, hi0, hz0, hz1, hz2⟩ := info_parts (show (Tryz.prog.info? 92).map (fun i => (i.zero, i.size, i.bytes)) = some (some (.int .u32 0), 1, 4) by kernel_rfl)
  have Hi0 := Lib.hid (And.intro hi0 hz1); clear hi0 hz0 hz1 hz2 hL
  go_loopw [4, 6, 31] (fun b _ i wr => ∃ (j : Nat) (ao : Option Addr) (cap : Nat), j ≤ 8 ∧ i = .int .i64 j ∧ b = .slice ao (4 * j) cap ∧ SlIs wr w.heap.size 5 1 (.slice ao (4 * j) cap) (4 * j) (bcells (out (L.take j))) ∧ Below w.heap.size w wr) (fun _ _ i _ => 8 - (intOf i).toNat)
  case atStart => exact ⟨0, none, 0, by omega, rfl, rfl, SlIs.nil_ _ _ _ _, H4.out.1⟩
  case round =>
    obtain ⟨j, ao2, cap2, hj, rfl, rfl, hsl, hbe⟩ := hrel
    have H5 := Lib.hid (And.intro hsl hbe); clear hsl hbe
    have hbw := H5.out.2.size
    by_cases hlt : j < 8
    · have h1 : (j : Int) < 8 := by omega
      obtain ⟨x, hx⟩ : ∃ x, x = L.getD j 0 := ⟨_, rfl⟩
      have hxw : isW x := by
        obtain ⟨g1, g2, g3, g4, g5, g6, g7, g8⟩ := H4.out.2.2
        rw [hx, HL.out]
        exact getD_all (p := isW) ⟨by decide, by decide⟩ _ (by
          intro x hx
          simp only [St.cells, List.mem_cons, List.not_mem_nil, or_false] at hx
          rcases hx with rfl | rfl | rfl | rfl | rfl | rfl | rfl | rfl <;> assumption) j
      have hidx := run_index_row (P := Tryz.prog) Tryz.underlying102 Hi0.out.1 Hi0.out.2 Tryz.underlying92 rfl (nums .u32 (St.mk y1 y2 y3 y4 y5 y6 y7 y8).cells) .i64 j hlt (.int .u32 x) (by rw [hx, HL.out]; exact nums_get _ _ _ hlt)
      have hidx2 : ∀ w : World, (Instr.index 102 (.agg #[.int .u32 y1, .int .u32 y2, .int .u32 y3, .int .u32 y4, .int .u32 y5, .int .u32 y6, .int .u32 y7, .int .u32 y8]) (.int .i64 (j : Int))).run Tryz.prog w = .ok (.int .u32 x) w := hidx
      have hx0 := hxw.1
      have Hx := Lib.hid (And.intro hx hxw); clear hx hxw hidx
      go_wp2_with (first
        | (at_builtin
           refine wpList_append_sl rfl _ _ _ 40 rfl el_u8 (.slice ao2 (4 * j) cap2) (4 * j) (bcells (out (L.take j))) rfl (H5.out.1.alloc _) _ 4 (bcells (out4 x)) rfl (by rw [out4_cells x Hx.out.2]; exact SrcIs.own Tryz.underlying40 (SlIs.made (base := 0) (BlkIs.new _ _ _) (Nat.zero_le _) rfl (by decide))) (bcells_one _) (by unfold maxLen; omega) (by omega) (by simp only [World.size_alloc]; omega) ?_
           intro v1 w5 hs1 hg1 hat1
           obtain ⟨ao3, cap3, rfl, hnc3, hcm3, hao3⟩ := hs1.form
           rw [bcells_append, Hx.out.1, ← out_snoc L j (by rw [HL.out]; exact hlt)] at hs1
           have hb1 := (H5.out.2.alloc hbw _).grown hg1 (by simp only [World.size_alloc]; omega) fun k hk => (H5.out.1.lt k hk).1
           have H6 := Lib.hid (And.intro hs1 hb1)
           clear hs1 hb1 hg1 hat1 hao3))
      go_roundw
      case rel => exact ⟨j + 1, ao3, cap3, by omega, by go_num, by rw [show 4 * (j + 1) = 4 * j + 4 by omega], H6.out.1, H6.out.2⟩
      case measure => simp [intOf]; omega
    · obtain rfl : j = 8 := by omega
      have hconv := H5.out.1.text (P := Tryz.prog) (dst := 9) Tryz.underlying40 Tryz.underlying5 Tryz.underlying9
      go_wp2
      go_ret
      refine ⟨?_, H5.out.2⟩
      rw [H4.out.2.1, HL.out]
      rfl
end Go.Proofs.YtjkhmjklmclpoaaGreat.Sha
