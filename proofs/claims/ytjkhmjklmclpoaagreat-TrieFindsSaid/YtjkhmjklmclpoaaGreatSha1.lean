/- What bits.RotateLeft32, sha.turned and sha.spread compute, walked. -/
import Derived.Test.YtjkhmjklmclpoaaGreatProg
import Derived.Test.YtjkhmjklmclpoaaGreatShaSpec
import Derived.Deep.QuietTactic
import Derived.BigQuiet
import Derived.BigRegion
import Derived.StillTailTactics
namespace Go.Proofs.YtjkhmjklmclpoaaGreat.Sha
open Go.RowKit

theorem rot_any (x k : Int) (n : Nat) (w : World) (hx : isW x) (hn : n < 32) (hk : bits BinOp.and IntKind.u64 (IntKind.u64.wrap k) 31 = (n : Int)) :
    Calls Tryz.prog 125 #[.int .u32 x, .int .i64 k] w fun e w' => e = .returned (.int .u32 (rotl x n)) ∧ w = w' := by
  obtain ⟨hx1, hx2⟩ := hx
  go_enter Tryz.func125, Tryz.ntmps125
  go_wp2
  go_ret
  exact ⟨rfl, rfl⟩

/-- The counts by which the text turns. -/
theorem neg_any (k : Int) (h : 1 ≤ k) (h2 : k ≤ 31) : bits BinOp.and IntKind.u64 (IntKind.u64.wrap (-k)) 31 = ((32 - k.toNat : Nat) : Int) := by
  obtain ⟨m, rfl⟩ := Int.eq_ofNat_of_zero_le (show 0 ≤ k by omega)
  have hm : m ≤ 31 := by omega
  have : ∀ m : Nat, m ≤ 31 → 1 ≤ m → bits BinOp.and IntKind.u64 (IntKind.u64.wrap (-(m : Int))) 31 = ((32 - m : Nat) : Int) := by decide +kernel
  exact this m hm (by omega)

theorem rotr_any (x k : Int) (w : World) (hx : isW x) (h : 1 ≤ k) (h2 : k ≤ 31) :
    Calls Tryz.prog 125 #[.int .u32 x, .int .i64 (-k)] w fun e w' => e = .returned (.int .u32 (rotl x (32 - k.toNat))) ∧ w = w' :=
  rot_any x _ _ w hx (by omega) (neg_any k h h2)

theorem turned_any (x a b c : Int) (w : World) (hx : isW x) (ha : 1 ≤ a) (ha2 : a ≤ 31) (hb : 1 ≤ b) (hb2 : b ≤ 31) (hc : 1 ≤ c) (hc2 : c ≤ 31) :
    Calls Tryz.prog 101 #[.int .u32 x, .int .i64 a, .int .i64 b, .int .i64 c] w fun e w' => e = .returned (.int .u32 (turned x a.toNat b.toNat c.toNat)) ∧ w = w' := by
  go_enter Tryz.func101, Tryz.ntmps101
  go_wp2_with (go_at_call 125; refine (rotr_any _ _ _ hx (by omega) (by omega)).mono ?_; rintro e w' ⟨rfl, rfl⟩)
  go_ret
  exact ⟨rfl, rfl⟩
set_option maxHeartbeats 1000000 in
theorem spread_any (b off cap : Nat) (w : World) (bs : List Int) (hl : bs.length = 64) (hcap : 64 ≤ cap) (hcap2 : cap ≤ 9223372036854775807)
   (hb : b < w.heap.size) (hbs : ∀ x ∈ bs, isB x) (hc : ∀ j, j < 64 → w.cell? ⟨b, off + j, none⟩ = some (.int .u8 (bs.getD j 0))) :
    Calls Tryz.prog 100 #[.slice (some ⟨b, off, none⟩) 64 cap] w fun e w' => e = .returned (.agg (nums .u32 (words bs))) ∧ Below w.heap.size w w' := by
  have Hc := Lib.hid hc
  clear hc
  have Hl := Lib.hid hl
  clear hl
  have Hbs := Lib.hid hbs
  clear hbs
  go_enter Tryz.func100, Tryz.ntmps100
  go_wp2
  go_loopw [3, 5, 11, 22] (fun _ _ i _ wr => ∃ k : Nat, k ≤ 16 ∧ i = .int .i64 k ∧ BlkIs wr w.heap.size 94 (nums .u32 (upto ((List.range k).map (word bs)))) ∧ Below w.heap.size w wr) (fun _ _ i _ _ => 16 - (intOf i).toNat)
  case atStart => exact ⟨0, by omega, rfl, BlkIs.new _ _ _, (Below.refl _ _).alloc (Nat.le_refl _) _⟩
  case round =>
    obtain ⟨k, hk, rfl, hblk, hbe⟩ := hrel
    by_cases hlt : k < 16
    · have h1 : ((k : Int) < 16) := by omega
      have Hblk := Lib.hid hblk; clear hblk
      go_wp2
      obtain ⟨wo, rfl⟩ : ∃ wo : World, wo = wr := ⟨_, rfl⟩
      go_loopw [5, 22] (fun _ i wr => ∃ j : Nat, j ≤ 4 ∧ i = .int .i64 j ∧ BlkIs wr w.heap.size 94 (nums .u32 (upto ((List.range k).map (word bs) ++ [be ((bs.drop (4*k)).take j)]))) ∧ Below w.heap.size w wr) (fun _ i _ => 4 - (intOf i).toNat)
      case atStart =>
        refine ⟨0, by omega, rfl, ?_, hbe⟩
        have h0 := Hblk.out
        have e : upto ((List.range k).map (word bs)) = upto ((List.range k).map (word bs) ++ [be ((bs.drop (4*k)).take 0)]) := by
          unfold upto be
          simp only [List.take_zero, List.foldl_nil, List.append_assoc, List.length_append, List.length_map, List.length_range, List.length_singleton]
          rw [show 64 - k = (64 - (k + 1)) + 1 by omega, List.replicate_succ]; rfl
        rw [e] at h0; exact h0
      case round =>
        obtain ⟨j, hj, rfl, hblk, hbe⟩ := hrel
        by_cases hlt : j < 4
        · have h1 : ((j : Int) < 4) := by omega
          have hlen := Hl.out
          obtain ⟨c, hcc⟩ : ∃ c, c = bs.getD (4 * k + j) 0 := ⟨_, rfl⟩
          have hce : wr.cell? ⟨b, off + 4 * k + j, none⟩ = some (.int .u8 c) := by
            rw [hbe.cell hb, hcc, Nat.add_assoc]; exact Hc.out _ (by omega)
          obtain ⟨v, hv⟩ : ∃ v, v = be ((bs.drop (4*k)).take j) := ⟨_, rfl⟩
          rw [← hv] at hblk
          have hln : ((List.range k).map (word bs)).length = k := by simp
          have hcv : wr.cell? ⟨w.heap.size, k, none⟩ = some (.int .u32 v) := by
            rw [hblk.cell, nums_get _ _ _ (by rw [upto_length _ (by simp; omega)]; omega), upto_get _ _ (by simp)]
            simp [List.getD]
          have hcf : wr.frozen? ⟨w.heap.size, k, none⟩ = false := hblk.free _
          have hmem : ∀ x ∈ (bs.drop (4*k)).take j, isB x := fun x hx => Hbs.out x (List.mem_of_mem_drop (List.mem_of_mem_take hx))
          have hvb := be_bound _ hmem
          rw [← hv, show ((bs.drop (4*k)).take j).length = j by rw [List.length_take, List.length_drop]; omega] at hvb
          have hp : (256 : Int) ^ j ≤ 16777216 := by
            have : j = 0 ∨ j = 1 ∨ j = 2 ∨ j = 3 := by omega
            rcases this with rfl | rfl | rfl | rfl <;> decide
          have hv0 : 0 ≤ v := hvb.1
          have hv1 : v < 16777216 := by omega
          have hcb : isB c := by rw [hcc, List.getD, List.getElem?_eq_getElem (by omega)]; exact Hbs.out _ (List.getElem_mem _)
          have hc0 : 0 ≤ c := hcb.1
          have hc1 : c < 256 := hcb.2
          have hor := or_join v c hv0 hv1 hc0 hc1
          have hnx : be ((bs.drop (4*k)).take (j+1)) = v * 256 + c := by rw [hv, hcc]; exact be_next bs (4*k) j (by omega)
          have hput := hblk.put k (.int .u32 (v * 256 + c))
          have eset : (upto (List.map (word bs) (List.range k) ++ [v])).set k (v * 256 + c) = upto (List.map (word bs) (List.range k) ++ [v * 256 + c]) := by
            unfold upto; rw [List.append_assoc, List.set_append_right _ _ (by simp)]; simp
          rw [nums_set, eset] at hput
          have hput2 : BlkIs (wr.setCell ⟨w.heap.size, k, none⟩ (.int .u32 (v * 256 + c))) w.heap.size 94 (nums .u32 (upto ((List.range k).map (word bs) ++ [be ((bs.drop (4*k)).take (j+1))]))) := by rw [hnx]; exact hput
          clear hput
          have hbs2 := hbe.setCell (p := ⟨w.heap.size, k, none⟩) (Nat.le_refl _) (.int .u32 (v * 256 + c))
          have Hx := Lib.hid (And.intro hput2 hbs2); clear hput2 hbs2 eset hnx hvb hp hblk hmem hv hcc hln hcb hlen
          go_wp2
          go_roundw
          case rel => exact ⟨j + 1, by omega, by go_num, Hx.out.1, Hx.out.2⟩
          case measure => simp [intOf]; omega
        · obtain rfl : j = 4 := by omega
          have Hblk2 := Lib.hid hblk; clear hblk
          go_wp2
          go_roundw
          case rel =>
            refine ⟨k + 1, by omega, by go_num, ?_, hbe⟩
            have h0 := Hblk2.out
            rw [List.range_succ, List.map_append]; exact h0
          case measure => simp [intOf]; omega
    · have hk16 : k = 16 := by omega
      have h1 : ¬ ((k : Int) < 16) := by omega
      have hblk2 : BlkIs wr w.heap.size 94 (nums .u32 (upto (first16 bs))) := by rw [hk16] at hblk; exact hblk
      clear hk16 hblk
      have Hblk := Lib.hid hblk2; clear hblk2
      go_wp2
      go_loopw [6, 7, 8, 9, 10] (fun i _ _ _ _ wr => ∃ k : Nat, 16 ≤ k ∧ k ≤ 64 ∧ i = .int .i64 k ∧ BlkIs wr w.heap.size 94 (nums .u32 (upto (sched (k - 16) (first16 bs)))) ∧ Below w.heap.size w wr) (fun i _ _ _ _ _ => 64 - (intOf i).toNat)
      case atStart => exact ⟨16, by omega, by omega, rfl, Hblk.out, hbe⟩
      case round =>
        obtain ⟨k, hk0, hk, rfl, hblk, hbe⟩ := hrel
        obtain ⟨L, hL⟩ : ∃ L, L = sched (k - 16) (first16 bs) := ⟨_, rfl⟩
        rw [← hL] at hblk
        have hLl : L.length = k := by rw [hL, sched_length, first16_length]; omega
        have hLW : ∀ i, isW (L.getD i 0) := fun i => hL ▸ sched_isW bs Hbs.out _ i
        by_cases hlt : k < 64
        · have h1 : (k : Int) < 64 := by omega
          have cell : ∀ m, m < L.length → wr.cell? ⟨w.heap.size, m, none⟩ = some (.int .u32 (L.getD m 0)) := fun m hm => by
            rw [hblk.cell, nums_get _ _ _ (by rw [upto_length _ (by omega)]; omega), upto_get _ _ hm]
          have hcf : wr.frozen? ⟨w.heap.size, k, none⟩ = false := hblk.free _
          have hcc : ∃ u, wr.cell? ⟨w.heap.size, k, none⟩ = some u := ⟨_, by rw [hblk.cell, nums_get _ _ _ (by rw [upto_length _ (by omega)]; omega)]⟩
          obtain ⟨u, hcc⟩ := hcc
          have c1 := cell (k - 15) (by omega)
          have c2 := cell (k - 2) (by omega)
          have c3 := cell (k - 16) (by omega)
          have c4 := cell (k - 7) (by omega)
          clear cell
          obtain ⟨x, hx⟩ : ∃ x, x = L.getD (k - 15) 0 := ⟨_, rfl⟩
          obtain ⟨y, hy⟩ : ∃ y, y = L.getD (k - 2) 0 := ⟨_, rfl⟩
          obtain ⟨p, hp⟩ : ∃ p, p = L.getD (k - 16) 0 := ⟨_, rfl⟩
          obtain ⟨q, hq⟩ : ∃ q, q = L.getD (k - 7) 0 := ⟨_, rfl⟩
          rw [← hx] at c1; rw [← hy] at c2; rw [← hp] at c3; rw [← hq] at c4
          have hxw : isW x := hx ▸ hLW _
          have hyw : isW y := hy ▸ hLW _
          have H := Lib.hid (And.intro hblk (And.intro hL (And.intro hx (And.intro hy (And.intro hp (And.intro hq hLl))))))
          clear hblk hL hx hy hp hq hLl hLW
          have hx0 := hxw.1
          have hy0 := hyw.1
          have e1 : IntKind.i64.wrap ((k : Int) - 15) = (k : Int) - 15 := IntWalk.i64_in _ (by omega)
          have e2 : IntKind.i64.wrap ((k : Int) - 2) = (k : Int) - 2 := IntWalk.i64_in _ (by omega)
          have e3 : IntKind.i64.wrap ((k : Int) - 16) = (k : Int) - 16 := IntWalk.i64_in _ (by omega)
          have e4 : IntKind.i64.wrap ((k : Int) - 7) = (k : Int) - 7 := IntWalk.i64_in _ (by omega)
          have n1 : ((k : Int) - 15).toNat = k - 15 := by omega
          have n2 : ((k : Int) - 2).toNat = k - 2 := by omega
          have n3 : ((k : Int) - 16).toNat = k - 16 := by omega
          have n4 : ((k : Int) - 7).toNat = k - 7 := by omega
          have g1 : (0 : Int) ≤ (k : Int) - 15 := by omega
          have g2 : (0 : Int) ≤ (k : Int) - 2 := by omega
          have g3 : (0 : Int) ≤ (k : Int) - 16 := by omega
          have g4 : (0 : Int) ≤ (k : Int) - 7 := by omega
          have l1 : (k : Int) - 15 < 64 := by omega
          have l2 : (k : Int) - 2 < 64 := by omega
          have l3 : (k : Int) - 16 < 64 := by omega
          have l4 : (k : Int) - 7 < 64 := by omega
          go_wp2
          go_quiet (fail)
          go_wp2_with (go_at_call 125; refine (rotr_any _ _ _ (by first | exact hxw | exact hyw) (by omega) (by omega)).mono ?_; rintro e w' ⟨rfl, rfl⟩)
          obtain ⟨nx, hnx⟩ : ∃ nx, nx = (p + s0 x + q + s1 y) % 4294967296 := ⟨_, rfl⟩
          have Hnx := Lib.hid hnx
          clear hnx
          go_region
          go_wp2
          go_roundw
          case rel =>
            obtain ⟨hblk, hL, hx, hy, hp, hq, hLl⟩ := H.out
            refine ⟨k + 1, by omega, by omega, by go_num, ?_, ?_⟩
            · have e := (H.out.1.drewN (nq + 1)).put k (.int .u32 nx)
              rw [nums_set, ← hLl, upto_set L _ (by omega)] at e
              have e2 : sched (k + 1 - 16) (first16 bs) = L ++ [nx] := by
                rw [show k + 1 - 16 = (k - 16) + 1 by omega, sched, ← hL, Hnx.out]
                unfold nextW
                rw [hLl, ← hx, ← hy, ← hp, ← hq]
              rw [e2]
              rw [hLl, Hnx.out] at e
              rw [Hnx.out]
              exact e
            · exact (below_drewN hbe _).setCell (p := ⟨w.heap.size, k, none⟩) (Nat.le_refl _) _
          case measure => simp [intOf]; omega
        · have hk64 : k = 64 := by omega
          have h1 : ¬ (k : Int) < 64 := by omega
          have e : upto L = words bs := by
            rw [hL, hk64]; unfold upto words; rw [sched_length, first16_length]; simp
          rw [e] at hblk
          clear hL hLl hLW e hk64
          have hsz : (nums .u32 (words bs)).size = 64 := by rw [nums_size, words_length]
          obtain ⟨cs, hcs⟩ : ∃ cs, cs = nums .u32 (words bs) := ⟨_, rfl⟩
          rw [← hcs] at hblk hsz
          have h1c : cs.all (·.oneCell') = true := by rw [hcs]; exact nums_one _ _
          have Hcs := Lib.hid hcs; clear hcs
          have hinfo : (Tryz.prog.info? 94).map (·.size) = some cs.size := by rw [hsz]; kernel_rfl
          go_wp2_with (first
            | (refine wpList_load_row rfl 94 _ rfl w.heap.size rfl 94 cs (0, 0) _ hblk Tryz.underlying94 rfl hinfo ?_)
            | (refine wpList_store_row rfl 94 _ _ rfl w.heap.size cs rfl rfl 94 cs hblk hinfo rfl h1c ?_))
          refine bodyPost_ret (results_cell_row rfl _ _ w.heap.size 94 cs (0, 0) _ rfl (hblk.row cs) Tryz.underlying94 rfl hinfo) rfl ⟨by rw [Hcs.out], below_row hbe (Nat.le_refl _) _⟩
end Go.Proofs.YtjkhmjklmclpoaaGreat.Sha
