/- What the reference's padded and Sum compute, walked. -/
import Derived.Test.YtjkhmjklmclpoaaGreatShaRef2
namespace Go.Proofs.YtjkhmjklmclpoaaGreat.Sha
open Go.RowKit
theorem zeros_more (l : List UInt8) (n : Nat) (h : 1 ≤ n) : bcells (l ++ 128 :: List.replicate (n - 1) 0) ++ bcells [0] = bcells (l ++ 128 :: List.replicate (n + 1 - 1) 0) := by
  rw [bcells_append, List.append_assoc]
  congr 2
  rw [show n + 1 - 1 = (n - 1) + 1 by omega, List.replicate_succ']; rfl
set_option maxHeartbeats 400000 in
theorem padded_any (s : ByteArray) (w : World) (hs : s.size ≤ 140737488355232) :
    Calls Tryz.prog 69 #[.string s] w fun e w' => ∃ ao n cap, e = .returned (.slice ao n cap) ∧ SlIs w' w.heap.size 5 1 (.slice ao n cap) n (bcells (s.data.toList ++ padTail s.size)) ∧ Below w.heap.size w w' := by
  have hz := zeros_le s.size
  obtain ⟨ao0, cap0, w0, hrun, hsl0, hg0⟩ := run_bytes_sl (P := Tryz.prog) w 9 40 5 s Tryz.underlying9 Tryz.underlying40 Tryz.underlying5 (by unfold maxLen; omega)
  have hb0 : Below w.heap.size w w0 := (Below.refl _ _).grown (row := none) hg0 (Nat.le_refl _) (fun k hk => by cases hk)
  have H0' := Lib.hid (And.intro hsl0 hb0)
  clear hsl0 hb0 hg0
  obtain ⟨l, hl⟩ : ∃ l, l = s.data.toList := ⟨_, rfl⟩
  obtain ⟨N, hN⟩ : ∃ N, N = s.size := ⟨_, rfl⟩
  have hlN : l.length = N := by rw [hl, hN]; rfl
  have HL := Lib.hid (And.intro hl (And.intro hN hlN))
  have hNb : N ≤ 140737488355232 := by omega
  rw [← hN] at hz
  clear hl hlN hN
  go_enter Tryz.func69, Tryz.ntmps69
  go_wp2_with (first
    | (at_builtin
       refine wpList_append_sl rfl _ _ _ 40 rfl el_u8 (.slice ao0 s.size cap0) s.size (bcells s.data.toList) rfl (H0'.out.1.alloc _) _ 1 (bcells [128]) rfl (SrcIs.own Tryz.underlying40 (SlIs.made (base := 0) (BlkIs.new _ _ _) (Nat.zero_le _) rfl (by decide))) (bcells_one _) (by unfold maxLen; omega) (by omega) (by have := H0'.out.2.size; simp only [World.size_alloc]; omega) ?_
       intro v1 w1 hs1 hg1 hat1
       obtain ⟨ao1, cap1, rfl, hnc1, hcm1, hao1⟩ := hs1.form
       have hb1 := (H0'.out.2.alloc H0'.out.2.size _).grown hg1 (by have := H0'.out.2.size; simp only [World.size_alloc]; omega) fun k hk => (H0'.out.1.lt k hk).1
       have H1 := Lib.hid (And.intro hs1 hb1)
       clear hs1 hb1 hg1 hat1 hao1))
  go_loopw [3] (fun b wr => ∃ (m : Nat) (ao : Option Addr) (cap : Nat), N + 1 ≤ m ∧ m ≤ N + 1 + zeros N ∧ b = .slice ao m cap ∧ SlIs wr w.heap.size 5 1 (.slice ao m cap) m (bcells (l ++ 128 :: List.replicate (m - N - 1) 0)) ∧ Below w.heap.size w wr) (fun b _ => N + 100 - lenAt (some b))
  case atStart =>
    refine ⟨N + 1, ao1, cap1, by omega, by omega, by rw [HL.out.2.1], ?_, H1.out.2⟩
    have := H1.out.1
    rw [bcells_append] at this
    rw [show N + 1 - N - 1 = 0 by omega, HL.out.2.1, HL.out.1]
    exact this
  case round =>
    obtain ⟨m, ao, cap, hn1, hn2, rfl, hsl, hbe⟩ := hrel
    have H := Lib.hid (And.intro hsl hbe); clear hsl hbe
    have hbw := H.out.2.size
    by_cases hlt : m < N + 1 + zeros N
    · have hne : ((m : Int) % 64 != 56) = true := by
        have := zeros_hit N (m - N) (by omega) (by omega)
        simp; omega
      have hnb : (m : Int) ≤ 140737488355332 := by omega
      go_wp2_with (first
        | (at_builtin
           refine wpList_append_sl rfl _ _ _ 40 rfl el_u8 (.slice ao m cap) m (bcells (l ++ 128 :: List.replicate (m - N - 1) 0)) rfl (H.out.1.alloc _) _ 1 (bcells [0]) rfl (SrcIs.own Tryz.underlying40 (SlIs.made (base := 0) (BlkIs.new _ _ _) (Nat.zero_le _) rfl (by decide))) (bcells_one _) (by unfold maxLen; omega) (by omega) (by simp only [World.size_alloc]; omega) ?_
           intro v1 w1 hs1 hg1 hat1
           obtain ⟨ao2, cap2, rfl, hnc2, hcm2, hao2⟩ := hs1.form
           rw [show m - N - 1 = (m - N) - 1 from rfl, zeros_more l (m - N) (by omega)] at hs1
           have hb1 := (H.out.2.alloc hbw _).grown hg1 (by simp only [World.size_alloc]; omega) fun k hk => (H.out.1.lt k hk).1
           have H2 := Lib.hid (And.intro hs1 hb1)
           clear hs1 hb1 hg1 hat1 hao2))
      go_roundw
      case rel => exact ⟨m + 1, ao2, cap2, by omega, by omega, rfl, by rw [show m + 1 - N - 1 = m - N + 1 - 1 by omega]; exact H2.out.1, H2.out.2⟩
      case measure => show N + 100 - (m + 1) < N + 100 - m; omega
    · have hne : ((m : Int) % 64 != 56) = false := by
        have := zeros_hit N (m - N) (by omega) (by omega)
        simp; omega
      have hnb : (m : Int) ≤ 140737488355332 := by omega
      have hs3 : SlIs wr w.heap.size 5 1 (.slice ao m cap) m (bcells (l ++ 128 :: List.replicate (zeros N) 0)) := by
        have e : m - N - 1 = zeros N := by omega
        rw [← e]; exact H.out.1
      have H3 := Lib.hid (And.intro hs3 H.out.2)
      clear hs3
      have hNs : ((s.size : Nat) : Int) ≤ 140737488355332 := by omega
      obtain ⟨T, hT⟩ : ∃ T, T = N * 8 % 18446744073709551616 := ⟨_, rfl⟩
      have HT := Lib.hid hT
      have hTi : IntKind.u64.wrap ((s.size : Int) * 8) = (T : Int) := by rw [hT, HL.out.2.1, IntKind.wrap_u64]; omega
      have hTi2 : (s.size : Int) * 8 = (T : Int) := by rw [hT, HL.out.2.1]; omega
      clear hT
      obtain ⟨hd, hhd⟩ : ∃ hd, hd = l ++ (128 : UInt8) :: List.replicate (zeros N) 0 := ⟨_, rfl⟩
      have Hhd := Lib.hid hhd; clear hhd
      go_wp2_with fail
      clear hTi hTi2 hne hlt
      go_loopw [3, 5] (fun b i wr => ∃ (j : Nat) (ao : Option Addr) (cap : Nat), j ≤ 8 ∧ i = .int .i64 (56 - 8 * (j : Int)) ∧ b = .slice ao (m + j) cap ∧ SlIs wr w.heap.size 5 1 (.slice ao (m + j) cap) (m + j) (bcells (hd ++ (be8 T).take j)) ∧ Below w.heap.size w wr) (fun b _ _ => m + 100 - lenAt (some b))
      case atStart => exact ⟨0, _, _, by omega, rfl, rfl, by rw [List.take_zero, List.append_nil, Hhd.out]; exact H3.out.1, H3.out.2⟩
      case round =>
        obtain ⟨j, ao4, cap4, hj, rfl, rfl, hsl, hbe⟩ := hrel
        have H := Lib.hid (And.intro hsl hbe); clear hsl hbe
        have hbw := H.out.2.size
        by_cases hlt : j < 8
        · have h1 : (0 : Int) ≤ 56 - 8 * (j : Int) := by omega
          have h2 : 8 * (j : Int) ≤ 56 := by omega
          have ht : (56 - 8 * (j : Int)).toNat = 56 - 8 * j := by omega
          have hmb : m + j ≤ 140737488355341 := by omega
          go_wp2_with (first
            | (at_builtin
               refine wpList_append_sl rfl _ _ _ 40 rfl el_u8 (.slice ao4 (m + j) cap4) (m + j) (bcells (hd ++ (be8 T).take j)) rfl (H.out.1.alloc _) _ 1 [Value.int .u8 ((T : Int) / 2 ^ (56 - 8 * j) % 256)] rfl (SrcIs.own Tryz.underlying40 (SlIs.made (base := 0) (BlkIs.new _ _ _) (Nat.zero_le _) rfl (by decide))) (by rw [byte_cell]; exact bcells_one _) (by unfold maxLen; omega) (by omega) (by simp only [World.size_alloc]; omega) ?_
               intro v1 w1 hs1 hg1 hat1
               obtain ⟨ao5, cap5, rfl, hnc1, hcm1, hao5⟩ := hs1.form
               rw [byte_cell, bcells_append, List.append_assoc, ← be8_next T j hlt] at hs1
               have hb1 := (H.out.2.alloc hbw _).grown hg1 (by simp only [World.size_alloc]; omega) fun k hk => (H.out.1.lt k hk).1
               have H2 := Lib.hid (And.intro hs1 hb1)
               clear hs1 hb1 hg1 hat1 hao5))
          go_roundw
          case rel => exact ⟨j + 1, ao5, cap5, by omega, by go_num, rfl, H2.out.1, H2.out.2⟩
          case measure => show m + 100 - (m + (j + 1)) < m + 100 - (m + j); omega
        · obtain rfl : j = 8 := by omega
          go_wp2
          go_ret
          refine ⟨ao4, m + 8, cap4, rfl, ?_, H.out.2⟩
          have e := H.out.1
          rw [List.take_of_length_le (by rw [be8_length]; omega), Hhd.out, HT.out] at e
          rw [← HL.out.1, ← HL.out.2.1]
          have e2 : l ++ padTail N = l ++ (128 : UInt8) :: List.replicate (zeros N) 0 ++ be8 (N * 8 % 18446744073709551616) := by simp [padTail]
          rw [e2]
          exact e
end Go.Proofs.YtjkhmjklmclpoaaGreat.Sha
