/- crc.table, crc.Sum and the reference's, walked: the check of bytes. No conditions but that a string fits. (Layer 04.) -/
import Derived.Test.YtabgpleiobpeoaaPack0
import Derived.Deep.CutRange
namespace Go.Proofs.Ytabgpleiobpeoaa.Pak
set_option linter.unusedVariables false
open Go.RowKit Go.Lib
def stepN : Nat → Nat → Nat
  | 0, c => c
  | k + 1, c => Crc.step (stepN k c)
theorem stepN_lt : ∀ (k c : Nat), c < 4294967296 → stepN k c < 4294967296
  | 0, c, h => h
  | k + 1, c, h => Crc.step_lt (stepN_lt k c h)
theorem step_bits (c : Nat) (h : c < 4294967296) : bits .xor .u32 ((c : Int) / 2) ((2197175160 * bits .and .u32 (c : Int) 1) % 4294967296) = ((Crc.step c : Nat) : Int) := by
  have e1 : bits .and .u32 (c : Int) 1 = ((c % 2 : Nat) : Int) := by
    have := u32_and_nat c 1 h (by decide)
    rw [show ((1 : Nat) : Int) = 1 from rfl] at this
    rw [this, Nat.and_one_is_mod]
  rw [e1]
  unfold Crc.step
  rcases Nat.mod_two_eq_zero_or_one c with h2 | h2
  · rw [h2, if_neg (by decide)]
    have := u32_xor_nat (c / 2) 0 (by omega) (by decide)
    rw [Nat.xor_zero] at this
    rw [← this]
    congr 1
  · rw [h2, if_pos rfl]
    have := u32_xor_nat (c / 2) 2197175160 (by omega) (by decide)
    rw [← this]
    congr 1
/-- The table's cells: of the first n. -/
def tabCells (n : Nat) : List Int := (List.range 16).map fun i => if i < n then (Crc.step4 i : Int) else 0
theorem tabCells_length (n : Nat) : (tabCells n).length = 16 := by simp [tabCells]
theorem tabCells_get (n i : Nat) (h : i < 16) : (tabCells n).getD i 0 = if i < n then (Crc.step4 i : Int) else 0 := by
  simp [tabCells, List.getD, h]
theorem tabCells_set (n : Nat) (h : n < 16) : (tabCells n).set n (Crc.step4 n : Int) = tabCells (n + 1) := by
  apply List.ext_getElem?
  intro j
  unfold tabCells
  rw [List.getElem?_set, List.getElem?_map, List.getElem?_map, List.length_map, List.length_range]
  by_cases e : n = j
  · subst e
    simp [h]
  · rw [if_neg e]
    by_cases hj : j < 16
    · simp only [List.getElem?_range hj, Option.map_some]
      congr 1
      by_cases h1 : j < n
      · rw [if_pos h1, if_pos (by omega)]
      · rw [if_neg h1, if_neg (by omega)]
    · simp [hj]
set_option maxRecDepth 100000 in
theorem table_any (w : World) : Calls Try.prog 67 #[] w fun e w' => e = .returned (.agg (nums .u32 (tabCells 16))) ∧ Below w.heap.size w w' := by
  have H0 := Lib.hid (show ∃ W, W = w.alloc (.cells #[.int .u32 0, .int .u32 0, .int .u32 0, .int .u32 0, .int .u32 0, .int .u32 0, .int .u32 0, .int .u32 0, .int .u32 0, .int .u32 0, .int .u32 0, .int .u32 0, .int .u32 0, .int .u32 0, .int .u32 0, .int .u32 0] 108) ∧
      BlkIs W w.heap.size 108 (nums .u32 (tabCells 0)) ∧ Below w.heap.size w W from ⟨_, rfl, BlkIs.new _ _ _, (Below.refl _ _).alloc (Nat.le_refl _) _⟩)
  go_enter Try.func67, Try.ntmps67
  go_wp2_with fail
  obtain ⟨W, hW, H0⟩ := H0.out
  rw [← hW]
  have H0 := Lib.hid H0
  clear hW
  go_loopw [3] (fun i wr => ∃ k : Nat, i = .int .i64 (k : Int) ∧ k ≤ 16 ∧ Hid (BlkIs wr w.heap.size 108 (nums .u32 (tabCells k)) ∧ Below w.heap.size w wr)) (fun i _ => ((16 : Int) - intOf i).toNat)
  case atStart => exact ⟨0, rfl, by omega, H0⟩
  case round =>
    obtain ⟨i, rfl, hi, HR⟩ := hrel
    clear H0
    obtain ⟨W1, hW1⟩ : ∃ W1, W1 = wr := ⟨_, rfl⟩
    subst hW1
    rcases Nat.lt_or_ge i 16 with hi1 | hi1
    · have ki : (i : Int) < 16 := by omega
      go_wp2_with fail
      go_loopw [2, 8] (fun c j wr => ∃ k : Nat, j = .int .i64 (k : Int) ∧ k ≤ 4 ∧ c = .int .u32 ((stepN k i : Nat) : Int) ∧ W1 = wr) (fun _ j _ => ((4 : Int) - intOf j).toNat)
      case atStart => exact ⟨0, rfl, by omega, rfl, rfl⟩
      case round =>
        obtain ⟨k, rfl, hk, rfl, rfl⟩ := hrel
        have hlt := stepN_lt k i (by omega)
        rcases Nat.lt_or_ge k 4 with hk1 | hk1
        · have kj : (k : Int) < 4 := by omega
          have hs : stepN (k + 1) i = Crc.step (stepN k i) := rfl
          have HD := Lib.hid hs
          clear hs
          generalize stepN k i = c at *
          have HS := Lib.hid (step_bits c hlt)
          go_wp2_with fail
          refine ⟨⟨k + 1, rfl, hk1, ?_, trivial⟩, ?_⟩
          · rw [HD.out, HS.out]
          · simp [intOf]
            omega
        · obtain rfl : k = 4 := by omega
          have hs : stepN 4 i = Crc.step4 i := rfl
          rw [hs] at hlt ⊢
          have HT := Lib.hid (tabCells_set i hi1)
          generalize Crc.step4 i = c at *
          clear hs
          have f0 := HR.out.1.free i
          have c0 : W1.cell? ⟨w.heap.size, i, none⟩ = some (.int .u32 ((tabCells i).getD i 0)) := by rw [HR.out.1.cell, nums_get _ _ _ (by rw [tabCells_length]; exact hi1)]
          go_wp2_with fail
          refine ⟨⟨i + 1, rfl, hi1, Lib.hid ⟨?_, HR.out.2.setCell (Nat.le_refl _) _⟩⟩, ?_⟩
          · rw [← HT.out, ← nums_set]
            exact HR.out.1.put i _
          · simp [intOf]
            omega
    · obtain rfl : i = 16 := by omega
      obtain ⟨cs, hcs⟩ : ∃ cs, cs = nums .u32 (tabCells 16) := ⟨_, rfl⟩
      have hsz : cs.size = 16 := by rw [hcs, nums_size, tabCells_length]
      have hinfo : (Try.prog.info? 108).map (·.size) = some cs.size := by rw [hsz]; kernel_rfl
      have h1c : cs.all (·.oneCell') = true := by rw [hcs]; exact nums_one _ _
      rw [← hcs] at HR
      have hblk := HR.out.1
      have Hcs := Lib.hid hcs
      clear hcs
      go_wp2_with (first
        | (refine wpList_load_row rfl 108 _ rfl w.heap.size rfl 108 cs (0, 0) _ hblk Try.underlying108 rfl hinfo ?_)
        | (refine wpList_store_row rfl 108 _ _ rfl w.heap.size cs rfl rfl 108 cs hblk hinfo rfl h1c ?_))
      refine bodyPost_ret (results_cell_row rfl _ _ w.heap.size 108 cs (0, 0) _ rfl (hblk.row cs) Try.underlying108 rfl hinfo) rfl ⟨by rw [Hcs.out], below_row HR.out.2 (Nat.le_refl _) _⟩
/-- One byte's turn of the check. -/
def turnC (c : Nat) (b : UInt8) : Nat := Crc.step4 (Crc.step4 (c ^^^ b.toNat))
theorem turnC_lt {c : Nat} (b : UInt8) (h : c < 4294967296) : turnC c b < 4294967296 :=
  Crc.step4_lt (Crc.step4_lt (Nat.xor_lt_two_pow (n := 32) h (by have := b.toNat_lt; omega)))
def foldC (c : Nat) (l : List UInt8) : Nat := l.foldl turnC c
theorem foldC_lt : ∀ (l : List UInt8) (c : Nat), c < 4294967296 → foldC c l < 4294967296
  | [], c, h => h
  | b :: r, c, h => foldC_lt r _ (turnC_lt b h)
theorem foldC_snoc (l : List UInt8) (c : Nat) (b : UInt8) : foldC c (l ++ [b]) = turnC (foldC c l) b := by simp [foldC]
theorem crc_val (l : List UInt8) : crc l = 4294967295 - foldC 4294967295 l := rfl
theorem nib_bits (c : Nat) (h : c < 4294967296) : bits .xor .u32 ((c : Int) / 16) ((Crc.step4 (c % 16) : Nat) : Int) = ((Crc.step4 c : Nat) : Int) := by
  have h1 := Crc.step4_lt (c := c % 16) (by omega)
  have := u32_xor_nat (c / 16) (Crc.step4 (c % 16)) (by omega) h1
  rw [Crc.step4_nib c, ← this]
  congr 1
theorem low_bits (c : Nat) (h : c < 4294967296) : bits .and .u32 (c : Int) 15 = ((c % 16 : Nat) : Int) := by
  have := u32_and_nat c 15 h (by decide)
  rw [show ((15 : Nat) : Int) = 15 from rfl] at this
  rw [this]
  congr 1
  exact Nat.and_two_pow_sub_one_eq_mod c 4
theorem byte_bits (c : Nat) (b : UInt8) (h : c < 4294967296) : bits .xor .u32 (c : Int) ((b.toNat : Nat) : Int) = ((c ^^^ b.toNat : Nat) : Int) :=
  u32_xor_nat c b.toNat h (by have := b.toNat_lt; omega)
theorem not_bits (c : Nat) (h : c < 4294967296) : bits .xor .u32 4294967295 (c : Int) = ((4294967295 - c : Nat) : Int) := by
  have := u32_xor_nat 4294967295 c (by decide) h
  rw [show ((4294967295 : Nat) : Int) = 4294967295 from rfl] at this
  rw [this]
  congr 1
  apply Nat.eq_of_testBit_eq
  intro i
  have e : 4294967295 - c = 2 ^ 32 - (c + 1) := by omega
  rw [e, Nat.testBit_two_pow_sub_succ (by omega), Nat.testBit_xor, show 4294967295 = 2 ^ 32 - 1 from rfl, Nat.testBit_two_pow_sub_one]
  by_cases hi : i < 32
  · simp [hi]
  · have : c.testBit i = false := Nat.testBit_lt_two_pow (Nat.lt_of_lt_of_le (by omega : c < 2 ^ 32) (Nat.pow_le_pow_right (by decide) (by omega)))
    simp [hi, this]
set_option maxRecDepth 100000 in
theorem more_any (s : ByteArray) (w : World) (hs : s.size ≤ 140737488355328) : Calls Try.prog 46 #[.int .u32 0, .string s] w fun e w' => e = .returned (.int .u32 ((crc s.data.toList : Nat) : Int)) ∧ Below w.heap.size w w' := by
  have hinfo : (Try.prog.info? 108).map (·.size) = some (nums .u32 (tabCells 16)).size := by kernel_rfl
  have hsz : (nums .u32 (tabCells 16)).size = 16 := by rw [nums_size, tabCells_length]
  have h1c := nums_one .u32 (tabCells 16)
  have hget : ∀ i, i < 16 → (nums .u32 (tabCells 16))[i]? = some (.int .u32 ((Crc.step4 i : Nat) : Int)) := fun i hi => by
    rw [nums_get _ _ _ (by rw [tabCells_length]; exact hi), tabCells_get _ _ hi, if_pos hi]
  have T := Lib.hid table_any
  generalize nums .u32 (tabCells 16) = cs at *
  have HG := Lib.hid hget
  clear hget
  go_enter Try.func46, Try.ntmps46
  go_wp2_with fail
  refine (T.out _).mono ?_
  rintro e w1 ⟨rfl, hb1⟩
  clear T
  go_wp2_with (refine wpList_store_row_to rfl 108 _ _ rfl w1.heap.size cs rfl rfl 108 _ (BlkIs.new _ _ _) hinfo (by rw [hsz]; rfl) h1c ?_
               intro w2 hk2 hg2
               have hbe2 : Below w.heap.size w w2 := hb1.trans (((Below.refl w.heap.size w1).alloc hb1.size _).trans (grown_below hg2 hb1.size (by simp only [World.size_alloc]; have := hb1.size; omega)))
               obtain ⟨ao, cap, w3, hrun, hsl, hg3⟩ := run_bytes_sl (P := Try.prog) w2 9 37 5 s Try.underlying9 Try.underlying37 Try.underlying5 (by unfold maxLen; omega)
               have H2 := Lib.hid (And.intro (BlkIs.grown hk2 hg3 (by simp)) (And.intro hsl (hbe2.trans ((Below.refl w.heap.size w2).grown hg3 hbe2.size (fun k hk => by cases hk)))))
               clear hk2 hbe2 hg2 hb1 hsl hg3)
  clear hrun
  go_loopw [6, 15] (fun c i wr => ∃ k : Nat, i = .int .i64 (k : Int) ∧ k ≤ s.size ∧ c = .int .u32 ((foldC 4294967295 (s.data.toList.take k) : Nat) : Int) ∧ w3 = wr) (fun _ i _ => ((s.size : Int) - intOf i).toNat)
  case atStart =>
    refine ⟨0, rfl, by omega, ?_, rfl⟩
    show Value.int .u32 (bits BinOp.xor IntKind.u32 IntKind.u32.max 0) = .int .u32 4294967295
    congr 1
  case round =>
    obtain ⟨k, rfl, hk, rfl, rfl⟩ := hrel
    have hc := foldC_lt (s.data.toList.take k) 4294967295 (by decide)
    rcases Nat.lt_or_ge k s.size with hk1 | hk1
    · have ki : (k : Int) < s.size := by omega
      have hkl : k < s.data.toList.length := by rw [Array.length_toList]; exact hk1
      obtain ⟨bb, off, cap3, hv3, hbB, hbw, hnc3, hcm3, hcell, hfree⟩ := H2.out.2.1.at_ (by omega)
      injection hv3 with e1 _ e3
      subst e1 e3
      have d0 := hcell k (by rw [bcells_length]; exact hkl)
      have e0 : (bcells s.data.toList)[k]? = some (.int .u8 (s.data.toList[k]).toNat) := by rw [bcells, List.getElem?_map, List.getElem?_eq_getElem hkl]; rfl
      rw [e0] at d0
      have hf := foldC_snoc (s.data.toList.take k) 4294967295 s.data.toList[k]
      rw [← List.take_succ_eq_append_getElem hkl] at hf
      have HF := Lib.hid hf
      generalize foldC 4294967295 (s.data.toList.take k) = c at *
      generalize s.data.toList[k] = b at *
      have hb := b.toNat_lt
      obtain ⟨c1, hc1⟩ : ∃ c1, c1 = c ^^^ b.toNat := ⟨_, rfl⟩
      have l1 : c1 < 4294967296 := by rw [hc1]; exact Nat.xor_lt_two_pow (n := 32) hc (by omega)
      have g1 := byte_bits c b hc
      rw [← hc1] at g1
      obtain ⟨r1, hr1⟩ : ∃ r1, r1 = c1 % 16 := ⟨_, rfl⟩
      have m1 : r1 < 16 := by omega
      have g2 := low_bits c1 l1
      rw [← hr1] at g2
      obtain ⟨c2, hc2⟩ : ∃ c2, c2 = Crc.step4 c1 := ⟨_, rfl⟩
      have l2 : c2 < 4294967296 := by rw [hc2]; exact Crc.step4_lt l1
      have g3 := nib_bits c1 l1
      rw [← hr1, ← hc2] at g3
      obtain ⟨r2, hr2⟩ : ∃ r2, r2 = c2 % 16 := ⟨_, rfl⟩
      have m2 : r2 < 16 := by omega
      have g4 := low_bits c2 l2
      rw [← hr2] at g4
      obtain ⟨c3, hc3⟩ : ∃ c3, c3 = Crc.step4 c2 := ⟨_, rfl⟩
      have g5 := nib_bits c2 l2
      rw [← hr2, ← hc3] at g5
      have t1 : w3.cell? ⟨w1.heap.size, r1, none⟩ = some (.int .u32 ((Crc.step4 r1 : Nat) : Int)) := by rw [H2.out.1.cell, HG.out r1 m1]
      have t2 : w3.cell? ⟨w1.heap.size, r2, none⟩ = some (.int .u32 ((Crc.step4 r2 : Nat) : Int)) := by rw [H2.out.1.cell, HG.out r2 m2]
      have g0 : ((b.toNat : Nat) : Int) % 4294967296 = b.toNat := by omega
      have HC := Lib.hid (show c3 = turnC c b from by rw [hc3, hc2, hc1]; rfl)
      have q1 : (r1 : Int) < 16 := by omega
      have q2 : (r2 : Int) < 16 := by omega
      clear hcell hfree hf e0 hc1 hc2 hc3 hr1 hr2 hkl
      go_wp2_with fail
      refine ⟨⟨k + 1, rfl, hk1, ?_, trivial⟩, ?_⟩
      · rw [HC.out, ← HF.out]
      · simp [intOf]
        omega
    · have ki : (s.size : Int) ≤ (k : Int) := by omega
      obtain rfl : k = s.size := by omega
      have hl : s.data.toList.take s.size = s.data.toList := List.take_of_length_le (by rw [Array.length_toList]; exact Nat.le_refl _)
      rw [hl] at hc ⊢
      have HCV := Lib.hid (crc_val s.data.toList)
      generalize foldC 4294967295 s.data.toList = c at *
      have g1 := not_bits c hc
      clear hl
      go_wp2_with fail
      go_ret
      refine ⟨?_, H2.out.2.2⟩
      show Ending.returned (Value.int .u32 (bits BinOp.xor IntKind.u32 IntKind.u32.max (c : Int))) = _
      rw [HCV.out, ← g1]
      rfl
theorem crcsum_any (s : ByteArray) (w : World) (hs : s.size ≤ 140737488355328) : Calls Try.prog 24 #[.string s] w fun e w' => e = .returned (.int .u32 ((crc s.data.toList : Nat) : Int)) ∧ Below w.heap.size w w' := by
  have M := Lib.hid (more_any s w hs)
  go_enter Try.func24, Try.ntmps24
  go_wp2_with fail
  refine M.out.mono ?_
  rintro e w1 ⟨rfl, hb1⟩
  have H := Lib.hid hb1
  clear hb1 M
  go_wp2_with fail
  go_ret
  exact ⟨rfl, H.out⟩
theorem step_odd (c : Nat) (h : c < 4294967296) (h2 : c % 2 = 1) : bits .xor .u32 ((c : Int) / 2) 2197175160 = ((Crc.step c : Nat) : Int) := by
  unfold Crc.step
  rw [if_pos h2]
  have := u32_xor_nat (c / 2) 2197175160 (by omega) (by decide)
  rw [← this]
  congr 1
theorem step_ev (c : Nat) (h2 : ¬ c % 2 = 1) : ((c : Int) / 2) = ((Crc.step c : Nat) : Int) := by
  unfold Crc.step
  rw [if_neg h2]
  rfl
theorem rmore_any (s : ByteArray) (w : World) (hs : s.size ≤ 140737488355328) : Calls Try.prog 52 #[.int .u32 0, .string s] w fun e w' => e = .returned (.int .u32 ((crc s.data.toList : Nat) : Int)) ∧ w = w' := by
  go_enter Try.func52, Try.ntmps52
  go_wp2_with fail
  go_loopw [5, 6] (fun c i wr => ∃ k : Nat, i = .int .i64 (k : Int) ∧ k ≤ s.size ∧ c = .int .u32 ((foldC 4294967295 (s.data.toList.take k) : Nat) : Int) ∧ w = wr) (fun _ i _ => ((s.size : Int) - intOf i).toNat)
  case atStart =>
    refine ⟨0, rfl, by omega, ?_, rfl⟩
    show Value.int .u32 (bits BinOp.xor IntKind.u32 IntKind.u32.max 0) = .int .u32 4294967295
    congr 1
  case round =>
    obtain ⟨k, rfl, hk, rfl, rfl⟩ := hrel
    have hc := foldC_lt (s.data.toList.take k) 4294967295 (by decide)
    rcases Nat.lt_or_ge k s.size with hk1 | hk1
    · have ki : (k : Int) < s.size := by omega
      have hkl : k < s.data.toList.length := by rw [Array.length_toList]; exact hk1
      have hf := foldC_snoc (s.data.toList.take k) 4294967295 s.data.toList[k]
      rw [← List.take_succ_eq_append_getElem hkl] at hf
      have HF := Lib.hid hf
      generalize foldC 4294967295 (s.data.toList.take k) = c at *
      have hsb : s.data.toList[k] = s[k] := rfl
      rw [hsb] at HF
      generalize hbb : s[k] = b at *
      have hb := b.toNat_lt
      obtain ⟨c1, hc1⟩ : ∃ c1, c1 = c ^^^ b.toNat := ⟨_, rfl⟩
      have l1 : c1 < 4294967296 := by rw [hc1]; exact Nat.xor_lt_two_pow (n := 32) hc (by omega)
      have g1 := byte_bits c b hc
      rw [← hc1] at g1
      have HC := Lib.hid hc1
      have g0 : ((b.toNat : Nat) : Int) % 4294967296 = b.toNat := by omega
      clear hf hsb hc1
      go_wp2_with fail
      go_loopw [5, 7] (fun c j wr => ∃ m : Nat, j = .int .i64 (m : Int) ∧ m ≤ 8 ∧ c = .int .u32 ((stepN m c1 : Nat) : Int) ∧ w = wr) (fun _ j _ => ((8 : Int) - intOf j).toNat)
      case atStart => exact ⟨0, rfl, by omega, rfl, rfl⟩
      case round =>
        obtain ⟨m, rfl, hm, rfl, rfl⟩ := hrel
        have hlt := stepN_lt m c1 l1
        rcases Nat.lt_or_ge m 8 with hm1 | hm1
        · have mj : (m : Int) < 8 := by omega
          have hs : stepN (m + 1) c1 = Crc.step (stepN m c1) := rfl
          generalize stepN m c1 = d at *
          have HD := Lib.hid hs
          clear hs
          by_cases h2 : d % 2 = 1
          · have e1 : ((d : Int) % 2 == 1) = true := by simp; omega
            have HS := Lib.hid (step_odd d hlt h2)
            go_wp2_with fail
            refine ⟨⟨m + 1, rfl, hm1, ?_, trivial⟩, ?_⟩
            · rw [HD.out, HS.out]
            · simp [intOf]
              omega
          · have e1 : ((d : Int) % 2 == 1) = false := by simp; omega
            have HS := Lib.hid (step_ev d h2)
            go_wp2_with fail
            refine ⟨⟨m + 1, rfl, hm1, ?_, trivial⟩, ?_⟩
            · rw [HD.out, HS.out]
            · simp [intOf]
              omega
        · obtain rfl : m = 8 := by omega
          have hs : stepN 8 c1 = Crc.step4 (Crc.step4 c1) := rfl
          have HS := Lib.hid hs
          clear hs
          go_wp2_with fail
          refine ⟨⟨k + 1, rfl, hk1, ?_, trivial⟩, ?_⟩
          · rw [HF.out, HS.out, HC.out]
            rfl
          · simp [intOf]
            omega
    · have ki : (s.size : Int) ≤ (k : Int) := by omega
      obtain rfl : k = s.size := by omega
      have hl : s.data.toList.take s.size = s.data.toList := List.take_of_length_le (by rw [Array.length_toList]; exact Nat.le_refl _)
      rw [hl] at hc ⊢
      have HCV := Lib.hid (crc_val s.data.toList)
      generalize foldC 4294967295 s.data.toList = c at *
      have g1 := not_bits c hc
      clear hl
      go_wp2_with fail
      go_ret
      refine ⟨?_, rfl⟩
      show Ending.returned (Value.int .u32 (bits BinOp.xor IntKind.u32 IntKind.u32.max (c : Int))) = _
      rw [HCV.out, ← g1]
      rfl
theorem rcrcsum_any (s : ByteArray) (w : World) (hs : s.size ≤ 140737488355328) : Calls Try.prog 32 #[.string s] w fun e w' => e = .returned (.int .u32 ((crc s.data.toList : Nat) : Int)) ∧ w = w' := by
  have M := Lib.hid (rmore_any s w hs)
  go_enter Try.func32, Try.ntmps32
  go_wp2_with fail
  refine M.out.mono ?_
  rintro e w1 ⟨rfl, rfl⟩
  clear M
  go_wp2_with fail
  go_ret
  exact ⟨rfl, rfl⟩
end Go.Proofs.Ytabgpleiobpeoaa.Pak
