/- The reference's met, walked: rounds until nothing is new. Conditions: the facts readable, at most 1,000,000, no id twice. (Layer 11.) -/
import Derived.Test.YthcgdpdijdmelaaOrd11
import Derived.Deep.OwnRows
namespace Go.Proofs.Ythcgdpdijdmelaa.Ord
set_option linter.unusedVariables false
open Go.RowKit Go.Sort Go.Lib
/-- Bools as cells. -/
def boolCells (g : Nat → Bool) (n : Nat) : Array Value := ((List.range n).map fun j => Value.bool (g j)).toArray
theorem boolCells_size (g : Nat → Bool) (n : Nat) : (boolCells g n).size = n := by simp [boolCells]
theorem boolCells_get (g : Nat → Bool) (n i : Nat) (h : i < n) : (boolCells g n)[i]? = some (.bool (g i)) := by simp [boolCells, h]
theorem boolCells_set (g : Nat → Bool) (n i : Nat) (b : Bool) : (boolCells g n).setIfInBounds i (.bool b) = boolCells (fun j => if j = i then b else g j) n := by
  apply Array.ext'
  apply List.ext_getElem?
  intro j
  unfold boolCells
  simp only [Array.toList_setIfInBounds, List.getElem?_set, List.getElem?_map, List.length_map, List.length_range]
  by_cases h : i = j
  · subst h
    by_cases hi : i < n
    · simp [hi]
    · simp [hi]
  · have h' : ¬ j = i := Ne.symm h
    by_cases hj : j < n <;> simp [h, h', hj]
theorem made_bools (n : Nat) : madeCells #[Value.bool false] n = boolCells (fun _ => false) n := by
  apply Array.ext'
  apply List.ext_getElem?
  intro j
  unfold madeCells boolCells
  by_cases hj : j < n <;> simp [hj, Nat.mod_one]
def boolOf : Value → Bool
  | .bool b => b
  | _ => false
/-- How many bools of a block are false. -/
def unseenW (wr : World) (g n : Nat) : Nat := unseen (fun j => boolOf ((wr.cell? ⟨g, j, none⟩).getD undef)) n
theorem unseen_congr {g h : Nat → Bool} : ∀ (n : Nat), (∀ j, j < n → g j = h j) → unseen g n = unseen h n
  | 0, _ => rfl
  | k + 1, e => by
    unfold unseen
    rw [unseen_congr k fun j hj => e j (by omega), e k (by omega)]
theorem unseenW_is {wr : World} {g n : Nat} {seen : Nat → Bool} (h : BlkIs wr g 4 (boolCells seen n)) : unseenW wr g n = unseen seen n :=
  unseen_congr n fun j hj => by rw [h.cell, boolCells_get _ _ _ hj]; rfl
/-- What is left to do: twice the unseen, one more if the last round has grown. -/
def refLeft (g n : Nat) (grown : Value) (wr : World) : Nat := 2 * unseenW wr g n + if boolOf grown then 1 else 0
/-- The rounds' keeping. -/
structure RMet (w : World) (n : Nat) (f : Nat → Fv) (s : ByteArray) (whole grown : Bool) (i c : Nat) (u0 : Nat) (seen : Nat → Bool) (wr : World) : Prop where
  inv : RefInv n f s seen whole grown i c
  blk : BlkIs wr w.heap.size 4 (boolCells seen n)
  below : Below w.heap.size w wr
  less : unseen seen n ≤ u0 ∧ (grown = true → unseen seen n < u0)
/-- What the reference's met answers. -/
def RMetOut (n : Nat) (f : Nat → Fv) (s : ByteArray) (w w' : World) (e : Ending) : Prop :=
  ∃ (seen : Nat → Bool) (whole : Bool), e = .returned (.tuple #[.slice (some ⟨w.heap.size, 0, none⟩) n n, .bool whole]) ∧ BlkIs w' w.heap.size 4 (boolCells seen n) ∧ RefInv n f s seen whole false n 0 ∧ Below w.heap.size w w'
theorem RefInv.init {n : Nat} {f : Nat → Fv} {i : Nat} (hi : i < n) : RefInv n f (f i).id (fun j => if j = i then true else false) true true n 0 where
  met j hj h := by
    by_cases e : j = i
    · rw [e]; exact .self
    · rw [if_neg e] at h; cases h
  start := ⟨i, hi, by simp, rfl⟩
  open_ h := by cases h
  done h := by cases h
set_option maxRecDepth 100000 in
set_option maxHeartbeats 2000000 in
theorem rmet_any (ao : Option Addr) (n cap : Nat) (f : Nat → Fv) (s : ByteArray) (at0 : Nat) (w : World) (hF : FactsAt w ao n f) (hn : n ≤ 1000000) (hat : at0 < n) (hs : (f at0).id = s) :
    Calls Try.prog 36 #[.slice ao n cap, .int .i64 (at0 : Int)] w fun e w' => RMetOut n f s w w' e := by
  obtain ⟨i0, hi0, hz0, hs0, hb0⟩ := info_parts (show (Try.prog.info? 4).map (fun i => (i.zero, i.size, i.bytes)) = some (some (.bool false), 1, 1) from by kernel_rfl)
  have hat' : (at0 : Int) < n := by omega
  have H0 := Lib.hid (show ∃ W, W = w.alloc (.cells ((madeCells #[.bool false] n).setIfInBounds at0 (.bool true)) 4) ∧ RMet w n f s true true n 0 (n + 1) (fun j => if j = at0 then true else false) W from
    ⟨_, rfl, by rw [← hs]; exact RefInv.init hat, by
      rw [made_bools, boolCells_set]
      exact BlkIs.new _ _ _, (Below.refl _ _).alloc (Nat.le_refl _) _, by
      have := unseen_le (fun j => if j = at0 then true else false) n
      exact ⟨by omega, fun _ => by omega⟩⟩)
  have kb := BlkIs.new w 4 (madeCells #[.bool false] n)
  have c0 : (w.alloc (.cells (madeCells #[.bool false] n) 4)).cell? ⟨w.heap.size, at0, none⟩ = some (.bool false) := by rw [kb.cell, made_bools, boolCells_get _ _ _ hat]
  have f0 : (w.alloc (.cells (madeCells #[.bool false] n) 4)).frozen? ⟨w.heap.size, at0, none⟩ = false := kb.free _
  have HF := Lib.hid hF
  have hm := hF.1
  have hbytes : i0.bytes * n ≤ 281474976710656 := by rw [hb0]; omega
  have HI0 := Lib.hid (And.intro hi0 (And.intro hz0 (And.intro hs0 hbytes)))
  have hn63 : n ≤ 9223372036854775807 := by omega
  clear hF hs kb hi0 hz0 hs0 hb0 hbytes
  go_enter Try.func36, Try.ntmps36
  go_wp2_with (at_make; (refine wpList_make_row _ rfl _ _ 63 rfl 4 i0 (.bool false) Try.underlying63 HI0.out.1 HI0.out.2.1 HI0.out.2.2.1 rfl .i64 .i64 n rfl rfl HI0.out.2.2.2 hn63 ?_))
  obtain ⟨W, hW, H0⟩ := H0.out
  rw [← hW]
  have H0 := Lib.hid H0
  clear hW c0 f0 HI0
  go_loopw [7, 8] (fun v g wr => ∃ (whole grown : Bool) (seen : Nat → Bool), v = .bool whole ∧ g = .bool grown ∧ Hid (RMet w n f s whole grown n 0 (n + 1) seen wr)) (fun _ g wr => refLeft w.heap.size n g wr)
  case atStart => exact ⟨true, true, _, rfl, rfl, H0⟩
  case round =>
    obtain ⟨whole, grown, seen, rfl, rfl, HM⟩ := hrel
    clear H0
    cases grown
    case false =>
      go_wp2_with fail
      go_ret2
      exact ⟨seen, whole, rfl, HM.out.blk, HM.out.inv, HM.out.below⟩
    case true =>
      obtain ⟨u0, hu0⟩ : ∃ u0, u0 = unseen seen n := ⟨_, rfl⟩
      have HU := Lib.hid (show refLeft w.heap.size n (.bool true) wr = 2 * u0 + 1 from by unfold refLeft; rw [unseenW_is HM.out.blk, hu0]; rfl)
      have H1 := Lib.hid (show RMet w n f s whole false 0 0 u0 seen wr from ⟨HM.out.inv.round, HM.out.blk, HM.out.below, by rw [hu0]; exact ⟨Nat.le_refl _, fun h => by cases h⟩⟩)
      clear hu0 HM
      go_wp2_with fail
      go_loopw [7, 8, 9] (fun v g i wr => ∃ (whole grown : Bool) (seen : Nat → Bool) (k : Nat), v = .bool whole ∧ g = .bool grown ∧ i = .int .i64 (k : Int) ∧ k ≤ n ∧ Hid (RMet w n f s whole grown k 0 u0 seen wr)) (fun _ _ i _ => ((n : Int) - intOf i).toNat)
      case atStart => exact ⟨whole, false, seen, 0, rfl, rfl, rfl, by omega, H1⟩
      case round =>
        obtain ⟨whole1, grown1, seen1, k, rfl, rfl, rfl, hk, HR⟩ := hrel
        clear H1
        rcases Nat.lt_or_ge k n with hk1 | hk1
        · obtain ⟨b, off, hao, hlt, hcell⟩ := HF.out.2.1 (by omega)
          have ki : (k : Int) < n := by omega
          have hsz := HF.out.2.2 k hk1
          obtain ⟨z, hz⟩ : ∃ z, z = f k := ⟨_, rfl⟩
          have hck := (hcell k hk1).2.2
          rw [← hz] at hsz hck
          have HZ := Lib.hid (And.intro hz (And.intro hsz (And.intro hck (And.intro hao hlt))))
          have hmz := hsz.1
          clear hcell hz hsz hck hao hlt
          go_wp2_with fail
          go_loopw [7, 8, 10] (fun v g c wr => ∃ (whole grown : Bool) (seen : Nat → Bool) (m : Nat), v = .bool whole ∧ g = .bool grown ∧ c = .int .i64 (m : Int) ∧ m ≤ z.np ∧ Hid (RMet w n f s whole grown k m u0 seen wr)) (fun _ _ c _ => ((z.np : Int) - intOf c).toNat)
          case atStart => exact ⟨whole1, grown1, seen1, 0, rfl, rfl, rfl, by omega, HR⟩
          case round =>
            obtain ⟨whole2, grown2, seen2, m, rfl, rfl, rfl, hm2, HI⟩ := hrel
            clear HR
            have bk : wr.cell? ⟨w.heap.size, k, none⟩ = some (.bool (seen2 k)) := by rw [HI.out.blk.cell, boolCells_get _ _ _ hk1]
            obtain ⟨sk, hsk⟩ : ∃ sk, sk = seen2 k := ⟨_, rfl⟩
            rw [← hsk] at bk
            have HSK := Lib.hid hsk
            clear hsk
            cases sk
            case false =>
              go_wp2_with fail
              refine ⟨⟨whole2, grown2, seen2, k + 1, rfl, rfl, rfl, hk1, Lib.hid ⟨HI.out.inv.next (fun h => by rw [← HSK.out] at h; cases h), HI.out.blk, HI.out.below, HI.out.less⟩⟩, ?_⟩
              simp [intOf]
              omega
            case true =>
              obtain ⟨b, off, rfl⟩ : ∃ b off, ao = some ⟨b, off, none⟩ := by obtain ⟨b, off, h, _⟩ := HF.out.2.1 (by omega); exact ⟨b, off, h⟩
              have hck : wr.cell? ⟨b, off + k * 3 + 2, none⟩ = some (.slice z.pa z.np z.pc) := by
                obtain ⟨b', off', h, hlt, hcell⟩ := HF.out.2.1 (by omega)
                cases h
                rw [HI.out.below.cell hlt, HZ.out.1]
                exact (hcell k hk1).2.2
              rcases Nat.lt_or_ge m z.np with hm3 | hm3
              · have mi : (m : Int) < z.np := by omega
                obtain ⟨bp, offp, hpa, hltp, hcellp⟩ := HZ.out.2.1.2 (by omega)
                have c0 := hcellp m hm3
                rw [← HI.out.below.cell hltp] at c0
                rw [hpa] at hck
                obtain ⟨p, hp⟩ : ∃ p, p = z.p m := ⟨_, rfl⟩
                rw [← hp] at c0
                have P := Lib.hid (place_any (some ⟨b, off, none⟩) n cap f p wr (HF.out.later HI.out.below))
                have HP := Lib.hid (show p = (f k).p m ∧ m < (f k).np from ⟨by rw [hp, HZ.out.1], by rw [← HZ.out.1]; exact hm3⟩)
                clear hcellp hp hpa
                by_cases hpl : place f p n < n
                · have hpv : placeV f n p = (place f p n : Int) := by unfold placeV; rw [if_pos hpl]
                  rw [hpv] at P
                  have HPL := Lib.hid hpl
                  obtain ⟨j, hj⟩ : ∃ j, j = place f p n := ⟨_, rfl⟩
                  rw [← hj] at P hpl
                  have HJ := Lib.hid hj
                  have ji : (j : Int) < n := by omega
                  have bj : wr.cell? ⟨w.heap.size, j, none⟩ = some (.bool (seen2 j)) := by rw [HI.out.blk.cell, boolCells_get _ _ _ hpl]
                  have fj : wr.frozen? ⟨w.heap.size, j, none⟩ = false := HI.out.blk.free j
                  obtain ⟨sj, hsj⟩ : ∃ sj, sj = seen2 j := ⟨_, rfl⟩
                  rw [← hsj] at bj
                  have HSJ := Lib.hid hsj
                  clear hsj hj hpv
                  cases sj
                  case true =>
                    go_wp2_with fail
                    refine P.out.mono ?_
                    rintro e w1 ⟨rfl, rfl⟩
                    clear P
                    go_wp2_with fail
                    refine ⟨⟨whole2, grown2, seen2, m + 1, rfl, rfl, rfl, hm3, Lib.hid ⟨HI.out.inv.old (by rw [← HP.out.1]; exact HPL.out) (by rw [← HP.out.1, ← HJ.out]; exact HSJ.out.symm), HI.out.blk, HI.out.below, HI.out.less⟩⟩, ?_⟩
                    simp [intOf]
                    omega
                  case false =>
                    go_wp2_with fail
                    refine P.out.mono ?_
                    rintro e w1 ⟨rfl, rfl⟩
                    clear P
                    go_wp2_with fail
                    refine ⟨⟨whole2, true, _, m + 1, rfl, rfl, rfl, hm3, Lib.hid ⟨HI.out.inv.new hk1 HSK.out.symm HP.out.2 (by rw [← HP.out.1]; exact HPL.out), ?_, HI.out.below.setCell (Nat.le_refl _) _, ?_⟩⟩, ?_⟩
                    · rw [← HP.out.1, ← HJ.out, ← boolCells_set]
                      exact HI.out.blk.put j _
                    · rw [← HP.out.1, ← HJ.out]
                      have h1 := unseen_set seen2 j n
                      rw [if_pos ⟨hpl, HSJ.out.symm⟩] at h1
                      have h2 := HI.out.less.1
                      exact ⟨by omega, fun _ => by omega⟩
                    · simp [intOf]
                      omega
                · have hpv : placeV f n p = -1 := by unfold placeV; rw [if_neg hpl]
                  rw [hpv] at P
                  have HPL := Lib.hid hpl
                  clear hpl hpv
                  go_wp2_with fail
                  refine P.out.mono ?_
                  rintro e w1 ⟨rfl, rfl⟩
                  clear P
                  go_wp2_with fail
                  refine ⟨⟨false, grown2, seen2, m + 1, rfl, rfl, rfl, hm3, Lib.hid ⟨HI.out.inv.none_ hk1 HSK.out.symm HP.out.2 (by rw [← HP.out.1]; exact HPL.out), HI.out.blk, HI.out.below, HI.out.less⟩⟩, ?_⟩
                  simp [intOf]
                  omega
              · have mi : (z.np : Int) ≤ (m : Int) := by omega
                go_wp2_with fail
                refine ⟨⟨whole2, grown2, seen2, k + 1, rfl, rfl, rfl, hk1, Lib.hid ⟨HI.out.inv.next (fun _ => by rw [← HZ.out.1]; exact hm3), HI.out.blk, HI.out.below, HI.out.less⟩⟩, ?_⟩
                simp [intOf]
                omega
        · have ki : (n : Int) ≤ (k : Int) := by omega
          obtain rfl : k = n := by omega
          go_wp2_with fail
          refine ⟨⟨whole1, grown1, seen1, rfl, rfl, Lib.hid ⟨HR.out.inv, HR.out.blk, HR.out.below, by have := unseen_le seen1 k; exact ⟨by omega, fun _ => by omega⟩⟩⟩, ?_⟩
          rw [HU.out]
          unfold refLeft
          rw [unseenW_is HR.out.blk]
          have h1 := HR.out.less
          cases grown1
          · simp [boolOf]; omega
          · have := h1.2 rfl
            simp [boolOf]; omega
end Go.Proofs.Ythcgdpdijdmelaa.Ord
