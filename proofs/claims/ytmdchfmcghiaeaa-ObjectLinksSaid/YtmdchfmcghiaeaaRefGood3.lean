/- The reference's Good of commits, blobs and other kinds, walked. No conditions but the slices' own cells. -/
import Derived.Test.YtmdchfmcghiaeaaDec
namespace Go.Proofs.Ytmdchfmcghiaeaa.Obj
open Go.RowKit
theorem commit_true {t : ByteArray} {np : Nat} {f : Nat → ByteArray} {h : Int} {n : ByteArray} (h1 : rises f np = true) (h2 : ids f np = true) :
    commitOk t np f h n = (((t.size : Int) == 32) && decide ((np : Int) ≤ 8) && decide (0 ≤ h) && decide (h ≤ 1073741824) && ((h == 0) == ((np : Int) == 0)) && decide ((n.size : Int) ≤ 1000)) := by
  unfold commitOk
  rw [h1, h2]
  by_cases h0 : 0 ≤ h
  · have e1 : (h == 0) = !decide (0 < h) := by rw [Bool.eq_iff_iff]; simp; omega
    have e2 : (((np : Int)) == 0) = !decide (0 < (np : Int)) := by rw [Bool.eq_iff_iff]; simp
    rw [e1, e2]
    cases ((t.size : Int) == 32) <;> cases decide ((np : Int) ≤ 8) <;> cases decide (0 ≤ h) <;> cases decide (h ≤ 1073741824) <;> cases decide (0 < h) <;> cases decide (0 < (np : Int)) <;> cases decide ((n.size : Int) ≤ 1000) <;> rfl
  · rw [decide_eq_false h0]
    cases ((t.size : Int) == 32) <;> cases decide ((np : Int) ≤ 8) <;> cases decide (h ≤ 1073741824) <;> cases decide ((n.size : Int) ≤ 1000) <;> simp
set_option maxRecDepth 100000 in
set_option maxHeartbeats 1000000 in
theorem ref_good_commit (d : ByteArray) (es : Value) (t : ByteArray) (ao : Option Addr) (n cap : Nat) (f : Nat → ByteArray) (h : Int) (nt : ByteArray) (w : World) (hp : StrsAt w ao n f) :
    Calls Try.prog 32 #[obj 3 d es t (.slice ao n cap) h nt] w fun e w' => e = .returned (.bool (commitOk t n f h nt)) ∧ Below w.heap.size w w' := by
  obtain ⟨W, hW⟩ : ∃ W, W = w.alloc (.cells #[.int .i64 3, .string d, es, .string t, .slice ao n cap, .int .i64 h, .string nt] 34) := ⟨_, rfl⟩
  have hblk := BlkIs.new w 34 #[.int .i64 3, .string d, es, .string t, .slice ao n cap, .int .i64 h, .string nt]
  have hb0 := (Below.refl w.heap.size w).alloc (Nat.le_refl _) (.cells #[.int .i64 3, .string d, es, .string t, .slice ao n cap, .int .i64 h, .string nt] 34)
  rw [← hW] at hblk hb0
  have hp := hp.later hb0
  have HW := Lib.hid hW
  have hm := hp.1
  have H0 := Lib.hid (And.intro hblk (And.intro hb0 hp))
  have c0 : W.cell? ⟨w.heap.size, 0, none⟩ = some (.int .i64 3) := hblk.cell 0
  clear hW hblk hb0 hp
  unfold obj
  go_enter Try.func32, Try.ntmps32
  go_wp2_with fail
  rw [← HW.out]
  clear c0
  go_loopw [5] (fun i wr => ∃ k : Nat, i = .int .i64 (k : Int) ∧ k ≤ n ∧ ids f k = true ∧ rises f k = true ∧ Below W.heap.size W wr) (fun i _ => ((n : Int) - intOf i).toNat)
  case atStart => exact ⟨0, rfl, by omega, rfl, rfl, Below.refl _ _⟩
  case round =>
    obtain ⟨k, rfl, hk, hr, hri, hb⟩ := hrel
    have hblk := H0.out.1.below hb H0.out.1.lt
    have c3 : wr.cell? ⟨w.heap.size, 3, none⟩ = some (.string t) := hblk.cell 3
    have c4 : wr.cell? ⟨w.heap.size, 4, none⟩ = some (.slice ao n cap) := hblk.cell 4
    have c5 : wr.cell? ⟨w.heap.size, 5, none⟩ = some (.int .i64 h) := hblk.cell 5
    have c6 : wr.cell? ⟨w.heap.size, 6, none⟩ = some (.string nt) := hblk.cell 6
    have hlt := hblk.lt
    have H := Lib.hid (And.intro hr (And.intro hri hb))
    have hbe := H0.out.2.1.trans (hb.mono H0.out.2.1.size)
    have Hb := Lib.hid hbe
    clear hr hri hb hblk hbe
    rcases Nat.lt_or_ge k n with hk1 | hk1
    case inr =>
      obtain rfl : k = n := by omega
      have ki : (k : Int) ≤ (k : Int) := by omega
      have hct := commit_true (t := t) (h := h) (n := nt) H.out.2.1 H.out.1
      have Hct := Lib.hid hct
      clear hct
      cases ht : ((t.size : Int) == 32)
      · go_wp2_with fail
        go_ret
        exact ⟨by rw [Hct.out, ht]; rfl, Hb.out⟩
      by_cases h8 : (k : Int) ≤ 8
      case neg =>
        have hx : decide ((k : Int) ≤ 8) = false := decide_eq_false h8
        have hx' : 8 < (k : Int) := by omega
        clear h8
        go_wp2_with fail
        go_ret
        exact ⟨by rw [Hct.out, hx]; simp, Hb.out⟩
      by_cases hh0 : h < 0
      · have hx : decide (0 ≤ h) = false := decide_eq_false (by omega)
        go_wp2_with fail
        go_ret
        exact ⟨by rw [Hct.out, hx]; simp, Hb.out⟩
      have hh1 : 0 ≤ h := by omega
      clear hh0
      by_cases hhb : 1073741824 < h
      · have hx : decide (h ≤ 1073741824) = false := decide_eq_false (by omega)
        go_wp2_with fail
        go_ret
        exact ⟨by rw [Hct.out, hx]; simp, Hb.out⟩
      have hhs : h ≤ 1073741824 := by omega
      clear hhb
      cases hq : ((h == 0) == ((k : Int) == 0))
      · go_wp2_with fail
        go_ret
        exact ⟨by rw [Hct.out, hq]; simp, Hb.out⟩
      · go_wp2_with fail
        go_ret
        exact ⟨by rw [Hct.out, hq, ht, decide_eq_true h8, decide_eq_true hh1, decide_eq_true hhs]; rfl, Hb.out⟩
    case inl =>
      rcases k with _ | m
      · obtain ⟨b, off, rfl, hbw, hcell⟩ := H0.out.2.2.2 (by omega)
        have e0 : wr.cell? ⟨b, off, none⟩ = some (.string (f 0)) := by rw [H.out.2.2.cell hbw]; exact hcell 0 hk1
        have ki : (0 : Int) < n := by omega
        have hno : (((f 0).size : Int) == 32) = false → commitOk t n f h nt = false := fun hx => by
          have := ids_false f (0 + 1) (n - (0 + 1)) (by rw [ids, hx, Bool.and_false])
          rw [show 0 + 1 + (n - (0 + 1)) = n by omega] at this
          unfold commitOk; rw [this]; simp
        have Hno := Lib.hid (And.intro hno True.intro)
        clear hno hcell
        go_wp2_with fail
        have hsz : (((f 0).size : Int) == 32) = false ∨ (((f 0).size : Int) == 32) = true := by cases (((f 0).size : Int) == 32) <;> simp
        rcases hsz with hid | hid
        · have x3 : (((f 0).size : Int) != 32) = true := by rw [bne, hid]; rfl
          have Hid := Lib.hid hid
          clear hid
          go_quiet (fail)
          go_wp2_with fail
          go_ret
          exact ⟨by rw [Hno.out.1 Hid.out]; rfl, below_drewN Hb.out _⟩
        have x3 : (((f 0).size : Int) != 32) = false := by rw [bne, hid]; rfl
        have Hid := Lib.hid hid
        clear hid
        have hdd : decide ((0 : Int) < 0) = false := by decide
        go_quiet (fail)
        go_wp2_with fail
        refine ⟨⟨1, rfl, hk1, by rw [ids, ids, Hid.out]; rfl, rfl, below_drewN H.out.2.2 _⟩, ?_⟩
        simp [intOf]; omega
      · obtain ⟨b, off, rfl, hbw, hcell⟩ := H0.out.2.2.2 (by omega)
        have e0 : wr.cell? ⟨b, off + (m + 1), none⟩ = some (.string (f (m + 1))) := by rw [H.out.2.2.cell hbw]; exact hcell (m + 1) hk1
        have p0 : wr.cell? ⟨b, off + m, none⟩ = some (.string (f m)) := by rw [H.out.2.2.cell hbw]; exact hcell m (by omega)
        have kj : (m : Int) < n := by omega
        have hbr : b < wr.heap.size := Nat.lt_of_lt_of_le hbw H.out.2.2.size
        have kb : (m : Int) ≤ 9223372036854775807 := by omega
        have kw : IntKind.i64.wrap (m : Int) = m := by rw [Go.IntWalk.i64_left]; exact Go.IntWalk.wrap64_in _ (by omega)
        have ki : (m : Int) + 1 < n := by omega
        have hno : (((f (m + 1)).size : Int) == 32) = false → commitOk t n f h nt = false := fun hx => by
          have := ids_false f ((m + 1) + 1) (n - ((m + 1) + 1)) (by rw [ids, hx, Bool.and_false])
          rw [show (m + 1) + 1 + (n - ((m + 1) + 1)) = n by omega] at this
          unfold commitOk; rw [this]; simp
        have hno2 : Op.bytesLess (f m).toList (f (m + 1)).toList = false → commitOk t n f h nt = false := fun hx => by
          have := rises_false f ((m + 1) + 1) (n - ((m + 1) + 1)) (by rw [rises, hx, Bool.and_false])
          rw [show (m + 1) + 1 + (n - ((m + 1) + 1)) = n by omega] at this
          unfold commitOk; rw [this]; simp
        have Hno := Lib.hid (And.intro hno hno2)
        clear hno hno2 hcell
        rw [show ((m + 1 : Nat) : Int) = (m : Int) + 1 from rfl]
        go_wp2_with fail
        have hsz : (((f (m + 1)).size : Int) == 32) = false ∨ (((f (m + 1)).size : Int) == 32) = true := by cases (((f (m + 1)).size : Int) == 32) <;> simp
        rcases hsz with hid | hid
        · have x3 : (((f (m + 1)).size : Int) != 32) = true := by rw [bne, hid]; rfl
          have Hid := Lib.hid hid
          clear hid
          go_quiet (fail)
          go_wp2_with fail
          go_ret
          exact ⟨by rw [Hno.out.1 Hid.out]; rfl, below_drewN Hb.out _⟩
        have x3 : (((f (m + 1)).size : Int) != 32) = false := by rw [bne, hid]; rfl
        have Hid := Lib.hid hid
        clear hid
        have hdd : (0 : Int) < (m : Int) + 1 := by omega
        have hlt' : Op.bytesLess (f m).toList (f (m + 1)).toList = false ∨ Op.bytesLess (f m).toList (f (m + 1)).toList = true := by cases Op.bytesLess (f m).toList (f (m + 1)).toList <;> simp
        rcases hlt' with hlt' | hlt'
        · have Hlt := Lib.hid hlt'
          go_quiet (fail)
          go_wp2_with fail
          go_ret
          exact ⟨by rw [Hno.out.2 Hlt.out]; rfl, below_drewN Hb.out _⟩
        · have Hlt := Lib.hid hlt'
          go_quiet (fail)
          go_wp2_with fail
          refine ⟨⟨m + 2, rfl, hk1, ?_, ?_, below_drewN H.out.2.2 _⟩, ?_⟩
          · rw [ids, H.out.1, Hid.out]; rfl
          · rw [rises, H.out.2.1, Hlt.out]; rfl
          · simp [intOf]; omega
set_option maxRecDepth 100000 in
theorem ref_good_blob (d : ByteArray) (es : Value) (t : ByteArray) (ps : Value) (h : Int) (n : ByteArray) (w : World) :
    Calls Try.prog 32 #[obj 1 d es t ps h n] w fun e w' => e = .returned (.bool (decide ((d.size : Int) ≤ 65536))) ∧ Below w.heap.size w w' := by
  unfold obj
  go_enter Try.func32, Try.ntmps32
  go_wp2_with fail
  go_ret
  exact ⟨rfl, (Below.refl _ _).alloc (Nat.le_refl _) _⟩
set_option maxRecDepth 100000 in
theorem ref_good_odd (k : Int) (d : ByteArray) (es : Value) (t : ByteArray) (ps : Value) (h : Int) (n : ByteArray) (w : World) (h1 : k ≠ 1) (h2 : k ≠ 2) (h3 : k ≠ 3) :
    Calls Try.prog 32 #[obj k d es t ps h n] w fun e w' => e = .returned (.bool false) ∧ Below w.heap.size w w' := by
  unfold obj
  go_enter Try.func32, Try.ntmps32
  have q1 : (k == 1) = false := by simpa using h1
  have q2 : (k == 2) = false := by simpa using h2
  have q3 : (k == 3) = false := by simpa using h3
  clear h1 h2 h3
  go_wp2_with fail
  go_ret
  exact ⟨rfl, (Below.refl _ _).alloc (Nat.le_refl _) _⟩
end Go.Proofs.Ytmdchfmcghiaeaa.Obj
