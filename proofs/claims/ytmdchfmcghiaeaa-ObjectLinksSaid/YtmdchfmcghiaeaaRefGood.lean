/- The reference's Good of objects, walked: as the program's own. No conditions but the slices' own cells. -/
import Derived.Test.YtmdchfmcghiaeaaDec
namespace Go.Proofs.Ytmdchfmcghiaeaa.Obj
open Go.RowKit
theorem rises_add (f : Nat → ByteArray) (k : Nat) : rises f (k + 1) = (rises f k && (decide (k = 0) || Op.bytesLess (f (k - 1)).toList (f k).toList)) := by
  cases k with
  | zero => rfl
  | succ k => rw [rises]; simp
set_option maxRecDepth 100000 in
set_option maxHeartbeats 1000000 in
theorem ref_good_tree (d : ByteArray) (ao : Option Addr) (n cap : Nat) (nm : Nat → ByteArray) (kd : Nat → Int) (id : Nat → ByteArray) (t : ByteArray) (ps : Value) (h : Int) (nt : ByteArray) (w : World) (he : EntsAt w ao n nm kd id) :
    Calls Try.prog 32 #[obj 2 d (.slice ao n cap) t ps h nt] w fun e w' => e = .returned (.bool (treeOk n nm kd id)) ∧ Below w.heap.size w w' := by
  obtain ⟨W, hW⟩ : ∃ W, W = w.alloc (.cells #[.int .i64 2, .string d, .slice ao n cap, .string t, ps, .int .i64 h, .string nt] 34) := ⟨_, rfl⟩
  have hblk := BlkIs.new w 34 #[.int .i64 2, .string d, .slice ao n cap, .string t, ps, .int .i64 h, .string nt]
  have hb0 := (Below.refl w.heap.size w).alloc (Nat.le_refl _) (.cells #[.int .i64 2, .string d, .slice ao n cap, .string t, ps, .int .i64 h, .string nt] 34)
  rw [← hW] at hblk hb0
  have he := he.later hb0
  have HW := Lib.hid hW
  have hm := he.1
  have H0 := Lib.hid (And.intro hblk (And.intro hb0 he))
  have c0 : W.cell? ⟨w.heap.size, 0, none⟩ = some (.int .i64 2) := hblk.cell 0
  clear hW hblk hb0 he
  unfold obj
  go_enter Try.func32, Try.ntmps32
  go_wp2_with fail
  rw [← HW.out]
  clear c0
  go_loopw [3] (fun i wr => ∃ k : Nat, i = .int .i64 (k : Int) ∧ k ≤ n ∧ entsOk nm kd id k = true ∧ rises nm k = true ∧ Below W.heap.size W wr) (fun i _ => ((n : Int) - intOf i).toNat)
  case atStart => exact ⟨0, rfl, by omega, rfl, rfl, Below.refl _ _⟩
  case round =>
    obtain ⟨k, rfl, hk, hr, hri, hb⟩ := hrel
    have hblk := H0.out.1.below hb H0.out.1.lt
    have c2 : wr.cell? ⟨w.heap.size, 2, none⟩ = some (.slice ao n cap) := hblk.cell 2
    have hlt := hblk.lt
    have H := Lib.hid (And.intro hr (And.intro hri hb))
    clear hr hri hb hblk
    rcases Nat.lt_or_ge k n with hk1 | hk1
    case inr =>
      obtain rfl : k = n := by omega
      have ki : (k : Int) ≤ (k : Int) := by omega
      by_cases h256 : (k : Int) ≤ 256
      · go_wp2_with fail
        go_ret
        exact ⟨by rw [treeOk, H.out.1, H.out.2.1, decide_eq_true h256]; rfl, H0.out.2.1.trans (H.out.2.2.mono H0.out.2.1.size)⟩
      · have hx : decide ((k : Int) ≤ 256) = false := decide_eq_false h256
        have h256' : 256 < (k : Int) := by omega
        clear h256
        go_wp2_with fail
        go_ret
        exact ⟨by rw [treeOk, hx, Bool.and_false]; rfl, H0.out.2.1.trans (H.out.2.2.mono H0.out.2.1.size)⟩
    case inl =>
      rcases k with _ | m
      · obtain ⟨b, off, rfl, hbw, hcell⟩ := H0.out.2.2.2 (by omega)
        have e0 : wr.cell? ⟨b, off, none⟩ = some (.string (nm 0)) := by rw [H.out.2.2.cell hbw]; exact by simpa using (hcell 0 hk1).1
        have e1 : wr.cell? ⟨b, off + 1, none⟩ = some (.int .i64 (kd 0)) := by rw [H.out.2.2.cell hbw]; exact by simpa using (hcell 0 hk1).2.1
        have e2 : wr.cell? ⟨b, off + 2, none⟩ = some (.string (id 0)) := by rw [H.out.2.2.cell hbw]; exact by simpa using (hcell 0 hk1).2.2
        have ki : (0 : Int) < n := by omega
        have hno : entOk (nm 0) (kd 0) (id 0) = false → treeOk n nm kd id = false := fun hx => by
          have := entsOk_false nm kd id (0 + 1) (n - (0 + 1)) (by rw [entsOk, hx, Bool.and_false])
          rw [show 0 + 1 + (n - (0 + 1)) = n by omega] at this
          rw [treeOk, this]; rfl
        have Hno := Lib.hid (And.intro hno True.intro)
        clear hno hcell
        have hbe := (H0.out.2.1.trans (H.out.2.2.mono H0.out.2.1.size))
        have Hb := Lib.hid (hbe.alloc hbe.size (.cells #[.string (nm 0), .int .i64 (kd 0), .string (id 0)] 55))
        have Hb' := Lib.hid (H.out.2.2.alloc H.out.2.2.size (.cells #[.string (nm 0), .int .i64 (kd 0), .string (id 0)] 55))
        clear hbe
        go_wp2_with fail
        have C := fun g (hg : Path.nameOk (nm 0) = g) w => by
          have := Path.ref_good (nm 0) w
          rw [hg] at this
          exact this
        cases hg : Path.nameOk (nm 0)
        · have Hg := Lib.hid (And.intro hg (C false hg))
          clear C hg
          go_quiet ((go_at_call 65; exact Sha.quiet_left (Hg.out.2 _)))
          go_wp2_with fail
          go_ret
          exact ⟨by rw [Hno.out.1 (by rw [entOk, Hg.out.1]; rfl)]; rfl, below_drewN Hb.out _⟩
        have Hg := Lib.hid (And.intro hg (C true hg))
        clear C hg
        obtain ⟨q, hq⟩ : ∃ q, (kd 0 == 1 || kd 0 == 2) = q := ⟨_, rfl⟩
        cases q
        · have x1 : (kd 0 != 1) = true := by cases h1 : (kd 0 == 1) <;> simp_all
          have x2 : (kd 0 != 2) = true := by cases h1 : (kd 0 == 2) <;> simp_all
          have Hq := Lib.hid hq
          clear hq
          go_quiet ((go_at_call 65; exact Sha.quiet_left (Hg.out.2 _)))
          go_wp2_with fail
          go_ret
          exact ⟨by rw [Hno.out.1 (by rw [entOk, Hq.out, Bool.and_false]; rfl)]; rfl, below_drewN Hb.out _⟩
        have Hq := Lib.hid hq
        have hk12 : kd 0 = 1 ∨ kd 0 = 2 := by simpa using hq
        have hsz : (((id 0).size : Int) == 32) = false ∨ (((id 0).size : Int) == 32) = true := by cases (((id 0).size : Int) == 32) <;> simp
        clear hq
        rcases hk12 with h12 | h12
        all_goals
          rw [h12] at e1 ⊢
          rcases hsz with hid | hid
          · have x3 : (((id 0).size : Int) != 32) = true := by rw [bne, hid]; rfl
            have Hid := Lib.hid hid
            clear hid
            go_quiet ((go_at_call 65; exact Sha.quiet_left (Hg.out.2 _)))
            go_wp2_with fail
            go_ret
            exact ⟨by rw [Hno.out.1 (by rw [entOk, Hid.out, Bool.and_false])]; rfl, by rw [← h12]; exact below_drewN Hb.out _⟩
          have x3 : (((id 0).size : Int) != 32) = false := by rw [bne, hid]; rfl
          have Hid := Lib.hid hid
          clear hid
          have hdd : decide ((0 : Int) < 0) = false := by decide
          go_quiet ((go_at_call 65; exact Sha.quiet_left (Hg.out.2 _)))
          go_wp2_with fail
          refine ⟨⟨1, rfl, hk1, by rw [entsOk, entsOk, entOk, Hg.out.1, Hq.out, Hid.out]; rfl, rfl, ?_⟩, ?_⟩
          · rw [← h12]; exact below_drewN Hb'.out _
          · simp [intOf]; omega
      · obtain ⟨b, off, rfl, hbw, hcell⟩ := H0.out.2.2.2 (by omega)
        have e0 : wr.cell? ⟨b, off + (m + 1) * 3, none⟩ = some (.string (nm (m + 1))) := by rw [H.out.2.2.cell hbw]; exact (hcell (m + 1) hk1).1
        have e1 : wr.cell? ⟨b, off + (m + 1) * 3 + 1, none⟩ = some (.int .i64 (kd (m + 1))) := by rw [H.out.2.2.cell hbw]; exact (hcell (m + 1) hk1).2.1
        have e2 : wr.cell? ⟨b, off + (m + 1) * 3 + 2, none⟩ = some (.string (id (m + 1))) := by rw [H.out.2.2.cell hbw]; exact (hcell (m + 1) hk1).2.2
        have p0 : wr.cell? ⟨b, off + m * 3, none⟩ = some (.string (nm m)) := by rw [H.out.2.2.cell hbw]; exact (hcell m (by omega)).1
        have ki : (m : Int) + 1 < n := by omega
        have hno : entOk (nm (m + 1)) (kd (m + 1)) (id (m + 1)) = false → treeOk n nm kd id = false := fun hx => by
          have := entsOk_false nm kd id ((m + 1) + 1) (n - ((m + 1) + 1)) (by rw [entsOk, hx, Bool.and_false])
          rw [show (m + 1) + 1 + (n - ((m + 1) + 1)) = n by omega] at this
          rw [treeOk, this]; rfl
        have hno2 : Op.bytesLess (nm m).toList (nm (m + 1)).toList = false → treeOk n nm kd id = false := fun hx => by
          have := rises_false nm ((m + 1) + 1) (n - ((m + 1) + 1)) (by rw [rises, hx, Bool.and_false])
          rw [show (m + 1) + 1 + (n - ((m + 1) + 1)) = n by omega] at this
          rw [treeOk, this, Bool.and_false]
        have Hno := Lib.hid (And.intro hno hno2)
        clear hno hno2 hcell
        have hbe := (H0.out.2.1.trans (H.out.2.2.mono H0.out.2.1.size))
        have Hb := Lib.hid (hbe.alloc hbe.size (.cells #[.string (nm (m + 1)), .int .i64 (kd (m + 1)), .string (id (m + 1))] 55))
        have Hb' := Lib.hid (H.out.2.2.alloc H.out.2.2.size (.cells #[.string (nm (m + 1)), .int .i64 (kd (m + 1)), .string (id (m + 1))] 55))
        clear hbe
        rw [show ((m + 1 : Nat) : Int) = (m : Int) + 1 from rfl]
        go_wp2_with fail
        have C := fun g (hg : Path.nameOk (nm (m + 1)) = g) w => by
          have := Path.ref_good (nm (m + 1)) w
          rw [hg] at this
          exact this
        cases hg : Path.nameOk (nm (m + 1))
        · have Hg := Lib.hid (And.intro hg (C false hg))
          clear C hg
          go_quiet ((go_at_call 65; exact Sha.quiet_left (Hg.out.2 _)))
          go_wp2_with fail
          go_ret
          exact ⟨by rw [Hno.out.1 (by rw [entOk, Hg.out.1]; rfl)]; rfl, below_drewN Hb.out _⟩
        have Hg := Lib.hid (And.intro hg (C true hg))
        clear C hg
        obtain ⟨q, hq⟩ : ∃ q, (kd (m + 1) == 1 || kd (m + 1) == 2) = q := ⟨_, rfl⟩
        cases q
        · have x1 : (kd (m + 1) != 1) = true := by cases h1 : (kd (m + 1) == 1) <;> simp_all
          have x2 : (kd (m + 1) != 2) = true := by cases h1 : (kd (m + 1) == 2) <;> simp_all
          have Hq := Lib.hid hq
          clear hq
          go_quiet ((go_at_call 65; exact Sha.quiet_left (Hg.out.2 _)))
          go_wp2_with fail
          go_ret
          exact ⟨by rw [Hno.out.1 (by rw [entOk, Hq.out, Bool.and_false]; rfl)]; rfl, below_drewN Hb.out _⟩
        have Hq := Lib.hid hq
        have hk12 : kd (m + 1) = 1 ∨ kd (m + 1) = 2 := by simpa using hq
        have hsz : (((id (m + 1)).size : Int) == 32) = false ∨ (((id (m + 1)).size : Int) == 32) = true := by cases (((id (m + 1)).size : Int) == 32) <;> simp
        clear hq
        rcases hk12 with h12 | h12
        all_goals
          rw [h12] at e1 ⊢
          rcases hsz with hid | hid
          · have x3 : (((id (m + 1)).size : Int) != 32) = true := by rw [bne, hid]; rfl
            have Hid := Lib.hid hid
            clear hid
            go_quiet ((go_at_call 65; exact Sha.quiet_left (Hg.out.2 _)))
            go_wp2_with fail
            go_ret
            exact ⟨by rw [Hno.out.1 (by rw [entOk, Hid.out, Bool.and_false])]; rfl, by rw [← h12]; exact below_drewN Hb.out _⟩
          have x3 : (((id (m + 1)).size : Int) != 32) = false := by rw [bne, hid]; rfl
          have Hid := Lib.hid hid
          clear hid
          have hdd : (0 : Int) < (m : Int) + 1 := by omega
          have kj : (m : Int) < n := by omega
          have hbr : b < wr.heap.size := Nat.lt_of_lt_of_le hbw H.out.2.2.size
          have kb : (m : Int) ≤ 9223372036854775807 := by omega
          have kw : IntKind.i64.wrap (m : Int) = m := by rw [Go.IntWalk.i64_left]; exact Go.IntWalk.wrap64_in _ (by omega)
          have hlt : Op.bytesLess (nm m).toList (nm (m + 1)).toList = false ∨ Op.bytesLess (nm m).toList (nm (m + 1)).toList = true := by cases Op.bytesLess (nm m).toList (nm (m + 1)).toList <;> simp
          rcases hlt with hlt | hlt
          · have Hlt := Lib.hid hlt
            go_quiet ((go_at_call 65; exact Sha.quiet_left (Hg.out.2 _)))
            go_wp2_with fail
            go_ret
            exact ⟨by rw [Hno.out.2 Hlt.out]; rfl, by rw [← h12]; exact below_drewN Hb.out _⟩
          · have Hlt := Lib.hid hlt
            go_quiet ((go_at_call 65; exact Sha.quiet_left (Hg.out.2 _)))
            go_wp2_with fail
            refine ⟨⟨m + 2, rfl, hk1, ?_, ?_, ?_⟩, ?_⟩
            · rw [entsOk, H.out.1, entOk, Hg.out.1, Hq.out, Hid.out]; rfl
            · rw [rises, H.out.2.1, Hlt.out]; rfl
            · rw [← h12]; exact below_drewN Hb'.out _
            · simp [intOf]; omega
end Go.Proofs.Ytmdchfmcghiaeaa.Obj
