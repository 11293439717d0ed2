/- The law's own 'great', walked: it answers; where it answers no, the two slices have at most 400 elements. No conditions but the slices' own cells. -/
import Derived.Test.YtmdchfmcghiaeaaEncodeAll
namespace Go.Proofs.Ytmdchfmcghiaeaa.Obj
open Go.RowKit
/-- What great answers. -/
def GreatOut (o : Plain) (e : Ending) : Prop := ∃ g, e = .returned (.bool g) ∧ (g = false → o.ne ≤ 400 ∧ o.np ≤ 400)
theorem greatOut_true (o : Plain) : GreatOut o (.returned (.bool true)) := ⟨true, rfl, fun h => by cases h⟩
theorem greatOut_any (o : Plain) (g : Bool) (h1 : o.ne ≤ 400) (h2 : o.np ≤ 400) : GreatOut o (.returned (.bool g)) := ⟨g, rfl, fun _ => ⟨h1, h2⟩⟩
set_option maxRecDepth 100000 in
set_option maxHeartbeats 1000000 in
theorem great_any (o : Plain) (es ps : Value) (w : World) (he : EntsV w es o) (hp : StrsC w ps o) :
    Calls Try.prog 27 #[obj o.k o.d es o.t ps o.h o.n] w fun e w' => GreatOut o e ∧ Below w.heap.size w w' := by
  have hT := Lib.hid (greatOut_true o)
  have hA := Lib.hid (greatOut_any o)
  generalize hO : GreatOut o = GO at *
  have HO := Lib.hid hO
  clear hO
  obtain ⟨k, d, ne, nm, kd, id, t, np, f, h, n⟩ := o
  obtain ⟨ao, cap, rfl, he⟩ := he
  obtain ⟨ap, cp, rfl, -, hp⟩ := hp
  simp only at *
  have hb := (Below.refl w.heap.size w).alloc (Nat.le_refl _) (.cells #[.int .i64 k, .string d, .slice ao ne cap, .string t, .slice ap np cp, .int .i64 h, .string n] 34)
  obtain ⟨W, hW⟩ : ∃ W, W = w.alloc (.cells #[.int .i64 k, .string d, .slice ao ne cap, .string t, .slice ap np cp, .int .i64 h, .string n] 34) := ⟨_, rfl⟩
  have k1 : BlkIs W w.heap.size 34 #[.int .i64 k, .string d, .slice ao ne cap, .string t, .slice ap np cp, .int .i64 h, .string n] := by rw [hW]; exact BlkIs.new _ _ _
  rw [← hW] at hb
  have hm1 := he.1
  have hm2 := hp.1
  have H0 := Lib.hid (And.intro k1 (And.intro (he.later hb) (And.intro (hp.later hb) hb)))
  have HW := Lib.hid hW
  clear hW k1 he hp hb
  by_cases h1 : 400 < (ne : Int)
  case pos =>
    unfold obj
    go_enter Try.func27, Try.ntmps27
    go_wp2_with fail
    rw [← HW.out]
    go_ret
    exact ⟨hT.out, H0.out.2.2.2⟩
  by_cases h2 : 400 < (np : Int)
  case pos =>
    unfold obj
    go_enter Try.func27, Try.ntmps27
    go_wp2_with fail
    rw [← HW.out]
    go_ret
    exact ⟨hT.out, H0.out.2.2.2⟩
  have hA' := Lib.hid (fun g => hA.out g (by omega) (by omega))
  unfold obj
  go_enter Try.func27, Try.ntmps27
  go_wp2_with fail
  rw [← HW.out]
  clear h1 h2
  go_loopw [3, 4] (fun m i wr => ∃ (z : Int) (j : Nat), m = .int .i64 z ∧ i = .int .i64 (j : Int) ∧ j ≤ ne ∧ DrawsOf W wr) (fun _ i _ => ((ne : Int) - intOf i).toNat)
  case atStart => exact ⟨_, 0, rfl, rfl, by omega, DrawsOf.refl _⟩
  case round =>
    obtain ⟨z, j, rfl, rfl, hj, hd⟩ := hrel
    have c2 : wr.cell? ⟨w.heap.size, 2, none⟩ = some (.slice ao ne cap) := by rw [hd.cell]; exact H0.out.1.cell 2
    rcases Nat.lt_or_ge j ne with hj1 | hj1
    case inl =>
      have ji : (j : Int) < ne := by omega
      obtain ⟨b, off, rfl, hbw, hcell⟩ := H0.out.2.1.2 (by omega)
      have p0 : wr.cell? ⟨b, off + j * 3, none⟩ = some (.string (nm j)) := by rw [hd.cell]; exact (hcell j hj1).1
      have p1 : wr.cell? ⟨b, off + j * 3 + 1, none⟩ = some (.int .i64 (kd j)) := by rw [hd.cell]; exact (hcell j hj1).2.1
      have p2 : wr.cell? ⟨b, off + j * 3 + 2, none⟩ = some (.string (id j)) := by rw [hd.cell]; exact (hcell j hj1).2.2
      have Hd := Lib.hid hd
      clear hcell hd
      go_wp2_with fail
      go_quiet (fail)
      go_wp2_with fail
      · go_ret
        exact ⟨hT.out, H0.out.2.2.2.trans (((Hd.out.drewN _).below W.heap.size).mono H0.out.2.2.2.size)⟩
      · refine ⟨⟨_, j + 1, rfl, rfl, hj1, Hd.out.drewN _⟩, ?_⟩
        simp [intOf]
        omega
    case inr =>
      have ji : (ne : Int) ≤ (j : Int) := by omega
      have Hd := Lib.hid hd
      clear hd c2
      have hj' := hj
      clear hj hj1
      have c2 : wr.cell? ⟨w.heap.size, 2, none⟩ = some (.slice ao ne cap) := by rw [Hd.out.cell]; exact H0.out.1.cell 2
      go_wp2_with fail
      clear c2
      go_loopw [3, 5] (fun m i wr' => ∃ (z : Int) (j : Nat), m = .int .i64 z ∧ i = .int .i64 (j : Int) ∧ j ≤ np ∧ DrawsOf W wr') (fun _ i _ => ((np : Int) - intOf i).toNat)
      case atStart => exact ⟨_, 0, rfl, rfl, by omega, Hd.out⟩
      case round =>
        obtain ⟨z, m, rfl, rfl, hj, hd⟩ := hrel
        have c4 : wr.cell? ⟨w.heap.size, 4, none⟩ = some (.slice ap np cp) := by rw [hd.cell]; exact H0.out.1.cell 4
        have Hd2 := Lib.hid hd
        rcases Nat.lt_or_ge m np with hj1 | hj1
        case inl =>
          have mi : (m : Int) < np := by omega
          obtain ⟨b, off, rfl, hbw, hcell⟩ := H0.out.2.2.1.2 (by omega)
          have p0 : wr.cell? ⟨b, off + m, none⟩ = some (.string (f m)) := by rw [hd.cell]; exact hcell m hj1
          clear hcell hd
          go_wp2_with fail
          · go_ret
            exact ⟨hT.out, H0.out.2.2.2.trans ((Hd2.out.below W.heap.size).mono H0.out.2.2.2.size)⟩
          · refine ⟨⟨_, m + 1, rfl, rfl, hj1, Hd2.out⟩, ?_⟩
            simp [intOf]
            omega
        case inr =>
          have mi : (np : Int) ≤ (m : Int) := by omega
          clear hd
          go_wp2_with fail
          go_ret
          exact ⟨hA'.out _, H0.out.2.2.2.trans ((Hd2.out.below W.heap.size).mono H0.out.2.2.2.size)⟩
end Go.Proofs.Ytmdchfmcghiaeaa.Obj
