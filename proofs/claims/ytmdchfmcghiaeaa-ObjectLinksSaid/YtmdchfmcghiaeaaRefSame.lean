/- The reference's Same, of equal objects: true. No conditions but the slices' own cells. -/
import Derived.Test.YtmdchfmcghiaeaaDec
namespace Go.Proofs.Ytmdchfmcghiaeaa.Obj
open Go.RowKit
set_option maxRecDepth 100000 in
set_option maxHeartbeats 1000000 in
theorem same_eq (o : Plain) (es ps es' ps' : Value) (w : World) (he : EntsV w es o) (hp : StrsV w ps o) (he' : EntsV w es' o) (hp' : StrsV w ps' o) :
    Calls Try.prog 22 #[obj o.k o.d es o.t ps o.h o.n, obj o.k o.d es' o.t ps' o.h o.n] w fun e w' => e = .returned (.bool true) ∧ Below w.heap.size w w' := by
  obtain ⟨k, d, ne, nm, kd, id, t, np, f, h, n⟩ := o
  obtain ⟨ao, cap, rfl, he⟩ := he
  obtain ⟨ap, cp, rfl, hp⟩ := hp
  obtain ⟨bo, bcap, rfl, he'⟩ := he'
  obtain ⟨bp, bcp, rfl, hp'⟩ := hp'
  simp only at *
  have hself : ∀ S : ByteArray, (S.toList == S.toList) = true := fun S => by simp
  have s1 := hself d
  have s2 := hself t
  have s3 := hself n
  have hb := ((Below.refl w.heap.size w).alloc (Nat.le_refl _) (.cells #[.int .i64 k, .string d, .slice ao ne cap, .string t, .slice ap np cp, .int .i64 h, .string n] 34)).alloc (by simp) (.cells #[.int .i64 k, .string d, .slice bo ne bcap, .string t, .slice bp np bcp, .int .i64 h, .string n] 34)
  obtain ⟨W, hW⟩ : ∃ W, W = (w.alloc (.cells #[.int .i64 k, .string d, .slice ao ne cap, .string t, .slice ap np cp, .int .i64 h, .string n] 34)).alloc (.cells #[.int .i64 k, .string d, .slice bo ne bcap, .string t, .slice bp np bcp, .int .i64 h, .string n] 34) := ⟨_, rfl⟩
  have k1 : BlkIs W w.heap.size 34 #[.int .i64 k, .string d, .slice ao ne cap, .string t, .slice ap np cp, .int .i64 h, .string n] := by rw [hW]; exact (BlkIs.new _ _ _).alloc _
  have k2 : BlkIs W (w.heap.size + 1) 34 #[.int .i64 k, .string d, .slice bo ne bcap, .string t, .slice bp np bcp, .int .i64 h, .string n] := by rw [hW]; exact BlkIs.new2 _ _ _ _
  rw [← hW] at hb
  have hm1 := he.1
  have hm2 := hp.1
  have H0 := Lib.hid (And.intro k1 (And.intro k2 (And.intro (he.later hb) (And.intro (hp.later hb) (And.intro (he'.later hb) (And.intro (hp'.later hb) hb))))))
  have HW := Lib.hid hW
  have hlt1 := k1.lt
  have hlt2 := k2.lt
  clear hW k1 k2 he hp he' hp' hb
  unfold obj
  go_enter Try.func22, Try.ntmps22
  go_wp2_with fail
  rw [← HW.out]
  clear s1 s2 s3
  go_loopw [5] (fun i wr => ∃ j : Nat, i = .int .i64 (j : Int) ∧ j ≤ ne ∧ DrawsOf W wr) (fun i _ => ((ne : Int) - intOf i).toNat)
  case atStart => exact ⟨0, rfl, by omega, DrawsOf.refl _⟩
  case round =>
    obtain ⟨j, rfl, hj, hd⟩ := hrel
    have c2 : wr.cell? ⟨w.heap.size, 2, none⟩ = some (.slice ao ne cap) := by rw [hd.cell]; exact H0.out.1.cell 2
    have e2 : wr.cell? ⟨w.heap.size + 1, 2, none⟩ = some (.slice bo ne bcap) := by rw [hd.cell]; exact H0.out.2.1.cell 2
    rcases Nat.lt_or_ge j ne with hj1 | hj1
    case inl =>
      have ji : (j : Int) < ne := by omega
      obtain ⟨b, off, rfl, hbw, hcell⟩ := H0.out.2.2.1.2 (by omega)
      obtain ⟨b', off', rfl, hbw', hcell'⟩ := H0.out.2.2.2.2.1.2 (by omega)
      have p0 : wr.cell? ⟨b, off + j * 3, none⟩ = some (.string (nm j)) := by rw [hd.cell]; exact (hcell j hj1).1
      have p1 : wr.cell? ⟨b, off + j * 3 + 1, none⟩ = some (.int .i64 (kd j)) := by rw [hd.cell]; exact (hcell j hj1).2.1
      have p2 : wr.cell? ⟨b, off + j * 3 + 2, none⟩ = some (.string (id j)) := by rw [hd.cell]; exact (hcell j hj1).2.2
      have q0 : wr.cell? ⟨b', off' + j * 3, none⟩ = some (.string (nm j)) := by rw [hd.cell]; exact (hcell' j hj1).1
      have q1 : wr.cell? ⟨b', off' + j * 3 + 1, none⟩ = some (.int .i64 (kd j)) := by rw [hd.cell]; exact (hcell' j hj1).2.1
      have q2 : wr.cell? ⟨b', off' + j * 3 + 2, none⟩ = some (.string (id j)) := by rw [hd.cell]; exact (hcell' j hj1).2.2
      have s1 := hself (nm j)
      have s2 := hself (id j)
      have Hd := Lib.hid hd
      clear hcell hcell' hd
      go_wp2_with fail
      go_quiet (fail)
      go_wp2_with fail
      refine ⟨⟨j + 1, rfl, hj1, Hd.out.drewN _⟩, ?_⟩
      simp [intOf]
      omega
    case inr =>
      have ji : (ne : Int) ≤ (j : Int) := by omega
      have Hd := Lib.hid hd
      clear hd
      go_wp2_with fail
      clear c2 e2
      go_loopw [6] (fun i wr' => ∃ j : Nat, i = .int .i64 (j : Int) ∧ j ≤ np ∧ DrawsOf W wr') (fun i _ => ((np : Int) - intOf i).toNat)
      case atStart => exact ⟨0, rfl, by omega, Hd.out⟩
      case round =>
        obtain ⟨m, rfl, hj, hd⟩ := hrel
        have c4 : wr.cell? ⟨w.heap.size, 4, none⟩ = some (.slice ap np cp) := by rw [hd.cell]; exact H0.out.1.cell 4
        have e4 : wr.cell? ⟨w.heap.size + 1, 4, none⟩ = some (.slice bp np bcp) := by rw [hd.cell]; exact H0.out.2.1.cell 4
        have Hd2 := Lib.hid hd
        rcases Nat.lt_or_ge m np with hj1 | hj1
        case inl =>
          have mi : (m : Int) < np := by omega
          obtain ⟨b, off, rfl, hbw, hcell⟩ := H0.out.2.2.2.1.2 (by omega)
          obtain ⟨b', off', rfl, hbw', hcell'⟩ := H0.out.2.2.2.2.2.1.2 (by omega)
          have p0 : wr.cell? ⟨b, off + m, none⟩ = some (.string (f m)) := by rw [hd.cell]; exact hcell m hj1
          have q0 : wr.cell? ⟨b', off' + m, none⟩ = some (.string (f m)) := by rw [hd.cell]; exact hcell' m hj1
          have s1 := hself (f m)
          clear hcell hcell' hd
          go_wp2_with fail
          go_quiet (fail)
          go_wp2_with fail
          refine ⟨⟨m + 1, rfl, hj1, Hd2.out.drewN _⟩, ?_⟩
          simp [intOf]
          omega
        case inr =>
          have mi : (np : Int) ≤ (m : Int) := by omega
          clear hd
          go_wp2_with fail
          go_ret
          exact ⟨rfl, H0.out.2.2.2.2.2.2.trans ((Hd2.out.below W.heap.size).mono H0.out.2.2.2.2.2.2.size)⟩
end Go.Proofs.Ytmdchfmcghiaeaa.Obj
