/- What sha.table, sha.first and sha.words.mix compute, walked. -/
import Derived.Test.YtjkhmjklmclpoaaGreatSha1
namespace Go.Proofs.YtjkhmjklmclpoaaGreat.Sha
open Go.RowKit
theorem table_any (w : World) : Calls Tryz.prog 99 #[] w fun e w' => e = .returned (.agg (nums .u32 kTable)) ∧ Below w.heap.size w w' := by
  have hinfo : (Tryz.prog.info? 94).map (·.size) = some (nums .u32 kTable).size := by kernel_rfl
  go_enter Tryz.func99, Tryz.ntmps99
  go_wp2_with (first
    | (refine wpList_build_to rfl 94 _ rfl (nums .u32 kTable) (by kernel_rfl) ?_)
    | (refine wpList_store_row rfl 94 _ _ rfl w.heap.size (nums .u32 kTable) rfl rfl 94 _ (BlkIs.new _ _ _) hinfo (by rfl) (nums_one _ _) ?_))
  refine bodyPost_ret (results_cell_row rfl _ _ w.heap.size 94 (nums .u32 kTable) (0, 0) _ rfl (BlkIs.row (BlkIs.new _ _ _) _) Tryz.underlying94 rfl hinfo) rfl ⟨rfl, below_row ((Below.refl _ _).alloc (Nat.le_refl _) _) (Nat.le_refl _) _⟩
theorem first_any (w : World) : Calls Tryz.prog 79 #[] w fun e w' => e = .returned (.agg (nums .u32 h0)) ∧ Below w.heap.size w w' := by
  have hinfo : (Tryz.prog.info? 102).map (·.size) = some (nums .u32 h0).size := by kernel_rfl
  go_enter Tryz.func79, Tryz.ntmps79
  go_wp2_with (first
    | (refine wpList_build_to rfl 102 _ rfl (nums .u32 h0) (by kernel_rfl) ?_)
    | (refine wpList_store_row rfl 102 _ _ rfl w.heap.size (nums .u32 h0) rfl rfl 102 _ (BlkIs.new _ _ _) hinfo (by rfl) (nums_one _ _) ?_))
  refine bodyPost_ret (results_cell_row rfl _ _ w.heap.size 102 (nums .u32 h0) (0, 0) _ rfl (BlkIs.row (BlkIs.new _ _ _) _) Tryz.underlying102 rfl hinfo) rfl ⟨rfl, below_row ((Below.refl _ _).alloc (Nat.le_refl _) _) (Nat.le_refl _) _⟩
theorem quiet_left {P : Program} {f : FuncId} {args : Array Value} {w : World} {n : Nat} {v : Value}
    (h : Calls P f args (w.drewN n) fun e w' => e = .returned v ∧ w.drewN n = w') : Calls P f args (w.drewN n) fun e w'' => e = .returned v ∧ ∃ m, w'' = w.drewN m :=
  h.mono fun _ _ ⟨he, hm⟩ => ⟨he, n, hm.symm⟩
set_option maxHeartbeats 1000000 in
set_option maxRecDepth 100000 in
theorem mix_any (s : St) (b off cap : Nat) (w : World) (bs : List Int) (hs : s.isW) (hl : bs.length = 64) (hcap : 64 ≤ cap) (hcap2 : cap ≤ 9223372036854775807)
   (hb : b < w.heap.size) (hbs : ∀ x ∈ bs, isB x) (hc : ∀ j, j < 64 → w.cell? ⟨b, off + j, none⟩ = some (.int .u8 (bs.getD j 0))) :
    Calls Tryz.prog 80 #[.agg (nums .u32 s.cells), .slice (some ⟨b, off, none⟩) 64 cap] w fun e w' => e = .returned (.agg (nums .u32 (mix s bs).cells)) ∧ Below w.heap.size w w' := by
  obtain ⟨s1, s2, s3, s4, s5, s6, s7, s8⟩ := s
  have Hs := Lib.hid hs; clear hs
  have Hc := Lib.hid hc
  clear hc
  have Hl := Lib.hid hl
  clear hl
  have Hbs := Lib.hid hbs
  clear hbs
  show Calls Tryz.prog 80 #[.agg #[.int .u32 s1, .int .u32 s2, .int .u32 s3, .int .u32 s4, .int .u32 s5, .int .u32 s6, .int .u32 s7, .int .u32 s8], .slice (some ⟨b, off, none⟩) 64 cap] w _
  go_enter Tryz.func80, Tryz.ntmps80
  have hinfo : (Tryz.prog.info? 94).map (·.size) = some (nums .u32 kTable).size := by kernel_rfl
  go_wp2_with (first
    | (go_at_call 99; refine (table_any _).mono ?_; rintro e w1 ⟨rfl, hb1⟩)
    | (refine wpList_store_row_to rfl 94 _ _ rfl w1.heap.size (nums .u32 kTable) rfl rfl 94 _ (BlkIs.new _ _ _) hinfo (by rfl) (nums_one _ _) ?_
       intro w2 hk2 hg2
       have hbox : BlkIs w2 w.heap.size 102 #[.int .u32 s1, .int .u32 s2, .int .u32 s3, .int .u32 s4, .int .u32 s5, .int .u32 s6, .int .u32 s7, .int .u32 s8] := ((((BlkIs.new _ _ _).alloc _).below hb1 (by simp only [World.size_alloc]; omega)).alloc _).grown hg2 (by have := hb1.size; simp at this; intro e; injection e; omega)))
  have hz := hb1.size
  simp only [World.size_alloc] at hz
  have hbe2 : Below w.heap.size w w2 := ((((Below.refl _ _).alloc (Nat.le_refl _) _).alloc (by simp) _).trans (hb1.mono (by simp only [World.size_alloc]; omega))).trans (((Below.refl _ _).alloc (by omega) _).trans (grown_below hg2 (by omega) (by simp only [World.size_alloc]; omega)))
  have hz2 := hg2.size
  simp only [World.size_alloc] at hz2
  have hres : BlkIs w2 (w.heap.size + 1) 102 (nums .u32 [0, 0, 0, 0, 0, 0, 0, 0]) := by
    refine BlkIs.grown (BlkIs.alloc (BlkIs.below (B := w.heap.size + 2) ?_ (hb1.mono (by simp only [World.size_alloc]; omega)) (by omega)) _) hg2 (by intro e; injection e; omega)
    exact BlkIs.new2 w _ _ _
  clear hg2 hb1
  have d0 := hbox.cell 0
  have d1 := hbox.cell 1
  have d2 := hbox.cell 2
  have d3 := hbox.cell 3
  have d4 := hbox.cell 4
  have d5 := hbox.cell 5
  have d6 := hbox.cell 6
  have d7 := hbox.cell 7
  simp at d0 d1 d2 d3 d4 d5 d6 d7
  have H := Lib.hid (And.intro hbox (And.intro hk2 (And.intro hbe2 hres)))
  clear hbox hk2 hbe2 hres
  go_quiet (fail)
  have hc2 : ∀ j, j < 64 → (w2.drewN nq).cell? ⟨b, off + j, none⟩ = some (.int .u8 (bs.getD j 0)) := fun j hj => by
    rw [World.cell?_drewN, H.out.2.2.1.cell hb]; exact Hc.out j hj
  have Hc2 := Lib.hid hc2; clear hc2
  have hbw : b < w2.heap.size := by omega
  go_wp2_with (go_at_call 100; refine (spread_any b off cap (w2.drewN nq) bs Hl.out hcap hcap2 hbw Hbs.out Hc2.out).mono ?_; rintro e w3 ⟨rfl, hb3⟩)
  have hk3 : BlkIs w3 w1.heap.size 94 (nums .u32 kTable) := (H.out.2.1.drewN nq).below hb3 H.out.2.1.lt
  have hbox3 := (H.out.1.drewN nq).below hb3 H.out.1.lt
  have hres3 := (H.out.2.2.2.drewN nq).below hb3 H.out.2.2.2.lt
  have hbe3 : Below w.heap.size w w3 := (below_drewN H.out.2.2.1 nq).trans (hb3.mono (by have := H.out.2.2.1.size; simpa using this))
  have H3 := Lib.hid (And.intro hk3 (And.intro hbox3 (And.intro hres3 hbe3)))
  clear hk3 hbox3 hres3 hbe3 hb3 H Hc2 Hc hz2 hz hbw d0 d1 d2 d3 d4 d5 d6 d7
  obtain ⟨ws, hws⟩ : ∃ ws, ws = words bs := ⟨_, rfl⟩
  have hwl : ws.length = 64 := by rw [hws, words_length]
  rw [← hws]
  have Hws := Lib.hid (And.intro hws hwl); clear hws hwl
  obtain ⟨i0, hi0, hz0, hz1, hz2⟩ := info_parts (show (Tryz.prog.info? 92).map (fun i => (i.zero, i.size, i.bytes)) = some (some (.int .u32 0), 1, 4) by kernel_rfl)
  have Hi0 := Lib.hid (And.intro hi0 hz1); clear hi0 hz0 hz1 hz2
  clear hinfo
  go_loopw [6, 7, 8, 9, 10, 11, 12, 13, 37] (fun a b c d e f g h i wr => ∃ (t : Nat) (z : St), t ≤ 64 ∧ i = .int .i64 t ∧ z = rounds ws t ⟨s1, s2, s3, s4, s5, s6, s7, s8⟩ ∧ z.isW ∧ DrawsOf w3 wr ∧
      a = .int .u32 z.a ∧ b = .int .u32 z.b ∧ c = .int .u32 z.c ∧ d = .int .u32 z.d ∧ e = .int .u32 z.e ∧ f = .int .u32 z.f ∧ g = .int .u32 z.g ∧ h = .int .u32 z.h) (fun _ _ _ _ _ _ _ _ i _ => 64 - (intOf i).toNat)
  case atStart => exact ⟨0, _, by omega, rfl, rfl, Hs.out, DrawsOf.refl _, rfl, rfl, rfl, rfl, rfl, rfl, rfl, rfl⟩
  case round =>
    obtain ⟨t, z, ht, rfl, hz, hzw, hdr, rfl, rfl, rfl, rfl, rfl, rfl, rfl, rfl⟩ := hrel
    obtain ⟨z1, z2, z3, z4, z5, z6, z7, z8⟩ := z
    have Hz := Lib.hid hz; clear hz
    have Hzw := Lib.hid hzw; clear hzw
    by_cases hlt : t < 64
    · have h1 : (t : Int) < 64 := by omega
      obtain ⟨wt, hwt⟩ : ∃ wt, wt = ws.getD t 0 := ⟨_, rfl⟩
      obtain ⟨kt, hkt⟩ : ∃ kt, kt = kTable.getD t 0 := ⟨_, rfl⟩
      have hidx := run_index_row (P := Tryz.prog) Tryz.underlying94 Hi0.out.1 Hi0.out.2 Tryz.underlying92 rfl (nums .u32 ws) .i64 t hlt (.int .u32 wt) (by rw [hwt]; exact nums_get _ _ _ (by rw [Hws.out.2]; exact hlt))
      have hkc : wr.cell? ⟨w1.heap.size, t, none⟩ = some (.int .u32 kt) := by
        rw [hdr.cell, H3.out.1.cell, hkt]; exact nums_get _ _ _ hlt
      have He : isW z5 := Hzw.out.2.2.2.2.1
      have Ha : isW z1 := Hzw.out.1
      have He0 := He.1
      have He1 := He.2
      have Hwt := Lib.hid (And.intro hwt hkt); clear hwt hkt
      have Hdr := Lib.hid hdr; clear hdr
      go_wp2
      go_quiet ((go_at_call 101; exact quiet_left (turned_any _ _ _ _ _ He (by omega) (by omega) (by omega) (by omega) (by omega) (by omega))))
      go_wp2_with (go_at_call 101; refine (turned_any _ _ _ _ _ Ha (by omega) (by omega) (by omega) (by omega) (by omega) (by omega)).mono ?_; rintro e w' ⟨rfl, rfl⟩)
      go_roundw
      case rel =>
        refine ⟨t + 1, round ⟨z1, z2, z3, z4, z5, z6, z7, z8⟩ kt wt, by omega, by go_num, ?_, ?_, Hdr.out.drewN _, ?_, rfl, rfl, rfl, ?_, rfl, rfl, rfl⟩
        · rw [Hwt.out.1, Hwt.out.2, Hz.out]; rfl
        · obtain ⟨q1, q2, q3, q4, q5, q6, q7, q8⟩ := Hzw.out
          refine ⟨?_, q1, q2, q3, ?_, q5, q6, q7⟩ <;> (unfold Sha.isW; simp only [round]; omega)
        · rfl
        · rfl
      case measure => simp [intOf]; omega
    · have ht64 : t = 64 := by omega
      have h1 : ¬ (t : Int) < 64 := by omega
      have hbox := Hid.out H3
      have d0 := (hdr.cell ⟨w.heap.size, 0, none⟩).trans (H3.out.2.1.cell 0)
      have d1 := (hdr.cell ⟨w.heap.size, 1, none⟩).trans (H3.out.2.1.cell 1)
      have d2 := (hdr.cell ⟨w.heap.size, 2, none⟩).trans (H3.out.2.1.cell 2)
      have d3 := (hdr.cell ⟨w.heap.size, 3, none⟩).trans (H3.out.2.1.cell 3)
      have d4 := (hdr.cell ⟨w.heap.size, 4, none⟩).trans (H3.out.2.1.cell 4)
      have d5 := (hdr.cell ⟨w.heap.size, 5, none⟩).trans (H3.out.2.1.cell 5)
      have d6 := (hdr.cell ⟨w.heap.size, 6, none⟩).trans (H3.out.2.1.cell 6)
      have d7 := (hdr.cell ⟨w.heap.size, 7, none⟩).trans (H3.out.2.1.cell 7)
      simp at d0 d1 d2 d3 d4 d5 d6 d7
      have hres := hdr.blk H3.out.2.2.1
      have hbe := H3.out.2.2.2.trans (hdr.below w.heap.size)
      have Hr := Lib.hid (And.intro hres hbe)
      have Ht := Lib.hid ht64
      clear hres hbe hdr ht64
      obtain ⟨fin, hfin⟩ : ∃ fin : List Int, fin = [(s1 + z1) % 4294967296, (s2 + z2) % 4294967296, (s3 + z3) % 4294967296, (s4 + z4) % 4294967296, (s5 + z5) % 4294967296, (s6 + z6) % 4294967296, (s7 + z7) % 4294967296, (s8 + z8) % 4294967296] := ⟨_, rfl⟩
      have hsz : fin.length = 8 := by rw [hfin]; rfl
      have hinfo2 : (Tryz.prog.info? 102).map (·.size) = some (nums .u32 fin).size := by rw [nums_size, hsz]; kernel_rfl
      have Hfin := Lib.hid hfin
      have Hsz := Lib.hid hsz
      clear hsz hfin
      go_wp2_with (refine wpList_store_row_to rfl 102 _ _ rfl (w.heap.size + 1) (nums .u32 fin) rfl (by rw [Hfin.out]; rfl) 102 _ Hr.out.1 hinfo2 (by rw [nums_size, nums_size, Hsz.out]; rfl) (nums_one _ _) ?_; intro w4 hb4 hg4)
      refine bodyPost_ret (results_cell_row rfl _ _ (w.heap.size + 1) 102 (nums .u32 fin) (0, 0) _ rfl hb4 Tryz.underlying102 rfl hinfo2) rfl ⟨?_, Hr.out.2.trans (grown_below hg4 (by omega) Hr.out.2.size)⟩
      rw [Hfin.out]
      have e := Hz.out
      rw [Ht.out, Hws.out.1] at e
      unfold mix
      rw [← e]
      rfl
end Go.Proofs.YtjkhmjklmclpoaaGreat.Sha
