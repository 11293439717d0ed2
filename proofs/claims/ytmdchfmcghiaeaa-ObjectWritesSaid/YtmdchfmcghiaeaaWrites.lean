/- The law ObjectWrites answers true: the program's bytes, goodness and links are the reference's. No conditions but the form's reach. -/
import Derived.Test.YtmdchfmcghiaeaaRefEncC
import Derived.Test.YtmdchfmcghiaeaaLinkLaw
import Derived.Test.YtmdchfmcghiaeaaGreat
import Derived.Test.YtmdchfmcghiaeaaHeight
import Derived.Test.YtmdchfmcghiaeaaOne
namespace Go.Proofs.Ytmdchfmcghiaeaa.Obj
set_option linter.unusedVariables false
open Go.RowKit
set_option maxRecDepth 100000 in
set_option maxHeartbeats 1000000 in
/-- The law's same, of two slices with the same links. -/
theorem same_links (l : List Lk) (u v : Value) (w : World) (hu : LinksOut w u l) (hv : LinksOut w v l) :
    Calls Try.prog 33 #[u, v] w fun e w' => e = .returned (.bool true) ∧ Below w.heap.size w w' := by
  have hself : ∀ S : ByteArray, (S.toList == S.toList) = true := fun S => by simp
  obtain ⟨ao, cap, rfl, hA⟩ := hu
  obtain ⟨bo, bcap, rfl, hB⟩ := hv
  have hN := hA.1
  obtain ⟨f, hf⟩ : ∃ f : Nat → Lk, f = fun i => l[i]! := ⟨_, rfl⟩
  rw [← hf] at hA hB
  generalize l.length = N at *
  have HA := Lib.hid hA
  have HB := Lib.hid hB
  clear hA hB hf
  go_enter Try.func33, Try.ntmps33
  go_wp2_with fail
  go_loopw [5] (fun i wr => ∃ j : Nat, i = .int .i64 (j : Int) ∧ j ≤ N ∧ DrawsOf w wr) (fun i _ => ((N : Int) - intOf i).toNat)
  case atStart => exact ⟨0, rfl, by omega, DrawsOf.refl _⟩
  case round =>
    obtain ⟨j, rfl, hj, hd⟩ := hrel
    rcases Nat.lt_or_ge j N with hj1 | hj1
    case inl =>
      have ji : (j : Int) < N := by omega
      obtain ⟨b, off, rfl, hbw, hcell⟩ := HA.out.2 (by omega)
      obtain ⟨b', off', rfl, hbw', hcell'⟩ := HB.out.2 (by omega)
      have p0 : wr.cell? ⟨b, off + j * 2, none⟩ = some (.int .i64 (f j).1) := by rw [hd.cell]; exact (hcell j hj1).1
      have p1 : wr.cell? ⟨b, off + j * 2 + 1, none⟩ = some (.string (f j).2) := by rw [hd.cell]; exact (hcell j hj1).2
      have q0 : wr.cell? ⟨b', off' + j * 2, none⟩ = some (.int .i64 (f j).1) := by rw [hd.cell]; exact (hcell' j hj1).1
      have q1 : wr.cell? ⟨b', off' + j * 2 + 1, none⟩ = some (.string (f j).2) := by rw [hd.cell]; exact (hcell' j hj1).2
      have z := hself (f j).2
      have Hd := Lib.hid hd
      clear hcell hcell' hd
      go_wp2_with fail
      go_quiet (fail)
      go_wp2_with fail
      refine ⟨⟨j + 1, rfl, hj1, Hd.out.drewN _⟩, ?_⟩
      simp [intOf]
      omega
    case inr =>
      have ji : (N : Int) ≤ (j : Int) := by omega
      have Hd := Lib.hid hd
      clear hd
      go_wp2_with fail
      go_ret
      exact ⟨rfl, Hd.out.below w.heap.size⟩
/-- The object's block at hand. -/
structure At (w w' : World) (o : Plain) (es ps : Value) : Prop where
  one : One w' w.heap.size o es ps
  b : Below w.heap.size w w'
theorem below_drew (w : World) : Below w.heap.size w w.drew := (Below.refl w.heap.size w).drew
theorem At.later {w w' w'' : World} {o : Plain} {es ps : Value} (h : At w w' o es ps) (hb : Below w'.heap.size w' w'') : At w w'' o es ps := ⟨h.one.later hb, h.b.trans (hb.mono h.b.size)⟩
theorem At.drew {w w' : World} {o : Plain} {es ps : Value} (h : At w w' o es ps) : At w w'.drew o es ps := h.later (below_drew w')
set_option maxRecDepth 100000 in
set_option maxHeartbeats 2000000 in
theorem writes_law (o : Plain) (es ps : Value) (w : World) (he : EntsV w es o) (hp : StrsC w ps o) :
    Calls Try.prog 11 #[obj o.k o.d es o.t ps o.h o.n] w fun e w' => e = .returned (.bool true) ∧ Below w.heap.size w w' := by
  have A := Lib.hid awake
  have G := Lib.hid (fun w' (h : At w w' o es ps) => great_any o es ps w' h.one.ents h.one.strs)
  have E := fun (hn : o.ne ≤ 1000000) w' (h : At w w' o es ps) => encode_any o es ps w' h.one.ents h.one.strs hn
  have E' := fun w' (h : At w w' o es ps) => renc_any o es ps w' h.one.ents h.one.strs.strs
  have O := fun (hn : o.ne ≤ 1000000) w' (h : At w w' o es ps) => good_any o es ps w' h.one.ents h.one.strs.strs hn
  have O' := fun w' (h : At w w' o es ps) => rgood_any o es ps w' h.one.ents h.one.strs.strs
  have L := fun (hn : o.ne ≤ 1000000) w' (h : At w w' o es ps) => links_any o es ps w' h.one.ents h.one.strs.strs hn
  have L' := fun w' (h : At w w' o es ps) => rlinks_any o es ps w' h.one.ents h.one.strs.strs
  simp only [linksL_eq] at L
  obtain ⟨ls, hls⟩ : ∃ l, l = rlinksL o := ⟨_, rfl⟩
  obtain ⟨S, hS⟩ : ∃ S, S = enc o := ⟨_, rfl⟩
  obtain ⟨q, hq⟩ : ∃ q : Int, q = (if o.good then 0 else 1) := ⟨_, rfl⟩
  obtain ⟨g, hg⟩ : ∃ g, g = o.good := ⟨_, rfl⟩
  rw [← hS, ← hq] at E'
  simp only [← hS, ← hq] at E
  simp only [← hg] at O
  rw [← hg] at O'
  simp only [← hls] at L
  rw [← hls] at L'
  have SM := Lib.hid (same_links ls)
  have T0 := Lib.hid (At.mk (One.new he hp) ((Below.refl w.heap.size w).alloc (Nat.le_refl _) (.cells (objCells o es ps) 34)))
  have hse : (S.toList == S.toList) = true := by simp
  have hqe : (q == q) = true := by simp
  have hge : (g == g) = true := by simp
  clear hS hq hg hls he hp
  obtain ⟨ao, cap, rfl⟩ : ∃ ao cap, es = .slice ao o.ne cap := by
    obtain ⟨ao, cap, h, _⟩ := T0.out.one.ents
    exact ⟨ao, cap, h⟩
  obtain ⟨ap, cp, rfl⟩ : ∃ ap cp, ps = .slice ap o.np cp := by
    obtain ⟨ap, cp, h, _⟩ := T0.out.one.strs
    exact ⟨ap, cp, h⟩
  have HE := Lib.hid E
  have HE' := Lib.hid E'
  have HO := Lib.hid O
  have HO' := Lib.hid O'
  have HL := Lib.hid L
  have HL' := Lib.hid L'
  clear E E' O O' L L'
  unfold obj at G HE HE' HO HO' HL HL' ⊢
  go_enter Try.func11, Try.ntmps11
  go_wp2_with fail
  refine (A.out _).mono ?_
  rintro e w1 ⟨rfl, hb1⟩
  have T1 := Lib.hid (T0.out.later hb1)
  clear T0 hb1 A
  have c0 : w1.cell? ⟨w.heap.size, 0, none⟩ = some (.int .i64 o.k) := T1.out.one.blk.cell 0
  have c1 : w1.cell? ⟨w.heap.size, 1, none⟩ = some (.string o.d) := T1.out.one.blk.cell 1
  have c2 : w1.cell? ⟨w.heap.size, 2, none⟩ = some (.slice ao o.ne cap) := T1.out.one.blk.cell 2
  have c3 : w1.cell? ⟨w.heap.size, 3, none⟩ = some (.string o.t) := T1.out.one.blk.cell 3
  have c4 : w1.cell? ⟨w.heap.size, 4, none⟩ = some (.slice ap o.np cp) := T1.out.one.blk.cell 4
  have c5 : w1.cell? ⟨w.heap.size, 5, none⟩ = some (.int .i64 o.h) := T1.out.one.blk.cell 5
  have c6 : w1.cell? ⟨w.heap.size, 6, none⟩ = some (.string o.n) := T1.out.one.blk.cell 6
  go_wp2_with fail
  refine (G.out _ T1.out).mono ?_
  rintro e w2 ⟨⟨gr, rfl, hgr⟩, hb2⟩
  have T2 := Lib.hid (T1.out.later hb2)
  clear T1 hb2 G c0 c1 c2 c3 c4 c5 c6
  cases gr
  case true =>
    clear hgr
    go_wp2_with fail
    go_ret
    exact ⟨rfl, T2.out.b⟩
  have hn := Lib.hid (show o.ne ≤ 1000000 by have := (hgr rfl).1; omega)
  clear hgr
  have c0 : w2.cell? ⟨w.heap.size, 0, none⟩ = some (.int .i64 o.k) := T2.out.one.blk.cell 0
  have c1 : w2.cell? ⟨w.heap.size, 1, none⟩ = some (.string o.d) := T2.out.one.blk.cell 1
  have c2 : w2.cell? ⟨w.heap.size, 2, none⟩ = some (.slice ao o.ne cap) := T2.out.one.blk.cell 2
  have c3 : w2.cell? ⟨w.heap.size, 3, none⟩ = some (.string o.t) := T2.out.one.blk.cell 3
  have c4 : w2.cell? ⟨w.heap.size, 4, none⟩ = some (.slice ap o.np cp) := T2.out.one.blk.cell 4
  have c5 : w2.cell? ⟨w.heap.size, 5, none⟩ = some (.int .i64 o.h) := T2.out.one.blk.cell 5
  have c6 : w2.cell? ⟨w.heap.size, 6, none⟩ = some (.string o.n) := T2.out.one.blk.cell 6
  go_wp2_with fail
  refine (HE.out hn.out _ T2.out).mono ?_
  rintro e w3 ⟨rfl, hb3⟩
  have T3 := Lib.hid (T2.out.later hb3)
  clear T2 hb3 HE c0 c1 c2 c3 c4 c5 c6
  have c0 : w3.cell? ⟨w.heap.size, 0, none⟩ = some (.int .i64 o.k) := T3.out.one.blk.cell 0
  have c1 : w3.cell? ⟨w.heap.size, 1, none⟩ = some (.string o.d) := T3.out.one.blk.cell 1
  have c2 : w3.cell? ⟨w.heap.size, 2, none⟩ = some (.slice ao o.ne cap) := T3.out.one.blk.cell 2
  have c3 : w3.cell? ⟨w.heap.size, 3, none⟩ = some (.string o.t) := T3.out.one.blk.cell 3
  have c4 : w3.cell? ⟨w.heap.size, 4, none⟩ = some (.slice ap o.np cp) := T3.out.one.blk.cell 4
  have c5 : w3.cell? ⟨w.heap.size, 5, none⟩ = some (.int .i64 o.h) := T3.out.one.blk.cell 5
  have c6 : w3.cell? ⟨w.heap.size, 6, none⟩ = some (.string o.n) := T3.out.one.blk.cell 6
  go_wp2_with fail
  refine (HE'.out _ T3.out).mono ?_
  rintro e w4 ⟨rfl, hb4⟩
  have T4 := Lib.hid (T3.out.later hb4)
  clear T3 hb4 HE' c0 c1 c2 c3 c4 c5 c6
  have c0 : w4.cell? ⟨w.heap.size, 0, none⟩ = some (.int .i64 o.k) := T4.out.one.blk.cell 0
  have c1 : w4.cell? ⟨w.heap.size, 1, none⟩ = some (.string o.d) := T4.out.one.blk.cell 1
  have c2 : w4.cell? ⟨w.heap.size, 2, none⟩ = some (.slice ao o.ne cap) := T4.out.one.blk.cell 2
  have c3 : w4.cell? ⟨w.heap.size, 3, none⟩ = some (.string o.t) := T4.out.one.blk.cell 3
  have c4 : w4.cell? ⟨w.heap.size, 4, none⟩ = some (.slice ap o.np cp) := T4.out.one.blk.cell 4
  have c5 : w4.cell? ⟨w.heap.size, 5, none⟩ = some (.int .i64 o.h) := T4.out.one.blk.cell 5
  have c6 : w4.cell? ⟨w.heap.size, 6, none⟩ = some (.string o.n) := T4.out.one.blk.cell 6
  go_upto_region 7 with (fail)
  go_region_held3 (fun w' => w'.cell? ⟨w.heap.size, 0, none⟩ = some (.int .i64 o.k) ∧ w'.cell? ⟨w.heap.size, 1, none⟩ = some (.string o.d) ∧ w'.cell? ⟨w.heap.size, 2, none⟩ = some (.slice ao o.ne cap) ∧ w'.cell? ⟨w.heap.size, 3, none⟩ = some (.string o.t) ∧ w'.cell? ⟨w.heap.size, 4, none⟩ = some (.slice ap o.np cp) ∧ w'.cell? ⟨w.heap.size, 5, none⟩ = some (.int .i64 o.h) ∧ w'.cell? ⟨w.heap.size, 6, none⟩ = some (.string o.n))
    (first | exact ⟨q0, q1, q2, q3, q4, q5, q6⟩ | go_keep)
    (first
      | (go_at_call 29
         refine (HO.out hn.out _ (by first | exact T4.out | exact T4.out.drew | exact T4.out.drew.drew)).mono ?_
         rintro e w5 ⟨rfl, hb⟩
         have T50 : At w w5 o (.slice ao o.ne cap) (.slice ap o.np cp) := by first | exact T4.out.later hb | exact T4.out.drew.later hb | exact T4.out.drew.drew.later hb
         have q0 : w5.cell? ⟨w.heap.size, 0, none⟩ = some (.int .i64 o.k) := T50.one.blk.cell 0
         have q1 : w5.cell? ⟨w.heap.size, 1, none⟩ = some (.string o.d) := T50.one.blk.cell 1
         have q2 : w5.cell? ⟨w.heap.size, 2, none⟩ = some (.slice ao o.ne cap) := T50.one.blk.cell 2
         have q3 : w5.cell? ⟨w.heap.size, 3, none⟩ = some (.string o.t) := T50.one.blk.cell 3
         have q4 : w5.cell? ⟨w.heap.size, 4, none⟩ = some (.slice ap o.np cp) := T50.one.blk.cell 4
         have q5 : w5.cell? ⟨w.heap.size, 5, none⟩ = some (.int .i64 o.h) := T50.one.blk.cell 5
         have q6 : w5.cell? ⟨w.heap.size, 6, none⟩ = some (.string o.n) := T50.one.blk.cell 6
         have T5 := Lib.hid T50
         clear hb T50)
      | (go_at_call 32
         refine (HO'.out _ (by first | exact T5.out | exact T5.out.drew | exact T5.out.drew.drew)).mono ?_
         rintro e w6 ⟨rfl, hb⟩
         have T60 : At w w6 o (.slice ao o.ne cap) (.slice ap o.np cp) := by first | exact T5.out.later hb | exact T5.out.drew.later hb | exact T5.out.drew.drew.later hb
         have q0 : w6.cell? ⟨w.heap.size, 0, none⟩ = some (.int .i64 o.k) := T60.one.blk.cell 0
         have q1 : w6.cell? ⟨w.heap.size, 1, none⟩ = some (.string o.d) := T60.one.blk.cell 1
         have q2 : w6.cell? ⟨w.heap.size, 2, none⟩ = some (.slice ao o.ne cap) := T60.one.blk.cell 2
         have q3 : w6.cell? ⟨w.heap.size, 3, none⟩ = some (.string o.t) := T60.one.blk.cell 3
         have q4 : w6.cell? ⟨w.heap.size, 4, none⟩ = some (.slice ap o.np cp) := T60.one.blk.cell 4
         have q5 : w6.cell? ⟨w.heap.size, 5, none⟩ = some (.int .i64 o.h) := T60.one.blk.cell 5
         have q6 : w6.cell? ⟨w.heap.size, 6, none⟩ = some (.string o.n) := T60.one.blk.cell 6
         have T6 := Lib.hid T60
         clear hb T60)
      | (go_at_call 34
         refine (HL.out hn.out _ (by first | exact T6.out | exact T6.out.drew | exact T6.out.drew.drew)).mono ?_
         rintro e w7 ⟨⟨u, rfl, hu⟩, hb⟩
         have T70 : At w w7 o (.slice ao o.ne cap) (.slice ap o.np cp) := by first | exact T6.out.later hb | exact T6.out.drew.later hb | exact T6.out.drew.drew.later hb
         have q0 : w7.cell? ⟨w.heap.size, 0, none⟩ = some (.int .i64 o.k) := T70.one.blk.cell 0
         have q1 : w7.cell? ⟨w.heap.size, 1, none⟩ = some (.string o.d) := T70.one.blk.cell 1
         have q2 : w7.cell? ⟨w.heap.size, 2, none⟩ = some (.slice ao o.ne cap) := T70.one.blk.cell 2
         have q3 : w7.cell? ⟨w.heap.size, 3, none⟩ = some (.string o.t) := T70.one.blk.cell 3
         have q4 : w7.cell? ⟨w.heap.size, 4, none⟩ = some (.slice ap o.np cp) := T70.one.blk.cell 4
         have q5 : w7.cell? ⟨w.heap.size, 5, none⟩ = some (.int .i64 o.h) := T70.one.blk.cell 5
         have q6 : w7.cell? ⟨w.heap.size, 6, none⟩ = some (.string o.n) := T70.one.blk.cell 6
         have HU := Lib.hid hu
         clear hu
         have T7 := Lib.hid T70
         clear hb T70)
      | (go_at_call 35
         refine (HL'.out _ (by first | exact T7.out | exact T7.out.drew | exact T7.out.drew.drew)).mono ?_
         rintro e w8 ⟨⟨v, rfl, hv⟩, hb⟩
         have T80 : At w w8 o (.slice ao o.ne cap) (.slice ap o.np cp) := by first | exact T7.out.later hb | exact T7.out.drew.later hb | exact T7.out.drew.drew.later hb
         have q0 : w8.cell? ⟨w.heap.size, 0, none⟩ = some (.int .i64 o.k) := T80.one.blk.cell 0
         have q1 : w8.cell? ⟨w.heap.size, 1, none⟩ = some (.string o.d) := T80.one.blk.cell 1
         have q2 : w8.cell? ⟨w.heap.size, 2, none⟩ = some (.slice ao o.ne cap) := T80.one.blk.cell 2
         have q3 : w8.cell? ⟨w.heap.size, 3, none⟩ = some (.string o.t) := T80.one.blk.cell 3
         have q4 : w8.cell? ⟨w.heap.size, 4, none⟩ = some (.slice ap o.np cp) := T80.one.blk.cell 4
         have q5 : w8.cell? ⟨w.heap.size, 5, none⟩ = some (.int .i64 o.h) := T80.one.blk.cell 5
         have q6 : w8.cell? ⟨w.heap.size, 6, none⟩ = some (.string o.n) := T80.one.blk.cell 6
         have HU2 : LinksOut w8 u ls := by first | exact HU.out.later hb | exact (HU.out.later (below_drew _)).later hb
         have HU2 := Lib.hid HU2
         have HV := Lib.hid hv
         clear hv
         have T8 := Lib.hid T80
         clear hb T80)
      | (go_at_call 33
         refine (SM.out _ _ _ (by first | exact HU2.out | exact HU2.out.later (below_drew _)) (by first | exact HV.out | exact HV.out.later (below_drew _))).mono ?_
         rintro e w9 ⟨rfl, hb⟩
         have T90 : At w w9 o (.slice ao o.ne cap) (.slice ap o.np cp) := by first | exact T8.out.later hb | exact T8.out.drew.later hb | exact T8.out.drew.drew.later hb
         have q0 : w9.cell? ⟨w.heap.size, 0, none⟩ = some (.int .i64 o.k) := T90.one.blk.cell 0
         have q1 : w9.cell? ⟨w.heap.size, 1, none⟩ = some (.string o.d) := T90.one.blk.cell 1
         have q2 : w9.cell? ⟨w.heap.size, 2, none⟩ = some (.slice ao o.ne cap) := T90.one.blk.cell 2
         have q3 : w9.cell? ⟨w.heap.size, 3, none⟩ = some (.string o.t) := T90.one.blk.cell 3
         have q4 : w9.cell? ⟨w.heap.size, 4, none⟩ = some (.slice ap o.np cp) := T90.one.blk.cell 4
         have q5 : w9.cell? ⟨w.heap.size, 5, none⟩ = some (.int .i64 o.h) := T90.one.blk.cell 5
         have q6 : w9.cell? ⟨w.heap.size, 6, none⟩ = some (.string o.n) := T90.one.blk.cell 6
         have T9 := Lib.hid T90
         clear hb T90)
      )
  go_wp2_with fail
  go_ret
  exact ⟨rfl, T9.out.b⟩
end Go.Proofs.Ytmdchfmcghiaeaa.Obj
