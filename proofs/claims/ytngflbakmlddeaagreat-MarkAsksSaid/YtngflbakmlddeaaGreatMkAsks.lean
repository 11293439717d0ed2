/- The law MarkAsks, walked: refs, next numbers, what lives and what must be kept are what the document says. (Layer 12.) -/
import Derived.Test.YtngflbakmlddeaaGreatMkLaw
import Derived.Test.YtngflbakmlddeaaGreatMk27
import Derived.Test.YtngflbakmlddeaaGreatMk31
import Derived.Test.YtngflbakmlddeaaGreatMk32
import Derived.Test.YtngflbakmlddeaaGreatMk34
import Derived.Test.YtngflbakmlddeaaGreatMk35
import Derived.Deep.RegionHeld
namespace Go.Proofs.YtngflbakmlddeaaGreat.Mk
set_option linter.unusedVariables false
open Go.RowKit Set
theorem strAt_of {w : World} {base : Nat} {v : Value} {l : List ByteArray} (h : SlIs w base 9 1 v l.length (scells l)) : StrAt w v l := StrAt.of_sl h
set_option maxRecDepth 100000 in
set_option maxHeartbeats 8000000 in
theorem asks_any (m : MkR) (name : ByteArray) (node nodes : Int) (w : World) (h : m.Reads w) : Calls Tryz.prog 9 #[aMk m, .string name, .agg #[.int .i64 node, .int .i64 nodes]] w fun e w' => e = .returned (.bool true) ∧ Below w.heap.size w w' := by
  have GRm := fun (X : World) (hX : m.Reads X) => great_any m X hX
  have RFm := fun (hs : m.Small) (X : World) (hX : m.Reads X) => And.intro (ref_any m name X hX hs.1) (rref_any m name X hX hs.1)
  have NXm := fun (hs : m.Small) (X : World) (hX : m.Reads X) => And.intro (next_any m node X hX hs) (rnext_any m node X hX hs)
  have LVm := fun (hs : m.Small) (X : World) (hX : m.Reads X) => And.intro (live_any m nodes X hX hs) (rlive_any m nodes X hX hs)
  have RTm := fun (hs : m.Small) (hl : m.refs.length + m.toks.length ≤ 900000) (X : World) (hX : m.Reads X) => And.intro (roots_any m nodes X hX hs hl) (rroots_any m nodes X hX hs hl)
  have LLm : (liveL m.mk_ nodes).length ≤ m.toks.length := List.length_filter_le _ _
  have RLm : (rootIds m.mk_ nodes).length ≤ m.refs.length + m.toks.length := by
    unfold rootIds
    rw [List.length_append, List.length_map, List.length_map]
    show m.refs.length + _ ≤ _
    omega
  obtain ⟨RF, hRF⟩ : ∃ RF, RF = refOut m.refs name := ⟨_, rfl⟩
  rw [← hRF] at RFm
  obtain ⟨NX, hNX⟩ : ∃ NX, NX = nextL m.mk_ node := ⟨_, rfl⟩
  rw [← hNX] at NXm
  obtain ⟨LV, hLV⟩ : ∃ LV, LV = liveL m.mk_ nodes := ⟨_, rfl⟩
  rw [← hLV] at LVm LLm
  obtain ⟨RT, hRT⟩ : ∃ RT, RT = rootIds m.mk_ nodes := ⟨_, rfl⟩
  rw [← hRT] at RTm RLm
  clear hRF hNX hLV hRT
  obtain ⟨⟨r0, r1, r2⟩, rb⟩ := RF
  obtain ⟨refs, toks, zs, rv, kv, bv⟩ := m
  obtain ⟨o1, f1, hr1, -, hx1⟩ := h.1.form
  obtain ⟨o2, f2, hr2, -, hx2⟩ := h.2.1.form
  obtain ⟨o3, f3, hr3, -, hx3⟩ := h.2.2.1.form
  obtain ⟨n1, hn1⟩ : ∃ k, k = refs.length := ⟨_, rfl⟩
  obtain ⟨n2, hn2⟩ : ∃ k, k = toks.length := ⟨_, rfl⟩
  obtain ⟨n3, hn3⟩ : ∃ k, k = zs.length := ⟨_, rfl⟩
  dsimp only at hr1 hr2 hr3 LLm RLm RTm
  rw [← hn1] at hr1
  rw [← hn2] at hr2
  rw [← hn3] at hr3
  subst hr1 hr2 hr3
  dsimp only [aMk, aRf] at GRm RFm NXm LVm RTm ⊢
  obtain ⟨W1, hW1⟩ : ∃ W1, W1 = (w.alloc (.cells #[.slice o1 n1 f1, .slice o2 n2 f2, .slice o3 n3 f3] 26)).alloc (.cells #[.int .i64 node, .int .i64 nodes] 58) := ⟨_, rfl⟩
  have hb1 : Below w.heap.size w W1 := by rw [hW1]; exact ((Below.refl _ _).alloc (Nat.le_refl _) _).alloc (by simp) _
  have k1 : BlkIs W1 w.heap.size 26 #[.slice o1 n1 f1, .slice o2 n2 f2, .slice o3 n3 f3] := by rw [hW1]; exact (BlkIs.new _ _ _).alloc _
  have k2 : BlkIs W1 (w.heap.size + 1) 58 #[.int .i64 node, .int .i64 nodes] := by rw [hW1]; exact BlkIs.new2 _ _ _ _
  have hr := h.later hb1
  have GR := Lib.hid (fun X : LaterOf W1 => GRm X.w (hr.later X.h))
  have RF := Lib.hid (fun hs (X : LaterOf W1) => RFm hs X.w (hr.later X.h))
  have NXT := Lib.hid (fun hs (X : LaterOf W1) => NXm hs X.w (hr.later X.h))
  have LVV := Lib.hid (fun hs (X : LaterOf W1) => LVm hs X.w (hr.later X.h))
  have RTT := Lib.hid (fun hs hl (X : LaterOf W1) => RTm hs hl X.w (hr.later X.h))
  have HL := Lib.hid (And.intro LLm RLm)
  have H := Lib.hid (And.intro (hr.2.1) hr.2.2)
  have HN := Lib.hid (And.intro hn1 (And.intro hn2 hn3))
  have u0 : ∀ X : LaterOf W1, X.w.cell? ⟨w.heap.size, 0, none⟩ = some (.slice o1 n1 f1) := fun X => (X.blk k1).cell 0
  have u1 : ∀ X : LaterOf W1, X.w.cell? ⟨w.heap.size, 1, none⟩ = some (.slice o2 n2 f2) := fun X => (X.blk k1).cell 1
  have u2 : ∀ X : LaterOf W1, X.w.cell? ⟨w.heap.size, 2, none⟩ = some (.slice o3 n3 f3) := fun X => (X.blk k1).cell 2
  have t0 : ∀ X : LaterOf W1, X.w.cell? ⟨w.heap.size + 1, 0, none⟩ = some (.int .i64 node) := fun X => (X.blk k2).cell 0
  have t1 : ∀ X : LaterOf W1, X.w.cell? ⟨w.heap.size + 1, 1, none⟩ = some (.int .i64 nodes) := fun X => (X.blk k2).cell 1
  have z0 : ∀ X : LaterOf W1, w.heap.size < X.w.heap.size := fun X => (X.blk k1).lt
  have HB := Lib.hid (fun X : LaterOf W1 => hb1.trans (X.h.mono hb1.size))
  have HW := Lib.hid hW1
  clear GRm RFm NXm LVm RTm LLm RLm h hr k1 k2 hb1 hW1 hx1 hx2 hx3 hn1 hn2 hn3
  go_enter Tryz.func9, Tryz.ntmps9
  go_wp2_with fail
  rw [← HW.out]
  clear HW
  obtain ⟨X, hX⟩ := LaterOf.at_ W1
  rw [hX]
  refine (LaterOf.call X (awake_any X.w)).mono ?_
  clear hX
  rintro e _ ⟨rfl, X, rfl⟩
  go_wp2_with fail
  refine (GR.out X).mono ?_
  rintro e w' ⟨⟨v, rfl, hlow⟩, hb⟩
  obtain ⟨X, rfl⟩ := X.next hb
  clear hb GR
  cases v
  case true =>
    clear hlow
    go_wp2_with fail
    go_ret
    exact ⟨rfl, HB.out X⟩
  have hs := Lib.hid ((hlow rfl))
  clear hlow
  have hnm2 : n2 ≤ 300 := by have h1 := hs.out.2.1; have h2 := HN.out.2.1; dsimp only at h1; omega
  have hnm3 : n3 ≤ 300 := by have h1 := hs.out.2.2.1; have h2 := HN.out.2.2; dsimp only at h1; omega
  have hnm1 : n1 ≤ 300 := by have h1 := hs.out.1; have h2 := HN.out.1; dsimp only at h1; omega
  have HNM := Lib.hid (And.intro hnm1 (And.intro hnm2 hnm3))
  go_wp2_with fail
  go_loopw [9] (fun i wr => ∃ k : Nat, i = .int .i64 (k : Int) ∧ k ≤ n2 ∧ X.w = wr) (fun i _ => n2 - (intOf i).toNat)
  case atStart => exact ⟨0, rfl, Nat.zero_le _, rfl⟩
  case round =>
    obtain ⟨k, rfl, hkn, rfl⟩ := hrel
    have kw : IntKind.i64.wrap ((k : Int) + 1) = ((k + 1 : Nat) : Int) := IntWalk.i64_in _ (by omega)
    rcases Nat.lt_or_ge k n2 with hlt | hge
    · have ki : (k : Int) < n2 := by omega
      have hkl : k < toks.length := by have := HN.out; omega
      obtain ⟨b, off, ha, hblt, hc⟩ := (H.out.1.later X.h).at_ (by omega)
      obtain ⟨y, hy⟩ : ∃ y, y = toks[k] := ⟨_, rfl⟩
      have y1 := hc k hkl 1 _ (by rw [← hy]; rfl)
      obtain ⟨a0, a1, a2⟩ := y
      dsimp only at y1
      subst ha
      clear hc hy hblt hkl
      by_cases hq : a1 = 9223372036854775807
      · have q0 : (a1 == 9223372036854775807) = true := by simpa using hq
        clear hq
        go_wp2_with fail
        go_ret
        exact ⟨rfl, HB.out X⟩
      · have q0 : (a1 == 9223372036854775807) = false := by simpa using hq
        clear hq
        go_wp2_with fail
        exact ⟨⟨k + 1, by simp, by omega, trivial⟩, by simp [intOf]; omega⟩
    · have ki : decide (k < n2) = false := decide_eq_false (by omega)
      obtain rfl : n2 = k := by omega
      clear hge
      go_wp2_with fail
      go_loopw [10] (fun i wr => ∃ k : Nat, i = .int .i64 (k : Int) ∧ k ≤ n3 ∧ X.w = wr) (fun i _ => n3 - (intOf i).toNat)
      case atStart => exact ⟨0, rfl, Nat.zero_le _, rfl⟩
      case round =>
        obtain ⟨k, rfl, hkn, rfl⟩ := hrel
        clear kw ki
        have kw : IntKind.i64.wrap ((k : Int) + 1) = ((k + 1 : Nat) : Int) := IntWalk.i64_in _ (by omega)
        rcases Nat.lt_or_ge k n3 with hlt | hge
        · have ki : (k : Int) < n3 := by omega
          have hkl : k < zs.length := by have := HN.out; omega
          obtain ⟨b, off, ha, hblt, hc⟩ := (H.out.2.1.later X.h).at_ (by omega)
          obtain ⟨y, hy⟩ : ∃ y, y = zs[k] := ⟨_, rfl⟩
          have y1 := hc k hkl 1 _ (by rw [← hy]; rfl)
          obtain ⟨⟨a0, a1, a2, a3, a4⟩, a5, a6⟩ := y
          dsimp only at y1
          subst ha
          clear hc hy hblt hkl
          by_cases hq : a1 = 9223372036854775807
          · have q0 : (a1 == 9223372036854775807) = true := by simpa using hq
            clear hq
            go_wp2_with fail
            go_ret
            exact ⟨rfl, HB.out X⟩
          · have q0 : (a1 == 9223372036854775807) = false := by simpa using hq
            clear hq
            go_wp2_with fail
            exact ⟨⟨k + 1, by simp, by omega, trivial⟩, by simp [intOf]; omega⟩
        · have ki : decide (k < n3) = false := decide_eq_false (by omega)
          obtain rfl : n3 = k := by omega
          clear hge kw
          go_wp2_with fail
          refine (LaterOf.call X (RF.out hs.out.small X).1).mono ?_
          rintro e _ ⟨rfl, X, rfl⟩
          clear ki
          go_wp2_with fail
          obtain ⟨p, hp⟩ : ∃ p, p = X.w.heap.size := ⟨_, rfl⟩
          obtain ⟨Y, hY⟩ := X.allocs (.cells #[.string r0, .string r1, .int .i64 r2] 47)
          have k3 : BlkIs Y.w p 47 #[.string r0, .string r1, .int .i64 r2] := by rw [← hY, hp]; exact BlkIs.new _ _ _
          have K3 := Lib.hid k3
          rw [hY, ← hp]
          clear hY hp k3
          refine (RF.out hs.out.small Y).2.mono ?_
          rintro e wz ⟨rfl, hbz⟩
          have k3 := BlkIs.below K3.out hbz K3.out.lt
          obtain ⟨Z, rfl⟩ := Y.next hbz
          have K3 := Lib.hid k3
          have a0 : Z.w.cell? ⟨p, 0, none⟩ = some (.string r0) := k3.cell 0
          have a1 : Z.w.cell? ⟨p, 1, none⟩ = some (.string r1) := k3.cell 1
          have a2 : Z.w.cell? ⟨p, 2, none⟩ = some (.int .i64 r2) := k3.cell 2
          clear hbz k3 RF
          go_wp2_with fail
          obtain ⟨q, hq⟩ : ∃ q, q = Z.w.heap.size := ⟨_, rfl⟩
          obtain ⟨V, hV⟩ : ∃ V, V = Z.w.alloc (.cells #[.string r0, .string r1, .int .i64 r2] 47) := ⟨_, rfl⟩
          have k4 : BlkIs V q 47 #[.string r0, .string r1, .int .i64 r2] := by rw [hV, hq]; exact BlkIs.new _ _ _
          have k3 : BlkIs V p 47 #[.string r0, .string r1, .int .i64 r2] := by rw [hV]; exact K3.out.alloc _
          have hbV : Below W1.heap.size W1 V := by rw [hV]; exact Z.h.alloc Z.h.size _
          rw [← hV, ← hq]
          have v0 : ∀ X : LaterOf V, X.w.cell? ⟨w.heap.size, 0, none⟩ = some (.slice o1 n1 f1) := fun X => u0 ⟨X.w, hbV.trans (X.h.mono hbV.size)⟩
          have v1 : ∀ X : LaterOf V, X.w.cell? ⟨w.heap.size, 1, none⟩ = some (.slice o2 n2 f2) := fun X => u1 ⟨X.w, hbV.trans (X.h.mono hbV.size)⟩
          have v2 : ∀ X : LaterOf V, X.w.cell? ⟨w.heap.size, 2, none⟩ = some (.slice o3 n3 f3) := fun X => u2 ⟨X.w, hbV.trans (X.h.mono hbV.size)⟩
          have a0' : ∀ X : LaterOf V, X.w.cell? ⟨p, 0, none⟩ = some (.string r0) := fun X => (X.blk k3).cell 0
          have a1' : ∀ X : LaterOf V, X.w.cell? ⟨p, 1, none⟩ = some (.string r1) := fun X => (X.blk k3).cell 1
          have a2' : ∀ X : LaterOf V, X.w.cell? ⟨p, 2, none⟩ = some (.int .i64 r2) := fun X => (X.blk k3).cell 2
          have b0' : ∀ X : LaterOf V, X.w.cell? ⟨q, 0, none⟩ = some (.string r0) := fun X => (X.blk k4).cell 0
          have b1' : ∀ X : LaterOf V, X.w.cell? ⟨q, 1, none⟩ = some (.string r1) := fun X => (X.blk k4).cell 1
          have b2' : ∀ X : LaterOf V, X.w.cell? ⟨q, 2, none⟩ = some (.int .i64 r2) := fun X => (X.blk k4).cell 2
          have UP := Lib.hid hbV
          clear u0 u1 u2 t0 t1 z0 hV hq hbV K3 k3 k4 a0 a1 a2
          have hnm : n3 ≤ 300 := HNM.out.2.2
          obtain ⟨X', hX'⟩ := LaterOf.at_ V
          go_loopw [15] (fun i wr => ∃ (k : Nat) (U : LaterOf V), i = .int .i64 (k : Int) ∧ k ≤ n3 ∧ U.w = wr) (fun i _ => n3 - (intOf i).toNat)
          case atStart => exact ⟨0, X', rfl, Nat.zero_le _, hX'.symm⟩
          case round =>
            obtain ⟨k, U, rfl, hkn, rfl⟩ := hrel
            clear hX'
            have kw : IntKind.i64.wrap ((k : Int) + 1) = ((k + 1 : Nat) : Int) := IntWalk.i64_in _ (by omega)
            rcases Nat.lt_or_ge k n3 with hlt | hge
            · have ki : (k : Int) < n3 := by omega
              have hkl : k < zs.length := by have := HN.out; omega
              obtain ⟨b, off, ha, hblt, hc⟩ := H.out.2.1.at_ (by omega)
              obtain ⟨z, hz⟩ : ∃ z, z = zs[k] := ⟨_, rfl⟩
              have e0 := hc k hkl 0 _ (by rw [← hz]; rfl)
              have e1 := hc k hkl 1 _ (by rw [← hz]; rfl)
              have e2 := hc k hkl 2 _ (by rw [← hz]; rfl)
              have e3 := hc k hkl 3 _ (by rw [← hz]; rfl)
              have e4 := hc k hkl 4 _ (by rw [← hz]; rfl)
              have hzr := H.out.2.2 z (by rw [hz]; exact List.getElem_mem hkl)
              have hzf := hs.out.small.2.2.2 z (by rw [hz]; exact List.getElem_mem hkl)
              have T1 := fun X : LaterOf V => sure_any z nodes X.w (hzr.later (UP.out.trans (X.h.mono UP.out.size))) hzf.1
              have T2 := fun X : LaterOf V => rsure_any z nodes X.w (hzr.later (UP.out.trans (X.h.mono UP.out.size))) hzf.1
              obtain ⟨sv, hsv⟩ : ∃ sv, sv = sureB z.t nodes := ⟨_, rfl⟩
              rw [← hsv] at T1 T2
              obtain ⟨⟨a0, a1, a2, lc, la⟩, cv, av⟩ := z
              dsimp only [aTb] at e0 e1 e2 e3 e4 T1 T2
              rw [show off + k * 5 + 0 = off + k * 5 from rfl] at e0
              subst ha
              have c0 : ∀ X : LaterOf V, X.w.cell? ⟨b, off + k * 5, none⟩ = some (.int .i64 a0) := fun X => by rw [(UP.out.trans (X.h.mono UP.out.size)).cell hblt]; exact e0
              have c1 : ∀ X : LaterOf V, X.w.cell? ⟨b, off + k * 5 + 1, none⟩ = some (.int .i64 a1) := fun X => by rw [(UP.out.trans (X.h.mono UP.out.size)).cell hblt]; exact e1
              have c2 : ∀ X : LaterOf V, X.w.cell? ⟨b, off + k * 5 + 2, none⟩ = some (.string a2) := fun X => by rw [(UP.out.trans (X.h.mono UP.out.size)).cell hblt]; exact e2
              have c3 : ∀ X : LaterOf V, X.w.cell? ⟨b, off + k * 5 + 3, none⟩ = some cv := fun X => by rw [(UP.out.trans (X.h.mono UP.out.size)).cell hblt]; exact e3
              have c4 : ∀ X : LaterOf V, X.w.cell? ⟨b, off + k * 5 + 4, none⟩ = some av := fun X => by rw [(UP.out.trans (X.h.mono UP.out.size)).cell hblt]; exact e4
              have T1 := Lib.hid T1
              have T2 := Lib.hid T2
              clear hc hz hblt hkl e0 e1 e2 e3 e4 hzr hzf hsv
              cases sv
              · go_wp2_with fail
                obtain ⟨U2, hU2⟩ := LaterOf.drawn U
                refine wp_region_all (fun w' => ∃ x : LaterOf V, w' = x.w) (by kernel_rfl) (by kernel_rfl) ⟨U2, hU2⟩ ?_
                clear hU2
                repeat (go_big_quiet_step (first | with_reducible exact LaterOf.call _ (T1.out _) | with_reducible exact LaterOf.call _ (T2.out _)))
                refine wpQuiet_nil ?_
                intro w5 hw5
                obtain ⟨U3, rfl⟩ := hw5
                go_wp2_with fail
                exact ⟨⟨k + 1, U3, by simp, by omega, rfl⟩, by simp [intOf]; omega⟩
              · go_wp2_with fail
                obtain ⟨U2, hU2⟩ := LaterOf.drawn U
                refine wp_region_all (fun w' => ∃ x : LaterOf V, w' = x.w) (by kernel_rfl) (by kernel_rfl) ⟨U2, hU2⟩ ?_
                clear hU2
                repeat (go_big_quiet_step (first | with_reducible exact LaterOf.call _ (T1.out _) | with_reducible exact LaterOf.call _ (T2.out _)))
                refine wpQuiet_nil ?_
                intro w5 hw5
                obtain ⟨U3, rfl⟩ := hw5
                go_wp2_with fail
                exact ⟨⟨k + 1, U3, by simp, by omega, rfl⟩, by simp [intOf]; omega⟩
            · have ki : decide (k < n3) = false := decide_eq_false (by omega)
              obtain rfl : n3 = k := by omega
              clear hge kw
              go_wp2_with fail
              have HK := Lib.hid (show ∀ W, Below V.heap.size V W → (fun w' => w'.cell? ⟨w.heap.size, 0, none⟩ = some (.slice o1 n1 f1) ∧ w'.cell? ⟨w.heap.size, 1, none⟩ = some (.slice o2 n2 f2) ∧ w'.cell? ⟨w.heap.size, 2, none⟩ = some (.slice o3 n3 f3) ∧ w'.cell? ⟨p, 0, none⟩ = some (.string r0) ∧ w'.cell? ⟨p, 1, none⟩ = some (.string r1) ∧ w'.cell? ⟨p, 2, none⟩ = some (.int .i64 r2) ∧ w'.cell? ⟨q, 0, none⟩ = some (.string r0) ∧ w'.cell? ⟨q, 1, none⟩ = some (.string r1) ∧ w'.cell? ⟨q, 2, none⟩ = some (.int .i64 r2)) W from fun W hW => ⟨v0 ⟨W, hW⟩, v1 ⟨W, hW⟩, v2 ⟨W, hW⟩, a0' ⟨W, hW⟩, a1' ⟨W, hW⟩, a2' ⟨W, hW⟩, b0' ⟨W, hW⟩, b1' ⟨W, hW⟩, b2' ⟨W, hW⟩⟩)
              have NXV := Lib.hid (fun W (hW : Below V.heap.size V W) => NXT.out hs.out.small ⟨W, UP.out.trans (hW.mono UP.out.size)⟩)
              have LVV' := Lib.hid (fun W (hW : Below V.heap.size V W) => LVV.out hs.out.small ⟨W, UP.out.trans (hW.mono UP.out.size)⟩)
              have RTV := Lib.hid (fun W (hW : Below V.heap.size V W) => RTT.out hs.out.small (by have := HNM.out; have := HN.out; omega) ⟨W, UP.out.trans (hW.mono UP.out.size)⟩)
              have HBV := Lib.hid (fun W (hW : Below V.heap.size V W) => HB.out ⟨W, UP.out.trans (hW.mono UP.out.size)⟩)
              have HLL := Lib.hid (show LV.length ≤ 1000000 ∧ RT.length ≤ 1000000 from by have h1 := HL.out; have h2 := HNM.out; have h3 := HN.out; constructor <;> omega)
              have hbd : Below V.heap.size V U.w.drew := U.h.trans ⟨rfl, rfl, rfl, Nat.le_refl _, fun _ _ => rfl⟩
              have hne := fun W => eql_rf ⟨r0, r1, r2⟩ ⟨r0, r1, r2⟩ W
              rw [eqB_yes rfl] at hne
              dsimp only at hne
              have hg : Tryz.prog.eqGuardType Tryz.prog.depth 47 = false := by kernel_rfl
              have rbb : (rb == rb) = true := by cases rb <;> rfl
              have nxx : (NX == NX) = true := by simp
              clear v0 v1 v2 a0' a1' a2' b0' b1' b2' NXT LVV RTT HB HL hnm hnm1 hnm2 hnm3
              go_region_held (fun w' => w'.cell? ⟨w.heap.size, 0, none⟩ = some (.slice o1 n1 f1) ∧ w'.cell? ⟨w.heap.size, 1, none⟩ = some (.slice o2 n2 f2) ∧ w'.cell? ⟨w.heap.size, 2, none⟩ = some (.slice o3 n3 f3) ∧ w'.cell? ⟨p, 0, none⟩ = some (.string r0) ∧ w'.cell? ⟨p, 1, none⟩ = some (.string r1) ∧ w'.cell? ⟨p, 2, none⟩ = some (.int .i64 r2) ∧ w'.cell? ⟨q, 0, none⟩ = some (.string r0) ∧ w'.cell? ⟨q, 1, none⟩ = some (.string r1) ∧ w'.cell? ⟨q, 2, none⟩ = some (.int .i64 r2))
                ((refine HK.out _ ?_; assumption))
                (first
                  | (go_at_call 26
                     refine (NXV.out _ hbd).1.mono ?_
                     rintro e w4 ⟨rfl, hb⟩
                     have hb4 : Below V.heap.size V w4 := hbd.trans (hb.mono hbd.size)
                     clear hb)
                  | (go_at_call 30
                     refine (NXV.out _ hb4).2.mono ?_
                     rintro e w5 ⟨rfl, hb⟩
                     have hb5 : Below V.heap.size V w5 := hb4.trans (hb.mono hb4.size)
                     clear hb)
                  | (go_at_call 19
                     refine (LVV'.out _ hb5).1.mono ?_
                     rintro e w6 ⟨v6, rfl, hv6, hb, -⟩
                     have hb6 : Below V.heap.size V w6 := hb5.trans (hb.mono hb5.size)
                     obtain ⟨o6, f6, hq6, -, -⟩ := hv6.form
                     subst hq6
                     have HV6 := Lib.hid hv6
                     clear hb hv6)
                  | (go_at_call 32
                     refine (LVV'.out _ hb6).2.mono ?_
                     rintro e w7 ⟨v7, rfl, hv7, hb⟩
                     have hb7 : Below V.heap.size V w7 := hb6.trans (hb.mono hb6.size)
                     obtain ⟨o7, f7, hq7, -, -⟩ := hv7.form
                     subst hq7
                     have HV7 := Lib.hid (And.intro (HV6.out.later hb) hv7)
                     clear hb hv7)
                  | (go_at_call 31
                     refine (tokens_same _ _ LV LV w7 HV7.out.1 HV7.out.2 HLL.out.1 HLL.out.1).mono ?_
                     rw [eqB_yes rfl]
                     rintro e w8 ⟨rfl, hb⟩
                     have hb8 : Below V.heap.size V w8 := hb7.trans (hb.mono hb7.size)
                     clear hb)
                  | (go_at_call 24
                     refine (RTV.out _ hb8).1.mono ?_
                     rintro e w9 ⟨v9, l9, rfl, hv9, hi9, hb⟩
                     have hb9 : Below V.heap.size V w9 := hb8.trans (hb.mono hb8.size)
                     obtain ⟨o9, f9, hq9, -, -, -⟩ := hv9.form
                     subst hq9
                     have HV9 := Lib.hid (And.intro (strAt_of hv9) hi9)
                     clear hb hv9 hi9)
                  | (go_at_call 33
                     refine (RTV.out _ hb9).2.mono ?_
                     rintro e w10 ⟨v10, l10, rfl, hv10, hi10, hl10, hb⟩
                     have hb10 : Below V.heap.size V w10 := hb9.trans (hb.mono hb9.size)
                     obtain ⟨o10, f10, hq10, hr10⟩ := hv10
                     subst hq10
                     have HV10 := Lib.hid (show StrAt w10 _ l9 ∧ StrAt w10 _ l10 ∧ l9 = l10 ∧ l10.length ≤ 1000000 from ⟨HV9.out.1.later hb, ⟨_, _, rfl, hr10⟩, isOf_unique HV9.out.2 hi10, Nat.le_trans hl10 HLL.out.2⟩)
                     clear hb hr10 hi10 hl10)
                  | (go_at_call 23
                     refine (texts_any _ _ l9 l10 w10 HV10.out.1 HV10.out.2.1 (by rw [HV10.out.2.2.1]; exact HV10.out.2.2.2) HV10.out.2.2.2).mono ?_
                     rw [eqB_yes HV10.out.2.2.1]
                     rintro e w11 ⟨rfl, hb⟩
                     have hb11 : Below V.heap.size V w11 := hb10.trans (hb.mono hb10.size)
                     clear hb))
              go_wp2_with fail
              go_ret
              exact ⟨rfl, HBV.out _ hb11⟩
end Go.Proofs.YtngflbakmlddeaaGreat.Mk
