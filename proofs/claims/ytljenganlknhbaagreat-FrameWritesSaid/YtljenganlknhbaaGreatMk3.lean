/- mark.all and mark.rises, walked: at tokens, refs, tombs and numbers. At most 1,000,000 things. (Layer 12.) -/
import Derived.Test.YtljenganlknhbaaGreatMk2
import Derived.Test.YtljenganlknhbaaGreatPkA
namespace Go.Proofs.YtljenganlknhbaaGreat.Mk
set_option linter.unusedVariables false
open Go.RowKit
theorem any_not_all {α : Type} (p : α → Bool) (l : List α) : (!l.any fun x => !p x) = l.all p := by
  rw [List.not_any_eq_all_not]; simp
set_option maxRecDepth 100000 in
theorem all1_tok (l : List Tok) (g : Nat) (lb : Array Value) (p : Tok → Bool) (w W1 : World) (hp : Tells g lb aTok p l w) (hb : Below w.heap.size w W1) (B : Nat) (hBl : B < W1.heap.size) (hB : W1.cell? ⟨B, 0, none⟩ = some (.func (.func g) #[] lb)) :
    Tells 165 #[.pointer (some ⟨B, 0, none⟩)] aTok (fun x => !p x) l W1 := by
  refine ⟨enters_of Tryz.func165 (by kernel_rfl) rfl, fun x hx W hW => ?_⟩
  have hq0 := fun W' (h : Below W.heap.size W W') => hp.2 x hx W' ((hb.trans (hW.mono hb.size)).trans (h.mono (Nat.le_trans hb.size hW.size)))
  have eg := hp.1
  have c0 : W.cell? ⟨B, 0, none⟩ = some (.func (.func g) #[] lb) := (hW.cell (p := ⟨B, 0, none⟩) hBl).trans hB
  have hBW : B < W.heap.size := Nat.lt_of_lt_of_le hBl hW.size
  obtain ⟨a0, a1, a2⟩ := x
  obtain ⟨pv, hpv⟩ : ∃ pv, pv = p ⟨a0, a1, a2⟩ := ⟨_, rfl⟩
  have hwb : Below W.heap.size W (W.alloc (.cells #[.int .i64 a0, .int .i64 a1, .string a2] 102)) := (Below.refl _ _).alloc (Nat.le_refl _) _
  have hq : Calls Tryz.prog g (#[.agg #[.int .i64 a0, .int .i64 a1, .string a2]] ++ lb) (W.alloc (.cells #[.int .i64 a0, .int .i64 a1, .string a2] 102)) fun e w' => e = .returned (.bool pv) ∧ Below W.heap.size W w' := by
    rw [hpv]
    exact (hq0 _ hwb).mono fun e w' ⟨h1, h2⟩ => ⟨h1, hwb.trans (h2.mono hwb.size)⟩
  have HQ := Lib.hid hq
  show Calls Tryz.prog 165 #[.agg #[.int .i64 a0, .int .i64 a1, .string a2], .pointer (some ⟨B, 0, none⟩)] W fun e w' => e = .returned (.bool (!p ⟨a0, a1, a2⟩)) ∧ Below W.heap.size W w'
  rw [← hpv]
  clear hq0 hq hpv hwb hp hb hW hB hBl hx
  go_enter Tryz.func165, Tryz.ntmps165
  go_wp2_with (go_at_fn g; refine HQ.out.mono ?_; rintro e w2 ⟨rfl, hb2⟩; have H2 := Lib.hid hb2; clear hb2)
  go_ret
  exact ⟨rfl, H2.out⟩
theorem all_tok (v : Value) (l : List Tok) (g : Nat) (lb : Array Value) (p : Tok → Bool) (w : World) (h : RowAt 3 vTok w v l) (hp : Tells g lb aTok p l w) (hn : l.length ≤ 1000000) :
    Calls Tryz.prog 137 #[v, .func (.func g) #[] lb] w fun e w' => e = .returned (.bool (l.all p)) ∧ Below w.heap.size w w' := by
  obtain ⟨W1, hW1⟩ : ∃ W1, W1 = w.alloc (.cells #[.func (.func g) #[] lb] 142) := ⟨_, rfl⟩
  have hb1 : Below w.heap.size w W1 := by rw [hW1]; exact (Below.refl _ _).alloc (Nat.le_refl _) _
  have k1 : BlkIs W1 w.heap.size 142 #[.func (.func g) #[] lb] := by rw [hW1]; exact BlkIs.new _ _ _
  have C := cf_tok v l 165 #[.pointer (some ⟨w.heap.size, 0, none⟩)] (fun x => !p x) W1 (h.later hb1) (all1_tok l g lb p w W1 hp hb1 w.heap.size k1.lt (k1.cell 0)) hn
  have hna := any_not_all p l
  obtain ⟨q, hq⟩ : ∃ q, q = l.any fun x => !p x := ⟨_, rfl⟩
  rw [← hq] at C hna
  rw [← hna]
  have C := Lib.hid C
  have HB := Lib.hid hb1
  have HW := Lib.hid hW1
  obtain ⟨ao, cap, rfl, -, -⟩ := h.form
  clear h hp hb1 k1 hW1 hq hna
  go_enter Tryz.func137, Tryz.ntmps137
  go_wp2_with fail
  rw [← HW.out]
  refine C.out.mono ?_
  rintro e w2 ⟨rfl, hb2⟩
  have H2 := Lib.hid (HB.out.trans (hb2.mono HB.out.size))
  clear C hb2
  go_wp2_with fail
  go_ret
  exact ⟨rfl, H2.out⟩
set_option maxRecDepth 100000 in
set_option maxHeartbeats 2000000 in
theorem ri_tok (v : Value) (l : List Tok) (g : Nat) (lb : Array Value) (p : Tok → Tok → Bool) (w : World) (h : RowAt 3 vTok w v l) (hp : Tells2 g lb aTok p l w) (hn : l.length ≤ 1000000) :
    Calls Tryz.prog 140 #[v, .func (.func g) #[] lb] w fun e w' => e = .returned (.bool (riseB p l)) ∧ Below w.heap.size w w' := by
  obtain ⟨ao, cap, rfl, hlc, hcm, hcell⟩ := h
  obtain ⟨n, hnn⟩ : ∃ n, n = l.length := ⟨_, rfl⟩
  rw [← hnn] at hn hlc ⊢
  have HL := Lib.hid hnn
  have HC := Lib.hid hcell
  have HP := Lib.hid hp.2
  have eg := hp.1
  clear hcell hnn hp
  go_enter Tryz.func140, Tryz.ntmps140
  go_wp2_with fail
  go_loopw [5] (fun i wr => ∃ t : Nat, i = .int .i64 ((t : Int) + 1) ∧ t ≤ n ∧ Hid (∀ i, i < t → ∀ (h : i + 1 < l.length), p l[i] l[i + 1] = true) ∧ Hid (Below w.heap.size w wr)) (fun i _ => n + 1 - (intOf i).toNat)
  case atStart => exact ⟨0, rfl, Nat.zero_le _, Lib.hid (fun i hi => absurd hi (Nat.not_lt_zero _)), Lib.hid (Below.refl _ _)⟩
  case round =>
    obtain ⟨t, rfl, htn, HM, HB⟩ := hrel
    rcases Nat.lt_or_ge (t + 1) n with htl | htg
    · have ti : (t : Int) + 1 < n := by omega
      have tk : (t : Int) < n := by omega
      have hwr : IntKind.i64.wrap (t : Int) = (t : Int) := IntWalk.i64_in _ (by omega)
      have hk1 : t < l.length := by rw [← HL.out]; omega
      have hk2 : t + 1 < l.length := by rw [← HL.out]; omega
      obtain ⟨b, off, rfl, hblt, hc⟩ := HC.out (by rw [← HL.out]; omega)
      have hbr : b < wr.heap.size := Nat.lt_of_lt_of_le hblt HB.out.size
      have hq := fun (X : LaterOf wr) => HP.out l[t] (List.getElem_mem hk1) l[t + 1] (List.getElem_mem hk2) X.w (HB.out.trans (X.h.mono HB.out.size))
      obtain ⟨pv, hpv⟩ : ∃ pv, pv = p l[t] l[t + 1] := ⟨_, rfl⟩
      have HV := Lib.hid hpv
      rw [← hpv] at hq
      obtain ⟨x, hx⟩ : ∃ x, x = l[t] := ⟨_, rfl⟩
      obtain ⟨y, hy⟩ : ∃ y, y = l[t + 1] := ⟨_, rfl⟩
      rw [← hx, ← hy] at hq
      obtain ⟨a0, a1, a2⟩ := x
      obtain ⟨b0, b1, b2⟩ := y
      have x0 : ∀ X : LaterOf wr, X.w.cell? ⟨b, off + t * 3, none⟩ = some (.int .i64 a0) := fun X => by
        have := hc t hk1 0 (.int .i64 a0) (by rw [← hx]; rfl)
        rw [X.h.cell hbr, HB.out.cell hblt]; simpa using this
      have y0 : ∀ X : LaterOf wr, X.w.cell? ⟨b, off + (t + 1) * 3, none⟩ = some (.int .i64 b0) := fun X => by
        have := hc (t + 1) hk2 0 (.int .i64 b0) (by rw [← hy]; rfl)
        rw [X.h.cell hbr, HB.out.cell hblt]; simpa using this
      have x1 : ∀ X : LaterOf wr, X.w.cell? ⟨b, off + t * 3 + 1, none⟩ = some (.int .i64 a1) := fun X => by
        have := hc t hk1 1 (.int .i64 a1) (by rw [← hx]; rfl)
        rw [X.h.cell hbr, HB.out.cell hblt]; simpa using this
      have y1 : ∀ X : LaterOf wr, X.w.cell? ⟨b, off + (t + 1) * 3 + 1, none⟩ = some (.int .i64 b1) := fun X => by
        have := hc (t + 1) hk2 1 (.int .i64 b1) (by rw [← hy]; rfl)
        rw [X.h.cell hbr, HB.out.cell hblt]; simpa using this
      have x2 : ∀ X : LaterOf wr, X.w.cell? ⟨b, off + t * 3 + 2, none⟩ = some (.string a2) := fun X => by
        have := hc t hk1 2 (.string a2) (by rw [← hx]; rfl)
        rw [X.h.cell hbr, HB.out.cell hblt]; simpa using this
      have y2 : ∀ X : LaterOf wr, X.w.cell? ⟨b, off + (t + 1) * 3 + 2, none⟩ = some (.string b2) := fun X => by
        have := hc (t + 1) hk2 2 (.string b2) (by rw [← hy]; rfl)
        rw [X.h.cell hbr, HB.out.cell hblt]; simpa using this
      have hq2 : ∀ X : LaterOf wr, Calls Tryz.prog g (#[.agg #[.int .i64 a0, .int .i64 a1, .string a2], .agg #[.int .i64 b0, .int .i64 b1, .string b2]] ++ lb) X.w fun e w' => e = .returned (.bool pv) ∧ Below X.w.heap.size X.w w' := hq
      have HQ := Lib.hid hq2
      clear hc hq hq2 hx hy hpv
      cases pv
      · go_wp2_with fail
        refine wp_region_all (fun w' => ∃ x : LaterOf wr, w' = x.w) (by kernel_rfl) (by kernel_rfl) ⟨LaterOf.start wr, rfl⟩ ?_
        repeat (go_big_quiet_step (exact LaterOf.call _ (HQ.out _)))
        refine wpQuiet_nil ?_
        intro w3 hw3
        obtain ⟨X, rfl⟩ := hw3
        have H3 := Lib.hid (HB.out.trans (X.h.mono HB.out.size))
        obtain ⟨w3, hx3⟩ := X
        go_wp2_with fail
        go_ret
        refine ⟨?_, H3.out⟩
        have : riseB p l = false := by
          cases hr : riseB p l
          · rfl
          · have := (riseB_iff p l).1 hr t (by rw [← HL.out]; exact htl)
            rw [← HV.out] at this; cases this
        rw [this]; rfl
      · go_wp2_with fail
        refine wp_region_all (fun w' => ∃ x : LaterOf wr, w' = x.w) (by kernel_rfl) (by kernel_rfl) ⟨LaterOf.start wr, rfl⟩ ?_
        repeat (go_big_quiet_step (exact LaterOf.call _ (HQ.out _)))
        refine wpQuiet_nil ?_
        intro w3 hw3
        obtain ⟨X, rfl⟩ := hw3
        have H3 := Lib.hid (HB.out.trans (X.h.mono HB.out.size))
        obtain ⟨w3, hx3⟩ := X
        go_wp2_with fail
        refine ⟨⟨t + 1, by simp, by omega, Lib.hid ?_, H3⟩, by simp [intOf]; omega⟩
        intro i hi h
        rcases Nat.lt_or_ge i t with hit | hit
        · exact HM.out i hit h
        · obtain rfl : i = t := by omega
          exact HV.out.symm
    · have ti : decide ((t : Int) + 1 < n) = false := decide_eq_false (by omega)
      go_wp2_with fail
      go_ret
      refine ⟨?_, HB.out⟩
      have : riseB p l = true := (riseB_iff p l).2 fun i h => HM.out i (by have := HL.out; omega) h
      rw [this]; rfl
set_option maxRecDepth 100000 in
theorem all1_rf (l : List Rf) (g : Nat) (lb : Array Value) (p : Rf → Bool) (w W1 : World) (hp : Tells g lb aRf p l w) (hb : Below w.heap.size w W1) (B : Nat) (hBl : B < W1.heap.size) (hB : W1.cell? ⟨B, 0, none⟩ = some (.func (.func g) #[] lb)) :
    Tells 129 #[.pointer (some ⟨B, 0, none⟩)] aRf (fun x => !p x) l W1 := by
  refine ⟨enters_of Tryz.func129 (by kernel_rfl) rfl, fun x hx W hW => ?_⟩
  have hq0 := fun W' (h : Below W.heap.size W W') => hp.2 x hx W' ((hb.trans (hW.mono hb.size)).trans (h.mono (Nat.le_trans hb.size hW.size)))
  have eg := hp.1
  have c0 : W.cell? ⟨B, 0, none⟩ = some (.func (.func g) #[] lb) := (hW.cell (p := ⟨B, 0, none⟩) hBl).trans hB
  have hBW : B < W.heap.size := Nat.lt_of_lt_of_le hBl hW.size
  obtain ⟨a0, a1, a2⟩ := x
  obtain ⟨pv, hpv⟩ : ∃ pv, pv = p ⟨a0, a1, a2⟩ := ⟨_, rfl⟩
  have hwb : Below W.heap.size W (W.alloc (.cells #[.string a0, .string a1, .int .i64 a2] 51)) := (Below.refl _ _).alloc (Nat.le_refl _) _
  have hq : Calls Tryz.prog g (#[.agg #[.string a0, .string a1, .int .i64 a2]] ++ lb) (W.alloc (.cells #[.string a0, .string a1, .int .i64 a2] 51)) fun e w' => e = .returned (.bool pv) ∧ Below W.heap.size W w' := by
    rw [hpv]
    exact (hq0 _ hwb).mono fun e w' ⟨h1, h2⟩ => ⟨h1, hwb.trans (h2.mono hwb.size)⟩
  have HQ := Lib.hid hq
  show Calls Tryz.prog 129 #[.agg #[.string a0, .string a1, .int .i64 a2], .pointer (some ⟨B, 0, none⟩)] W fun e w' => e = .returned (.bool (!p ⟨a0, a1, a2⟩)) ∧ Below W.heap.size W w'
  rw [← hpv]
  clear hq0 hq hpv hwb hp hb hW hB hBl hx
  go_enter Tryz.func129, Tryz.ntmps129
  go_wp2_with (go_at_fn g; refine HQ.out.mono ?_; rintro e w2 ⟨rfl, hb2⟩; have H2 := Lib.hid hb2; clear hb2)
  go_ret
  exact ⟨rfl, H2.out⟩
theorem all_rf (v : Value) (l : List Rf) (g : Nat) (lb : Array Value) (p : Rf → Bool) (w : World) (h : RowAt 3 vRf w v l) (hp : Tells g lb aRf p l w) (hn : l.length ≤ 1000000) :
    Calls Tryz.prog 90 #[v, .func (.func g) #[] lb] w fun e w' => e = .returned (.bool (l.all p)) ∧ Below w.heap.size w w' := by
  obtain ⟨W1, hW1⟩ : ∃ W1, W1 = w.alloc (.cells #[.func (.func g) #[] lb] 106) := ⟨_, rfl⟩
  have hb1 : Below w.heap.size w W1 := by rw [hW1]; exact (Below.refl _ _).alloc (Nat.le_refl _) _
  have k1 : BlkIs W1 w.heap.size 106 #[.func (.func g) #[] lb] := by rw [hW1]; exact BlkIs.new _ _ _
  have C := cf_rf v l 129 #[.pointer (some ⟨w.heap.size, 0, none⟩)] (fun x => !p x) W1 (h.later hb1) (all1_rf l g lb p w W1 hp hb1 w.heap.size k1.lt (k1.cell 0)) hn
  have hna := any_not_all p l
  obtain ⟨q, hq⟩ : ∃ q, q = l.any fun x => !p x := ⟨_, rfl⟩
  rw [← hq] at C hna
  rw [← hna]
  have C := Lib.hid C
  have HB := Lib.hid hb1
  have HW := Lib.hid hW1
  obtain ⟨ao, cap, rfl, -, -⟩ := h.form
  clear h hp hb1 k1 hW1 hq hna
  go_enter Tryz.func90, Tryz.ntmps90
  go_wp2_with fail
  rw [← HW.out]
  refine C.out.mono ?_
  rintro e w2 ⟨rfl, hb2⟩
  have H2 := Lib.hid (HB.out.trans (hb2.mono HB.out.size))
  clear C hb2
  go_wp2_with fail
  go_ret
  exact ⟨rfl, H2.out⟩
set_option maxRecDepth 100000 in
set_option maxHeartbeats 2000000 in
theorem ri_rf (v : Value) (l : List Rf) (g : Nat) (lb : Array Value) (p : Rf → Rf → Bool) (w : World) (h : RowAt 3 vRf w v l) (hp : Tells2 g lb aRf p l w) (hn : l.length ≤ 1000000) :
    Calls Tryz.prog 92 #[v, .func (.func g) #[] lb] w fun e w' => e = .returned (.bool (riseB p l)) ∧ Below w.heap.size w w' := by
  obtain ⟨ao, cap, rfl, hlc, hcm, hcell⟩ := h
  obtain ⟨n, hnn⟩ : ∃ n, n = l.length := ⟨_, rfl⟩
  rw [← hnn] at hn hlc ⊢
  have HL := Lib.hid hnn
  have HC := Lib.hid hcell
  have HP := Lib.hid hp.2
  have eg := hp.1
  clear hcell hnn hp
  go_enter Tryz.func92, Tryz.ntmps92
  go_wp2_with fail
  go_loopw [5] (fun i wr => ∃ t : Nat, i = .int .i64 ((t : Int) + 1) ∧ t ≤ n ∧ Hid (∀ i, i < t → ∀ (h : i + 1 < l.length), p l[i] l[i + 1] = true) ∧ Hid (Below w.heap.size w wr)) (fun i _ => n + 1 - (intOf i).toNat)
  case atStart => exact ⟨0, rfl, Nat.zero_le _, Lib.hid (fun i hi => absurd hi (Nat.not_lt_zero _)), Lib.hid (Below.refl _ _)⟩
  case round =>
    obtain ⟨t, rfl, htn, HM, HB⟩ := hrel
    rcases Nat.lt_or_ge (t + 1) n with htl | htg
    · have ti : (t : Int) + 1 < n := by omega
      have tk : (t : Int) < n := by omega
      have hwr : IntKind.i64.wrap (t : Int) = (t : Int) := IntWalk.i64_in _ (by omega)
      have hk1 : t < l.length := by rw [← HL.out]; omega
      have hk2 : t + 1 < l.length := by rw [← HL.out]; omega
      obtain ⟨b, off, rfl, hblt, hc⟩ := HC.out (by rw [← HL.out]; omega)
      have hbr : b < wr.heap.size := Nat.lt_of_lt_of_le hblt HB.out.size
      have hq := fun (X : LaterOf wr) => HP.out l[t] (List.getElem_mem hk1) l[t + 1] (List.getElem_mem hk2) X.w (HB.out.trans (X.h.mono HB.out.size))
      obtain ⟨pv, hpv⟩ : ∃ pv, pv = p l[t] l[t + 1] := ⟨_, rfl⟩
      have HV := Lib.hid hpv
      rw [← hpv] at hq
      obtain ⟨x, hx⟩ : ∃ x, x = l[t] := ⟨_, rfl⟩
      obtain ⟨y, hy⟩ : ∃ y, y = l[t + 1] := ⟨_, rfl⟩
      rw [← hx, ← hy] at hq
      obtain ⟨a0, a1, a2⟩ := x
      obtain ⟨b0, b1, b2⟩ := y
      have x0 : ∀ X : LaterOf wr, X.w.cell? ⟨b, off + t * 3, none⟩ = some (.string a0) := fun X => by
        have := hc t hk1 0 (.string a0) (by rw [← hx]; rfl)
        rw [X.h.cell hbr, HB.out.cell hblt]; simpa using this
      have y0 : ∀ X : LaterOf wr, X.w.cell? ⟨b, off + (t + 1) * 3, none⟩ = some (.string b0) := fun X => by
        have := hc (t + 1) hk2 0 (.string b0) (by rw [← hy]; rfl)
        rw [X.h.cell hbr, HB.out.cell hblt]; simpa using this
      have x1 : ∀ X : LaterOf wr, X.w.cell? ⟨b, off + t * 3 + 1, none⟩ = some (.string a1) := fun X => by
        have := hc t hk1 1 (.string a1) (by rw [← hx]; rfl)
        rw [X.h.cell hbr, HB.out.cell hblt]; simpa using this
      have y1 : ∀ X : LaterOf wr, X.w.cell? ⟨b, off + (t + 1) * 3 + 1, none⟩ = some (.string b1) := fun X => by
        have := hc (t + 1) hk2 1 (.string b1) (by rw [← hy]; rfl)
        rw [X.h.cell hbr, HB.out.cell hblt]; simpa using this
      have x2 : ∀ X : LaterOf wr, X.w.cell? ⟨b, off + t * 3 + 2, none⟩ = some (.int .i64 a2) := fun X => by
        have := hc t hk1 2 (.int .i64 a2) (by rw [← hx]; rfl)
        rw [X.h.cell hbr, HB.out.cell hblt]; simpa using this
      have y2 : ∀ X : LaterOf wr, X.w.cell? ⟨b, off + (t + 1) * 3 + 2, none⟩ = some (.int .i64 b2) := fun X => by
        have := hc (t + 1) hk2 2 (.int .i64 b2) (by rw [← hy]; rfl)
        rw [X.h.cell hbr, HB.out.cell hblt]; simpa using this
      have hq2 : ∀ X : LaterOf wr, Calls Tryz.prog g (#[.agg #[.string a0, .string a1, .int .i64 a2], .agg #[.string b0, .string b1, .int .i64 b2]] ++ lb) X.w fun e w' => e = .returned (.bool pv) ∧ Below X.w.heap.size X.w w' := hq
      have HQ := Lib.hid hq2
      clear hc hq hq2 hx hy hpv
      cases pv
      · go_wp2_with fail
        refine wp_region_all (fun w' => ∃ x : LaterOf wr, w' = x.w) (by kernel_rfl) (by kernel_rfl) ⟨LaterOf.start wr, rfl⟩ ?_
        repeat (go_big_quiet_step (exact LaterOf.call _ (HQ.out _)))
        refine wpQuiet_nil ?_
        intro w3 hw3
        obtain ⟨X, rfl⟩ := hw3
        have H3 := Lib.hid (HB.out.trans (X.h.mono HB.out.size))
        obtain ⟨w3, hx3⟩ := X
        go_wp2_with fail
        go_ret
        refine ⟨?_, H3.out⟩
        have : riseB p l = false := by
          cases hr : riseB p l
          · rfl
          · have := (riseB_iff p l).1 hr t (by rw [← HL.out]; exact htl)
            rw [← HV.out] at this; cases this
        rw [this]; rfl
      · go_wp2_with fail
        refine wp_region_all (fun w' => ∃ x : LaterOf wr, w' = x.w) (by kernel_rfl) (by kernel_rfl) ⟨LaterOf.start wr, rfl⟩ ?_
        repeat (go_big_quiet_step (exact LaterOf.call _ (HQ.out _)))
        refine wpQuiet_nil ?_
        intro w3 hw3
        obtain ⟨X, rfl⟩ := hw3
        have H3 := Lib.hid (HB.out.trans (X.h.mono HB.out.size))
        obtain ⟨w3, hx3⟩ := X
        go_wp2_with fail
        refine ⟨⟨t + 1, by simp, by omega, Lib.hid ?_, H3⟩, by simp [intOf]; omega⟩
        intro i hi h
        rcases Nat.lt_or_ge i t with hit | hit
        · exact HM.out i hit h
        · obtain rfl : i = t := by omega
          exact HV.out.symm
    · have ti : decide ((t : Int) + 1 < n) = false := decide_eq_false (by omega)
      go_wp2_with fail
      go_ret
      refine ⟨?_, HB.out⟩
      have : riseB p l = true := (riseB_iff p l).2 fun i h => HM.out i (by have := HL.out; omega) h
      rw [this]; rfl
set_option maxRecDepth 100000 in
theorem all1_tb (l : List TbR) (g : Nat) (lb : Array Value) (p : TbR → Bool) (w W1 : World) (hp : Tells g lb aTb p l w) (hb : Below w.heap.size w W1) (B : Nat) (hBl : B < W1.heap.size) (hB : W1.cell? ⟨B, 0, none⟩ = some (.func (.func g) #[] lb)) :
    Tells 132 #[.pointer (some ⟨B, 0, none⟩)] aTb (fun x => !p x) l W1 := by
  refine ⟨enters_of Tryz.func132 (by kernel_rfl) rfl, fun x hx W hW => ?_⟩
  have hq0 := fun W' (h : Below W.heap.size W W') => hp.2 x hx W' ((hb.trans (hW.mono hb.size)).trans (h.mono (Nat.le_trans hb.size hW.size)))
  have eg := hp.1
  have c0 : W.cell? ⟨B, 0, none⟩ = some (.func (.func g) #[] lb) := (hW.cell (p := ⟨B, 0, none⟩) hBl).trans hB
  have hBW : B < W.heap.size := Nat.lt_of_lt_of_le hBl hW.size
  obtain ⟨⟨a0, a1, a2, a5, a6⟩, a3, a4⟩ := x
  obtain ⟨pv, hpv⟩ : ∃ pv, pv = p ⟨⟨a0, a1, a2, a5, a6⟩, a3, a4⟩ := ⟨_, rfl⟩
  have hwb : Below W.heap.size W (W.alloc (.cells #[.int .i64 a0, .int .i64 a1, .string a2, a3, a4] 54)) := (Below.refl _ _).alloc (Nat.le_refl _) _
  have hq : Calls Tryz.prog g (#[.agg #[.int .i64 a0, .int .i64 a1, .string a2, a3, a4]] ++ lb) (W.alloc (.cells #[.int .i64 a0, .int .i64 a1, .string a2, a3, a4] 54)) fun e w' => e = .returned (.bool pv) ∧ Below W.heap.size W w' := by
    rw [hpv]
    exact (hq0 _ hwb).mono fun e w' ⟨h1, h2⟩ => ⟨h1, hwb.trans (h2.mono hwb.size)⟩
  have HQ := Lib.hid hq
  show Calls Tryz.prog 132 #[.agg #[.int .i64 a0, .int .i64 a1, .string a2, a3, a4], .pointer (some ⟨B, 0, none⟩)] W fun e w' => e = .returned (.bool (!p ⟨⟨a0, a1, a2, a5, a6⟩, a3, a4⟩)) ∧ Below W.heap.size W w'
  rw [← hpv]
  clear hq0 hq hpv hwb hp hb hW hB hBl hx
  go_enter Tryz.func132, Tryz.ntmps132
  go_wp2_with (go_at_fn g; refine HQ.out.mono ?_; rintro e w2 ⟨rfl, hb2⟩; have H2 := Lib.hid hb2; clear hb2)
  go_ret
  exact ⟨rfl, H2.out⟩
theorem all_tb (v : Value) (l : List TbR) (g : Nat) (lb : Array Value) (p : TbR → Bool) (w : World) (h : RowAt 5 vTb w v l) (hp : Tells g lb aTb p l w) (hn : l.length ≤ 1000000) :
    Calls Tryz.prog 93 #[v, .func (.func g) #[] lb] w fun e w' => e = .returned (.bool (l.all p)) ∧ Below w.heap.size w w' := by
  obtain ⟨W1, hW1⟩ : ∃ W1, W1 = w.alloc (.cells #[.func (.func g) #[] lb] 109) := ⟨_, rfl⟩
  have hb1 : Below w.heap.size w W1 := by rw [hW1]; exact (Below.refl _ _).alloc (Nat.le_refl _) _
  have k1 : BlkIs W1 w.heap.size 109 #[.func (.func g) #[] lb] := by rw [hW1]; exact BlkIs.new _ _ _
  have C := cf_tb v l 132 #[.pointer (some ⟨w.heap.size, 0, none⟩)] (fun x => !p x) W1 (h.later hb1) (all1_tb l g lb p w W1 hp hb1 w.heap.size k1.lt (k1.cell 0)) hn
  have hna := any_not_all p l
  obtain ⟨q, hq⟩ : ∃ q, q = l.any fun x => !p x := ⟨_, rfl⟩
  rw [← hq] at C hna
  rw [← hna]
  have C := Lib.hid C
  have HB := Lib.hid hb1
  have HW := Lib.hid hW1
  obtain ⟨ao, cap, rfl, -, -⟩ := h.form
  clear h hp hb1 k1 hW1 hq hna
  go_enter Tryz.func93, Tryz.ntmps93
  go_wp2_with fail
  rw [← HW.out]
  refine C.out.mono ?_
  rintro e w2 ⟨rfl, hb2⟩
  have H2 := Lib.hid (HB.out.trans (hb2.mono HB.out.size))
  clear C hb2
  go_wp2_with fail
  go_ret
  exact ⟨rfl, H2.out⟩
set_option maxRecDepth 100000 in
set_option maxHeartbeats 2000000 in
theorem ri_tb (v : Value) (l : List TbR) (g : Nat) (lb : Array Value) (p : TbR → TbR → Bool) (w : World) (h : RowAt 5 vTb w v l) (hp : Tells2 g lb aTb p l w) (hn : l.length ≤ 1000000) :
    Calls Tryz.prog 95 #[v, .func (.func g) #[] lb] w fun e w' => e = .returned (.bool (riseB p l)) ∧ Below w.heap.size w w' := by
  obtain ⟨ao, cap, rfl, hlc, hcm, hcell⟩ := h
  obtain ⟨n, hnn⟩ : ∃ n, n = l.length := ⟨_, rfl⟩
  rw [← hnn] at hn hlc ⊢
  have HL := Lib.hid hnn
  have HC := Lib.hid hcell
  have HP := Lib.hid hp.2
  have eg := hp.1
  clear hcell hnn hp
  go_enter Tryz.func95, Tryz.ntmps95
  go_wp2_with fail
  go_loopw [5] (fun i wr => ∃ t : Nat, i = .int .i64 ((t : Int) + 1) ∧ t ≤ n ∧ Hid (∀ i, i < t → ∀ (h : i + 1 < l.length), p l[i] l[i + 1] = true) ∧ Hid (Below w.heap.size w wr)) (fun i _ => n + 1 - (intOf i).toNat)
  case atStart => exact ⟨0, rfl, Nat.zero_le _, Lib.hid (fun i hi => absurd hi (Nat.not_lt_zero _)), Lib.hid (Below.refl _ _)⟩
  case round =>
    obtain ⟨t, rfl, htn, HM, HB⟩ := hrel
    rcases Nat.lt_or_ge (t + 1) n with htl | htg
    · have ti : (t : Int) + 1 < n := by omega
      have tk : (t : Int) < n := by omega
      have hwr : IntKind.i64.wrap (t : Int) = (t : Int) := IntWalk.i64_in _ (by omega)
      have hk1 : t < l.length := by rw [← HL.out]; omega
      have hk2 : t + 1 < l.length := by rw [← HL.out]; omega
      obtain ⟨b, off, rfl, hblt, hc⟩ := HC.out (by rw [← HL.out]; omega)
      have hbr : b < wr.heap.size := Nat.lt_of_lt_of_le hblt HB.out.size
      have hq := fun (X : LaterOf wr) => HP.out l[t] (List.getElem_mem hk1) l[t + 1] (List.getElem_mem hk2) X.w (HB.out.trans (X.h.mono HB.out.size))
      obtain ⟨pv, hpv⟩ : ∃ pv, pv = p l[t] l[t + 1] := ⟨_, rfl⟩
      have HV := Lib.hid hpv
      rw [← hpv] at hq
      obtain ⟨x, hx⟩ : ∃ x, x = l[t] := ⟨_, rfl⟩
      obtain ⟨y, hy⟩ : ∃ y, y = l[t + 1] := ⟨_, rfl⟩
      rw [← hx, ← hy] at hq
      obtain ⟨⟨a0, a1, a2, a5, a6⟩, a3, a4⟩ := x
      obtain ⟨⟨b0, b1, b2, b5, b6⟩, b3, b4⟩ := y
      have x0 : ∀ X : LaterOf wr, X.w.cell? ⟨b, off + t * 5, none⟩ = some (.int .i64 a0) := fun X => by
        have := hc t hk1 0 (.int .i64 a0) (by rw [← hx]; rfl)
        rw [X.h.cell hbr, HB.out.cell hblt]; simpa using this
      have y0 : ∀ X : LaterOf wr, X.w.cell? ⟨b, off + (t + 1) * 5, none⟩ = some (.int .i64 b0) := fun X => by
        have := hc (t + 1) hk2 0 (.int .i64 b0) (by rw [← hy]; rfl)
        rw [X.h.cell hbr, HB.out.cell hblt]; simpa using this
      have x1 : ∀ X : LaterOf wr, X.w.cell? ⟨b, off + t * 5 + 1, none⟩ = some (.int .i64 a1) := fun X => by
        have := hc t hk1 1 (.int .i64 a1) (by rw [← hx]; rfl)
        rw [X.h.cell hbr, HB.out.cell hblt]; simpa using this
      have y1 : ∀ X : LaterOf wr, X.w.cell? ⟨b, off + (t + 1) * 5 + 1, none⟩ = some (.int .i64 b1) := fun X => by
        have := hc (t + 1) hk2 1 (.int .i64 b1) (by rw [← hy]; rfl)
        rw [X.h.cell hbr, HB.out.cell hblt]; simpa using this
      have x2 : ∀ X : LaterOf wr, X.w.cell? ⟨b, off + t * 5 + 2, none⟩ = some (.string a2) := fun X => by
        have := hc t hk1 2 (.string a2) (by rw [← hx]; rfl)
        rw [X.h.cell hbr, HB.out.cell hblt]; simpa using this
      have y2 : ∀ X : LaterOf wr, X.w.cell? ⟨b, off + (t + 1) * 5 + 2, none⟩ = some (.string b2) := fun X => by
        have := hc (t + 1) hk2 2 (.string b2) (by rw [← hy]; rfl)
        rw [X.h.cell hbr, HB.out.cell hblt]; simpa using this
      have x3 : ∀ X : LaterOf wr, X.w.cell? ⟨b, off + t * 5 + 3, none⟩ = some (a3) := fun X => by
        have := hc t hk1 3 (a3) (by rw [← hx]; rfl)
        rw [X.h.cell hbr, HB.out.cell hblt]; simpa using this
      have y3 : ∀ X : LaterOf wr, X.w.cell? ⟨b, off + (t + 1) * 5 + 3, none⟩ = some (b3) := fun X => by
        have := hc (t + 1) hk2 3 (b3) (by rw [← hy]; rfl)
        rw [X.h.cell hbr, HB.out.cell hblt]; simpa using this
      have x4 : ∀ X : LaterOf wr, X.w.cell? ⟨b, off + t * 5 + 4, none⟩ = some (a4) := fun X => by
        have := hc t hk1 4 (a4) (by rw [← hx]; rfl)
        rw [X.h.cell hbr, HB.out.cell hblt]; simpa using this
      have y4 : ∀ X : LaterOf wr, X.w.cell? ⟨b, off + (t + 1) * 5 + 4, none⟩ = some (b4) := fun X => by
        have := hc (t + 1) hk2 4 (b4) (by rw [← hy]; rfl)
        rw [X.h.cell hbr, HB.out.cell hblt]; simpa using this
      have hq2 : ∀ X : LaterOf wr, Calls Tryz.prog g (#[.agg #[.int .i64 a0, .int .i64 a1, .string a2, a3, a4], .agg #[.int .i64 b0, .int .i64 b1, .string b2, b3, b4]] ++ lb) X.w fun e w' => e = .returned (.bool pv) ∧ Below X.w.heap.size X.w w' := hq
      have HQ := Lib.hid hq2
      clear hc hq hq2 hx hy hpv
      cases pv
      · go_wp2_with fail
        refine wp_region_all (fun w' => ∃ x : LaterOf wr, w' = x.w) (by kernel_rfl) (by kernel_rfl) ⟨LaterOf.start wr, rfl⟩ ?_
        repeat (go_big_quiet_step (exact LaterOf.call _ (HQ.out _)))
        refine wpQuiet_nil ?_
        intro w3 hw3
        obtain ⟨X, rfl⟩ := hw3
        have H3 := Lib.hid (HB.out.trans (X.h.mono HB.out.size))
        obtain ⟨w3, hx3⟩ := X
        go_wp2_with fail
        go_ret
        refine ⟨?_, H3.out⟩
        have : riseB p l = false := by
          cases hr : riseB p l
          · rfl
          · have := (riseB_iff p l).1 hr t (by rw [← HL.out]; exact htl)
            rw [← HV.out] at this; cases this
        rw [this]; rfl
      · go_wp2_with fail
        refine wp_region_all (fun w' => ∃ x : LaterOf wr, w' = x.w) (by kernel_rfl) (by kernel_rfl) ⟨LaterOf.start wr, rfl⟩ ?_
        repeat (go_big_quiet_step (exact LaterOf.call _ (HQ.out _)))
        refine wpQuiet_nil ?_
        intro w3 hw3
        obtain ⟨X, rfl⟩ := hw3
        have H3 := Lib.hid (HB.out.trans (X.h.mono HB.out.size))
        obtain ⟨w3, hx3⟩ := X
        go_wp2_with fail
        refine ⟨⟨t + 1, by simp, by omega, Lib.hid ?_, H3⟩, by simp [intOf]; omega⟩
        intro i hi h
        rcases Nat.lt_or_ge i t with hit | hit
        · exact HM.out i hit h
        · obtain rfl : i = t := by omega
          exact HV.out.symm
    · have ti : decide ((t : Int) + 1 < n) = false := decide_eq_false (by omega)
      go_wp2_with fail
      go_ret
      refine ⟨?_, HB.out⟩
      have : riseB p l = true := (riseB_iff p l).2 fun i h => HM.out i (by have := HL.out; omega) h
      rw [this]; rfl
set_option maxRecDepth 100000 in
theorem all1_int (l : List Int) (g : Nat) (lb : Array Value) (p : Int → Bool) (w W1 : World) (hp : Tells g lb aInt p l w) (hb : Below w.heap.size w W1) (B : Nat) (hBl : B < W1.heap.size) (hB : W1.cell? ⟨B, 0, none⟩ = some (.func (.func g) #[] lb)) :
    Tells 167 #[.pointer (some ⟨B, 0, none⟩)] aInt (fun x => !p x) l W1 := by
  refine ⟨enters_of Tryz.func167 (by kernel_rfl) rfl, fun a0 hx W hW => ?_⟩
  have hq0 := fun W' (h : Below W.heap.size W W') => hp.2 a0 hx W' ((hb.trans (hW.mono hb.size)).trans (h.mono (Nat.le_trans hb.size hW.size)))
  have eg := hp.1
  have c0 : W.cell? ⟨B, 0, none⟩ = some (.func (.func g) #[] lb) := (hW.cell (p := ⟨B, 0, none⟩) hBl).trans hB
  have hBW : B < W.heap.size := Nat.lt_of_lt_of_le hBl hW.size
  obtain ⟨pv, hpv⟩ : ∃ pv, pv = p a0 := ⟨_, rfl⟩
  have hwb : Below W.heap.size W W := Below.refl _ _
  have hq : Calls Tryz.prog g (#[.int .i64 a0] ++ lb) W fun e w' => e = .returned (.bool pv) ∧ Below W.heap.size W w' := by
    rw [hpv]
    exact (hq0 _ hwb).mono fun e w' ⟨h1, h2⟩ => ⟨h1, hwb.trans (h2.mono hwb.size)⟩
  have HQ := Lib.hid hq
  show Calls Tryz.prog 167 #[.int .i64 a0, .pointer (some ⟨B, 0, none⟩)] W fun e w' => e = .returned (.bool (!p a0)) ∧ Below W.heap.size W w'
  rw [← hpv]
  clear hq0 hq hpv hwb hp hb hW hB hBl hx
  go_enter Tryz.func167, Tryz.ntmps167
  go_wp2_with (go_at_fn g; refine HQ.out.mono ?_; rintro e w2 ⟨rfl, hb2⟩; have H2 := Lib.hid hb2; clear hb2)
  go_ret
  exact ⟨rfl, H2.out⟩
theorem all_int (v : Value) (l : List Int) (g : Nat) (lb : Array Value) (p : Int → Bool) (w : World) (h : RowAt 1 vInt w v l) (hp : Tells g lb aInt p l w) (hn : l.length ≤ 1000000) :
    Calls Tryz.prog 138 #[v, .func (.func g) #[] lb] w fun e w' => e = .returned (.bool (l.all p)) ∧ Below w.heap.size w w' := by
  obtain ⟨W1, hW1⟩ : ∃ W1, W1 = w.alloc (.cells #[.func (.func g) #[] lb] 143) := ⟨_, rfl⟩
  have hb1 : Below w.heap.size w W1 := by rw [hW1]; exact (Below.refl _ _).alloc (Nat.le_refl _) _
  have k1 : BlkIs W1 w.heap.size 143 #[.func (.func g) #[] lb] := by rw [hW1]; exact BlkIs.new _ _ _
  have C := cf_int v l 167 #[.pointer (some ⟨w.heap.size, 0, none⟩)] (fun x => !p x) W1 (h.later hb1) (all1_int l g lb p w W1 hp hb1 w.heap.size k1.lt (k1.cell 0)) hn
  have hna := any_not_all p l
  obtain ⟨q, hq⟩ : ∃ q, q = l.any fun x => !p x := ⟨_, rfl⟩
  rw [← hq] at C hna
  rw [← hna]
  have C := Lib.hid C
  have HB := Lib.hid hb1
  have HW := Lib.hid hW1
  obtain ⟨ao, cap, rfl, -, -⟩ := h.form
  clear h hp hb1 k1 hW1 hq hna
  go_enter Tryz.func138, Tryz.ntmps138
  go_wp2_with fail
  rw [← HW.out]
  refine C.out.mono ?_
  rintro e w2 ⟨rfl, hb2⟩
  have H2 := Lib.hid (HB.out.trans (hb2.mono HB.out.size))
  clear C hb2
  go_wp2_with fail
  go_ret
  exact ⟨rfl, H2.out⟩
set_option maxRecDepth 100000 in
set_option maxHeartbeats 2000000 in
theorem ri_int (v : Value) (l : List Int) (g : Nat) (lb : Array Value) (p : Int → Int → Bool) (w : World) (h : RowAt 1 vInt w v l) (hp : Tells2 g lb aInt p l w) (hn : l.length ≤ 1000000) :
    Calls Tryz.prog 139 #[v, .func (.func g) #[] lb] w fun e w' => e = .returned (.bool (riseB p l)) ∧ Below w.heap.size w w' := by
  obtain ⟨ao, cap, rfl, hlc, hcm, hcell⟩ := h
  obtain ⟨n, hnn⟩ : ∃ n, n = l.length := ⟨_, rfl⟩
  rw [← hnn] at hn hlc ⊢
  have HL := Lib.hid hnn
  have HC := Lib.hid hcell
  have HP := Lib.hid hp.2
  have eg := hp.1
  clear hcell hnn hp
  go_enter Tryz.func139, Tryz.ntmps139
  go_wp2_with fail
  go_loopw [5] (fun i wr => ∃ t : Nat, i = .int .i64 ((t : Int) + 1) ∧ t ≤ n ∧ Hid (∀ i, i < t → ∀ (h : i + 1 < l.length), p l[i] l[i + 1] = true) ∧ Hid (Below w.heap.size w wr)) (fun i _ => n + 1 - (intOf i).toNat)
  case atStart => exact ⟨0, rfl, Nat.zero_le _, Lib.hid (fun i hi => absurd hi (Nat.not_lt_zero _)), Lib.hid (Below.refl _ _)⟩
  case round =>
    obtain ⟨t, rfl, htn, HM, HB⟩ := hrel
    rcases Nat.lt_or_ge (t + 1) n with htl | htg
    · have ti : (t : Int) + 1 < n := by omega
      have tk : (t : Int) < n := by omega
      have hwr : IntKind.i64.wrap (t : Int) = (t : Int) := IntWalk.i64_in _ (by omega)
      have hk1 : t < l.length := by rw [← HL.out]; omega
      have hk2 : t + 1 < l.length := by rw [← HL.out]; omega
      obtain ⟨b, off, rfl, hblt, hc⟩ := HC.out (by rw [← HL.out]; omega)
      have hbr : b < wr.heap.size := Nat.lt_of_lt_of_le hblt HB.out.size
      have hq := fun (X : LaterOf wr) => HP.out l[t] (List.getElem_mem hk1) l[t + 1] (List.getElem_mem hk2) X.w (HB.out.trans (X.h.mono HB.out.size))
      obtain ⟨pv, hpv⟩ : ∃ pv, pv = p l[t] l[t + 1] := ⟨_, rfl⟩
      have HV := Lib.hid hpv
      rw [← hpv] at hq
      obtain ⟨a0, hx⟩ : ∃ x, x = l[t] := ⟨_, rfl⟩
      obtain ⟨b0, hy⟩ : ∃ y, y = l[t + 1] := ⟨_, rfl⟩
      rw [← hx, ← hy] at hq
      have x0 : ∀ X : LaterOf wr, X.w.cell? ⟨b, off + t, none⟩ = some (.int .i64 a0) := fun X => by
        have := hc t hk1 0 (.int .i64 a0) (by rw [← hx]; rfl)
        rw [X.h.cell hbr, HB.out.cell hblt]; simpa using this
      have y0 : ∀ X : LaterOf wr, X.w.cell? ⟨b, off + (t + 1), none⟩ = some (.int .i64 b0) := fun X => by
        have := hc (t + 1) hk2 0 (.int .i64 b0) (by rw [← hy]; rfl)
        rw [X.h.cell hbr, HB.out.cell hblt]; simpa using this
      have hq2 : ∀ X : LaterOf wr, Calls Tryz.prog g (#[.int .i64 a0, .int .i64 b0] ++ lb) X.w fun e w' => e = .returned (.bool pv) ∧ Below X.w.heap.size X.w w' := hq
      have HQ := Lib.hid hq2
      clear hc hq hq2 hx hy hpv
      cases pv
      · go_wp2_with fail
        refine wp_region_all (fun w' => ∃ x : LaterOf wr, w' = x.w) (by kernel_rfl) (by kernel_rfl) ⟨LaterOf.start wr, rfl⟩ ?_
        repeat (go_big_quiet_step (exact LaterOf.call _ (HQ.out _)))
        refine wpQuiet_nil ?_
        intro w3 hw3
        obtain ⟨X, rfl⟩ := hw3
        have H3 := Lib.hid (HB.out.trans (X.h.mono HB.out.size))
        obtain ⟨w3, hx3⟩ := X
        go_wp2_with fail
        go_ret
        refine ⟨?_, H3.out⟩
        have : riseB p l = false := by
          cases hr : riseB p l
          · rfl
          · have := (riseB_iff p l).1 hr t (by rw [← HL.out]; exact htl)
            rw [← HV.out] at this; cases this
        rw [this]; rfl
      · go_wp2_with fail
        refine wp_region_all (fun w' => ∃ x : LaterOf wr, w' = x.w) (by kernel_rfl) (by kernel_rfl) ⟨LaterOf.start wr, rfl⟩ ?_
        repeat (go_big_quiet_step (exact LaterOf.call _ (HQ.out _)))
        refine wpQuiet_nil ?_
        intro w3 hw3
        obtain ⟨X, rfl⟩ := hw3
        have H3 := Lib.hid (HB.out.trans (X.h.mono HB.out.size))
        obtain ⟨w3, hx3⟩ := X
        go_wp2_with fail
        refine ⟨⟨t + 1, by simp, by omega, Lib.hid ?_, H3⟩, by simp [intOf]; omega⟩
        intro i hi h
        rcases Nat.lt_or_ge i t with hit | hit
        · exact HM.out i hit h
        · obtain rfl : i = t := by omega
          exact HV.out.symm
    · have ti : decide ((t : Int) + 1 < n) = false := decide_eq_false (by omega)
      go_wp2_with fail
      go_ret
      refine ⟨?_, HB.out⟩
      have : riseB p l = true := (riseB_iff p l).2 fun i h => HM.out i (by have := HL.out; omega) h
      rw [this]; rfl
end Go.Proofs.YtljenganlknhbaaGreat.Mk
