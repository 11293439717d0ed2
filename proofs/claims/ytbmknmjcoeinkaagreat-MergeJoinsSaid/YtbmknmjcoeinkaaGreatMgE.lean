/- Several texts in one. (Layer 12.) -/
import Derived.Test.YtbmknmjcoeinkaaGreatMk3
import Derived.Test.YtbmknmjcoeinkaaGreatMgA
import Derived.Test.YtbmknmjcoeinkaaGreatMgD
import Derived.Laws.EntriesVeiled
/- merge.in, walked: at refs, tokens, numbers and tombs. Printed by gen_in.py. (Layer 13.) -/
namespace Go.Proofs.YtbmknmjcoeinkaaGreat.Mg
set_option linter.unusedVariables false
open Go.RowKit Go.Lib
open Mk (Rf Tok Tb TbR aTb aRf aTok aInt vRf vTok vTb vInt Tells cf_rf cf_tok cf_tb cf_int take_snoc')
theorem ret_b' {a b : Bool} (h : a = b) : Ending.returned (.bool a) = .returned (.bool b) := by rw [h]
theorem all_no {α : Type} {a b : List α} {p : α → α → Bool} {k : Nat} (hk : k < a.length) (h : b.any (p a[k]) = false) : (a.all fun x => b.any (p x)) = false := by
  rw [List.all_eq_false]
  exact ⟨a[k], List.getElem_mem hk, by rw [h]; simp⟩
theorem all_yes {α : Type} {a b : List α} {p : α → α → Bool} (h : ∀ x ∈ a, b.any (p x) = true) : (a.all fun x => b.any (p x)) = true := by
  rw [List.all_eq_true]
  exact h
/-- A function value that tells p of two things. -/
def Tells12 {α : Type} (g : Nat) (lb : Array Value) (enc : α → Value) (p : α → α → Bool) (a b : List α) (w : World) : Prop :=
  (∀ args w, (callFunc g args).run Tryz.prog w = .ok (.enter g args) w) ∧ ∀ x ∈ a, ∀ y ∈ b, ∀ W, Below w.heap.size w W → Calls Tryz.prog g (#[enc x, enc y] ++ lb) W fun e w' => e = .returned (.bool (p x y)) ∧ Below W.heap.size W w'
set_option maxRecDepth 100000 in
theorem in1_rf (x : Rf) (m : List Rf) (g : Nat) (lb : Array Value) (p : Rf → Rf → Bool) (W1 : World) (g5 g8 : Nat) (h5l : g5 < W1.heap.size) (h5 : W1.cell? ⟨g5, 0, none⟩ = some (.func (.func g) #[] lb)) (h8l : g8 < W1.heap.size) (h80 : W1.cell? ⟨g8, 0, none⟩ = some (.string x.name)) (h81 : W1.cell? ⟨g8, 1, none⟩ = some (.string x.id)) (h82 : W1.cell? ⟨g8, 2, none⟩ = some (.int .i64 x.h)) (T : Tells12 g lb aRf p [x] m W1) :
    Tells 83 #[.pointer (some ⟨g5, 0, none⟩), .pointer (some ⟨g8, 0, none⟩)] aRf (p x) m W1 := by
  refine ⟨enters_of Tryz.func83 (by kernel_rfl) rfl, fun y hy W hW => ?_⟩
  have hq0 := fun W' (h : Below W.heap.size W W') => T.2 x (List.mem_singleton.2 rfl) y hy W' (hW.trans (h.mono hW.size))
  have eg := T.1
  have c0 : W.cell? ⟨g5, 0, none⟩ = some (.func (.func g) #[] lb) := (hW.cell (p := ⟨g5, 0, none⟩) h5l).trans h5
  have c80 : W.cell? ⟨g8, 0, none⟩ = some (.string x.name) := (hW.cell (p := ⟨g8, 0, none⟩) h8l).trans h80
  have c81 : W.cell? ⟨g8, 1, none⟩ = some (.string x.id) := (hW.cell (p := ⟨g8, 1, none⟩) h8l).trans h81
  have c82 : W.cell? ⟨g8, 2, none⟩ = some (.int .i64 x.h) := (hW.cell (p := ⟨g8, 2, none⟩) h8l).trans h82
  have l5 : g5 < W.heap.size := Nat.lt_of_lt_of_le h5l hW.size
  have l8 : g8 < W.heap.size := Nat.lt_of_lt_of_le h8l hW.size
  obtain ⟨pv, hpv⟩ : ∃ pv, pv = p x y := ⟨_, rfl⟩
  have hwb : Below W.heap.size W (W.alloc (.cells #[.string y.name, .string y.id, .int .i64 y.h] 49)) := (Below.refl _ _).alloc (Nat.le_refl _) _
  have hq : Calls Tryz.prog g (#[.agg #[.string x.name, .string x.id, .int .i64 x.h], .agg #[.string y.name, .string y.id, .int .i64 y.h]] ++ lb) (W.alloc (.cells #[.string y.name, .string y.id, .int .i64 y.h] 49)) fun e w' => e = .returned (.bool pv) ∧ Below W.heap.size W w' := by
    rw [hpv]
    exact (hq0 _ hwb).mono fun e w' ⟨h1, h2⟩ => ⟨h1, hwb.trans (h2.mono hwb.size)⟩
  have HQ := Lib.hid hq
  show Calls Tryz.prog 83 #[.agg #[.string y.name, .string y.id, .int .i64 y.h], .pointer (some ⟨g5, 0, none⟩), .pointer (some ⟨g8, 0, none⟩)] W fun e w' => e = .returned (.bool (p x y)) ∧ Below W.heap.size W w'
  rw [← hpv]
  clear hq0 hq hpv T hW h5l h8l h5 h80 h81 h82 hy hwb
  go_enter Tryz.func83, Tryz.ntmps83
  go_wp2_with (go_at_fn g; refine HQ.out.mono ?_; rintro e w2 ⟨rfl, hb2⟩; have H2 := Lib.hid hb2; clear hb2)
  go_ret
  exact ⟨rfl, H2.out⟩
set_option maxRecDepth 100000 in
set_option maxHeartbeats 2000000 in
theorem in_rf (av bv : Value) (a b : List Rf) (g : Nat) (lb : Array Value) (p : Rf → Rf → Bool) (w : World) (ha : RowAt 3 vRf w av a) (hb : RowAt 3 vRf w bv b) (T : Tells12 g lb aRf p a b w) (hn : a.length ≤ 1000000) (hm : b.length ≤ 1000000) :
    Calls Tryz.prog 38 #[av, bv, .func (.func g) #[] lb] w fun e w' => e = .returned (.bool (a.all fun x => b.any (p x))) ∧ Below w.heap.size w w' := by
  obtain ⟨W1, hW1⟩ : ∃ W1, W1 = w.alloc (.cells #[.func (.func g) #[] lb] 61) := ⟨_, rfl⟩
  obtain ⟨B, hB⟩ : ∃ B, B = w.heap.size := ⟨_, rfl⟩
  have hb1 : Below w.heap.size w W1 := by rw [hW1]; exact (Below.refl _ _).alloc (Nat.le_refl _) _
  have k1 : BlkIs W1 B 61 #[.func (.func g) #[] lb] := by rw [hW1, hB]; exact BlkIs.new _ _ _
  have HB1 := Lib.hid (And.intro hb1 k1)
  have HA := Lib.hid ha
  have HT := Lib.hid T
  have CF := Lib.hid (fun (x : Rf) (W : World) (g8 : Nat) (hW : Below W1.heap.size W1 W) (h : Tells 83 #[.pointer (some ⟨B, 0, none⟩), .pointer (some ⟨g8, 0, none⟩)] aRf (p x) b W) =>
    cf_rf bv b 83 #[.pointer (some ⟨B, 0, none⟩), .pointer (some ⟨g8, 0, none⟩)] (p x) W (hb.later (hb1.trans (hW.mono hb1.size))) h hm)
  obtain ⟨q, hq⟩ : ∃ q, q = a.all fun x => b.any (p x) := ⟨_, rfl⟩
  rw [← hq]
  have HQ := Lib.hid hq
  obtain ⟨ao, ac, rfl, -, -⟩ := ha.form
  obtain ⟨bo, bc, rfl, -, -⟩ := hb.form
  obtain ⟨n, hnn⟩ : ∃ n, n = a.length := ⟨_, rfl⟩
  obtain ⟨m, hmm⟩ : ∃ m, m = b.length := ⟨_, rfl⟩
  rw [← hnn] at HA hn ⊢
  rw [← hmm] at CF ⊢
  have HN := Lib.hid hnn
  have HW := Lib.hid (And.intro hW1 hB)
  clear ha hb hb1 k1 T hW1 hB hq hnn hmm hm
  go_enter Tryz.func38, Tryz.ntmps38
  go_upto_region 1 with (fail)
  rw [← HW.out.1, ← HW.out.2]
  go_wp2_with fail
  go_loopw [11] (fun i wr => ∃ k : Nat, i = .int .i64 (k : Int) ∧ k ≤ n ∧ Hid (∀ x ∈ a.take k, b.any (p x) = true) ∧ Hid (Below W1.heap.size W1 wr)) (fun i _ => ((n : Int) - intOf i).toNat)
  case atStart => exact ⟨0, rfl, Nat.zero_le _, Lib.hid (fun x hx => by simp at hx), Lib.hid (Below.refl _ _)⟩
  case round =>
    obtain ⟨k, rfl, hkn, HM, HL⟩ := hrel
    rcases Nat.lt_or_ge k n with hlt | hge
    · have ki : (k : Int) < n := by omega
      have kw : IntKind.i64.wrap ((k : Int) + 1) = ((k + 1 : Nat) : Int) := IntWalk.i64_in _ (by omega)
      have hka : k < a.length := by have := HN.out; omega
      obtain ⟨go, off, hag, hgl, hc⟩ := ((HA.out.later HB1.out.1).later HL.out).at_ (by omega)
      subst hag
      obtain ⟨x, hx⟩ : ∃ x, x = a[k] := ⟨_, rfl⟩
      have u0 : wr.cell? ⟨go, off + k * 3, none⟩ = some (.string x.name) := by rw [hx]; exact hc k hka 0 _ rfl
      have u1 : wr.cell? ⟨go, off + k * 3 + 1, none⟩ = some (.string x.id) := by rw [hx]; exact hc k hka 1 _ rfl
      have u2 : wr.cell? ⟨go, off + k * 3 + 2, none⟩ = some (.int .i64 x.h) := by rw [hx]; exact hc k hka 2 _ rfl
      have HX := Lib.hid hx
      obtain ⟨W3, hW3⟩ : ∃ W3, W3 = wr.alloc (.cells #[.string x.name, .string x.id, .int .i64 x.h] 49) := ⟨_, rfl⟩
      obtain ⟨G, hG⟩ : ∃ G, G = wr.heap.size := ⟨_, rfl⟩
      have hb3 : Below wr.heap.size wr W3 := by rw [hW3]; exact (Below.refl _ _).alloc (Nat.le_refl _) _
      have k3 : BlkIs W3 G 49 #[.string x.name, .string x.id, .int .i64 x.h] := by rw [hW3, hG]; exact BlkIs.new _ _ _
      have kB : BlkIs W3 B 61 #[.func (.func g) #[] lb] := BlkIs.below (BlkIs.below HB1.out.2 HL.out HB1.out.2.lt) hb3 (Nat.lt_of_lt_of_le HB1.out.2.lt HL.out.size)
      have hW13 : Below W1.heap.size W1 W3 := HL.out.trans (hb3.mono HL.out.size)
      have C := CF.out x W3 G hW13 (in1_rf x b g lb p W3 B G kB.lt (kB.cell 0) k3.lt (k3.cell 0) (k3.cell 1) (k3.cell 2) ⟨HT.out.1, fun z hz y hy W hW => by
        rcases List.mem_singleton.1 hz with rfl
        exact HT.out.2 z (by rw [hx]; exact List.getElem_mem hka) y hy W ((HB1.out.1.trans (hW13.mono HB1.out.1.size)).trans (hW.mono (Nat.le_trans HB1.out.1.size hW13.size)))⟩)
      obtain ⟨q2, hq2⟩ : ∃ q2, q2 = b.any (p x) := ⟨_, rfl⟩
      rw [← hq2] at C
      have C := Lib.hid C
      have H3 := Lib.hid (And.intro hW13 hq2)
      have HW3 := Lib.hid (And.intro hW3 hG)
      clear hx hc hgl hW3 hG hb3 k3 kB hW13 hq2
      go_upto_region 4 with (fail)
      rw [← HW3.out.1, ← HW3.out.2]
      clear u0 u1 u2
      go_wp2_with fail
      refine C.out.mono ?_
      rintro e w4 ⟨rfl, hb4⟩
      have H4 := Lib.hid (H3.out.1.trans (hb4.mono H3.out.1.size))
      clear C hb4
      cases q2 with
      | false =>
        go_wp2_with fail
        go_ret
        exact ⟨ret_b' (by rw [HQ.out]; symm; exact all_no hka (by rw [← HX.out]; exact H3.out.2.symm)), HB1.out.1.trans (H4.out.mono HB1.out.1.size)⟩
      | true =>
        go_wp2_with fail
        exact ⟨⟨k + 1, by simp, by omega, Lib.hid (fun z hz => by
          rw [take_snoc' hka] at hz
          rcases List.mem_append.1 hz with hz | hz
          · exact HM.out z hz
          · rw [List.mem_singleton.1 hz, ← HX.out]; exact H3.out.2.symm), H4⟩, by simp [intOf]; omega⟩
    · have ki : ¬ ((k : Int) < n) := by omega
      have ki2 : decide ((k : Int) < n) = false := decide_eq_false ki
      obtain rfl : k = n := Nat.le_antisymm hkn hge
      clear ki
      go_wp2_with fail
      go_ret
      have h1 := HM.out
      rw [HN.out, List.take_length] at h1
      exact ⟨ret_b' (by rw [HQ.out]; symm; exact all_yes h1), HB1.out.1.trans (HL.out.mono HB1.out.1.size)⟩
set_option maxRecDepth 100000 in
theorem in1_tok (x : Tok) (m : List Tok) (g : Nat) (lb : Array Value) (p : Tok → Tok → Bool) (W1 : World) (g5 g8 : Nat) (h5l : g5 < W1.heap.size) (h5 : W1.cell? ⟨g5, 0, none⟩ = some (.func (.func g) #[] lb)) (h8l : g8 < W1.heap.size) (h80 : W1.cell? ⟨g8, 0, none⟩ = some (.int .i64 x.node)) (h81 : W1.cell? ⟨g8, 1, none⟩ = some (.int .i64 x.n)) (h82 : W1.cell? ⟨g8, 2, none⟩ = some (.string x.id)) (T : Tells12 g lb aTok p [x] m W1) :
    Tells 85 #[.pointer (some ⟨g5, 0, none⟩), .pointer (some ⟨g8, 0, none⟩)] aTok (p x) m W1 := by
  refine ⟨enters_of Tryz.func85 (by kernel_rfl) rfl, fun y hy W hW => ?_⟩
  have hq0 := fun W' (h : Below W.heap.size W W') => T.2 x (List.mem_singleton.2 rfl) y hy W' (hW.trans (h.mono hW.size))
  have eg := T.1
  have c0 : W.cell? ⟨g5, 0, none⟩ = some (.func (.func g) #[] lb) := (hW.cell (p := ⟨g5, 0, none⟩) h5l).trans h5
  have c80 : W.cell? ⟨g8, 0, none⟩ = some (.int .i64 x.node) := (hW.cell (p := ⟨g8, 0, none⟩) h8l).trans h80
  have c81 : W.cell? ⟨g8, 1, none⟩ = some (.int .i64 x.n) := (hW.cell (p := ⟨g8, 1, none⟩) h8l).trans h81
  have c82 : W.cell? ⟨g8, 2, none⟩ = some (.string x.id) := (hW.cell (p := ⟨g8, 2, none⟩) h8l).trans h82
  have l5 : g5 < W.heap.size := Nat.lt_of_lt_of_le h5l hW.size
  have l8 : g8 < W.heap.size := Nat.lt_of_lt_of_le h8l hW.size
  obtain ⟨pv, hpv⟩ : ∃ pv, pv = p x y := ⟨_, rfl⟩
  have hwb : Below W.heap.size W (W.alloc (.cells #[.int .i64 y.node, .int .i64 y.n, .string y.id] 45)) := (Below.refl _ _).alloc (Nat.le_refl _) _
  have hq : Calls Tryz.prog g (#[.agg #[.int .i64 x.node, .int .i64 x.n, .string x.id], .agg #[.int .i64 y.node, .int .i64 y.n, .string y.id]] ++ lb) (W.alloc (.cells #[.int .i64 y.node, .int .i64 y.n, .string y.id] 45)) fun e w' => e = .returned (.bool pv) ∧ Below W.heap.size W w' := by
    rw [hpv]
    exact (hq0 _ hwb).mono fun e w' ⟨h1, h2⟩ => ⟨h1, hwb.trans (h2.mono hwb.size)⟩
  have HQ := Lib.hid hq
  show Calls Tryz.prog 85 #[.agg #[.int .i64 y.node, .int .i64 y.n, .string y.id], .pointer (some ⟨g5, 0, none⟩), .pointer (some ⟨g8, 0, none⟩)] W fun e w' => e = .returned (.bool (p x y)) ∧ Below W.heap.size W w'
  rw [← hpv]
  clear hq0 hq hpv T hW h5l h8l h5 h80 h81 h82 hy hwb
  go_enter Tryz.func85, Tryz.ntmps85
  go_wp2_with (go_at_fn g; refine HQ.out.mono ?_; rintro e w2 ⟨rfl, hb2⟩; have H2 := Lib.hid hb2; clear hb2)
  go_ret
  exact ⟨rfl, H2.out⟩
set_option maxRecDepth 100000 in
set_option maxHeartbeats 2000000 in
theorem in_tok (av bv : Value) (a b : List Tok) (g : Nat) (lb : Array Value) (p : Tok → Tok → Bool) (w : World) (ha : RowAt 3 vTok w av a) (hb : RowAt 3 vTok w bv b) (T : Tells12 g lb aTok p a b w) (hn : a.length ≤ 1000000) (hm : b.length ≤ 1000000) :
    Calls Tryz.prog 39 #[av, bv, .func (.func g) #[] lb] w fun e w' => e = .returned (.bool (a.all fun x => b.any (p x))) ∧ Below w.heap.size w w' := by
  obtain ⟨W1, hW1⟩ : ∃ W1, W1 = w.alloc (.cells #[.func (.func g) #[] lb] 62) := ⟨_, rfl⟩
  obtain ⟨B, hB⟩ : ∃ B, B = w.heap.size := ⟨_, rfl⟩
  have hb1 : Below w.heap.size w W1 := by rw [hW1]; exact (Below.refl _ _).alloc (Nat.le_refl _) _
  have k1 : BlkIs W1 B 62 #[.func (.func g) #[] lb] := by rw [hW1, hB]; exact BlkIs.new _ _ _
  have HB1 := Lib.hid (And.intro hb1 k1)
  have HA := Lib.hid ha
  have HT := Lib.hid T
  have CF := Lib.hid (fun (x : Tok) (W : World) (g8 : Nat) (hW : Below W1.heap.size W1 W) (h : Tells 85 #[.pointer (some ⟨B, 0, none⟩), .pointer (some ⟨g8, 0, none⟩)] aTok (p x) b W) =>
    cf_tok bv b 85 #[.pointer (some ⟨B, 0, none⟩), .pointer (some ⟨g8, 0, none⟩)] (p x) W (hb.later (hb1.trans (hW.mono hb1.size))) h hm)
  obtain ⟨q, hq⟩ : ∃ q, q = a.all fun x => b.any (p x) := ⟨_, rfl⟩
  rw [← hq]
  have HQ := Lib.hid hq
  obtain ⟨ao, ac, rfl, -, -⟩ := ha.form
  obtain ⟨bo, bc, rfl, -, -⟩ := hb.form
  obtain ⟨n, hnn⟩ : ∃ n, n = a.length := ⟨_, rfl⟩
  obtain ⟨m, hmm⟩ : ∃ m, m = b.length := ⟨_, rfl⟩
  rw [← hnn] at HA hn ⊢
  rw [← hmm] at CF ⊢
  have HN := Lib.hid hnn
  have HW := Lib.hid (And.intro hW1 hB)
  clear ha hb hb1 k1 T hW1 hB hq hnn hmm hm
  go_enter Tryz.func39, Tryz.ntmps39
  go_upto_region 1 with (fail)
  rw [← HW.out.1, ← HW.out.2]
  go_wp2_with fail
  go_loopw [11] (fun i wr => ∃ k : Nat, i = .int .i64 (k : Int) ∧ k ≤ n ∧ Hid (∀ x ∈ a.take k, b.any (p x) = true) ∧ Hid (Below W1.heap.size W1 wr)) (fun i _ => ((n : Int) - intOf i).toNat)
  case atStart => exact ⟨0, rfl, Nat.zero_le _, Lib.hid (fun x hx => by simp at hx), Lib.hid (Below.refl _ _)⟩
  case round =>
    obtain ⟨k, rfl, hkn, HM, HL⟩ := hrel
    rcases Nat.lt_or_ge k n with hlt | hge
    · have ki : (k : Int) < n := by omega
      have kw : IntKind.i64.wrap ((k : Int) + 1) = ((k + 1 : Nat) : Int) := IntWalk.i64_in _ (by omega)
      have hka : k < a.length := by have := HN.out; omega
      obtain ⟨go, off, hag, hgl, hc⟩ := ((HA.out.later HB1.out.1).later HL.out).at_ (by omega)
      subst hag
      obtain ⟨x, hx⟩ : ∃ x, x = a[k] := ⟨_, rfl⟩
      have u0 : wr.cell? ⟨go, off + k * 3, none⟩ = some (.int .i64 x.node) := by rw [hx]; exact hc k hka 0 _ rfl
      have u1 : wr.cell? ⟨go, off + k * 3 + 1, none⟩ = some (.int .i64 x.n) := by rw [hx]; exact hc k hka 1 _ rfl
      have u2 : wr.cell? ⟨go, off + k * 3 + 2, none⟩ = some (.string x.id) := by rw [hx]; exact hc k hka 2 _ rfl
      have HX := Lib.hid hx
      obtain ⟨W3, hW3⟩ : ∃ W3, W3 = wr.alloc (.cells #[.int .i64 x.node, .int .i64 x.n, .string x.id] 45) := ⟨_, rfl⟩
      obtain ⟨G, hG⟩ : ∃ G, G = wr.heap.size := ⟨_, rfl⟩
      have hb3 : Below wr.heap.size wr W3 := by rw [hW3]; exact (Below.refl _ _).alloc (Nat.le_refl _) _
      have k3 : BlkIs W3 G 45 #[.int .i64 x.node, .int .i64 x.n, .string x.id] := by rw [hW3, hG]; exact BlkIs.new _ _ _
      have kB : BlkIs W3 B 62 #[.func (.func g) #[] lb] := BlkIs.below (BlkIs.below HB1.out.2 HL.out HB1.out.2.lt) hb3 (Nat.lt_of_lt_of_le HB1.out.2.lt HL.out.size)
      have hW13 : Below W1.heap.size W1 W3 := HL.out.trans (hb3.mono HL.out.size)
      have C := CF.out x W3 G hW13 (in1_tok x b g lb p W3 B G kB.lt (kB.cell 0) k3.lt (k3.cell 0) (k3.cell 1) (k3.cell 2) ⟨HT.out.1, fun z hz y hy W hW => by
        rcases List.mem_singleton.1 hz with rfl
        exact HT.out.2 z (by rw [hx]; exact List.getElem_mem hka) y hy W ((HB1.out.1.trans (hW13.mono HB1.out.1.size)).trans (hW.mono (Nat.le_trans HB1.out.1.size hW13.size)))⟩)
      obtain ⟨q2, hq2⟩ : ∃ q2, q2 = b.any (p x) := ⟨_, rfl⟩
      rw [← hq2] at C
      have C := Lib.hid C
      have H3 := Lib.hid (And.intro hW13 hq2)
      have HW3 := Lib.hid (And.intro hW3 hG)
      clear hx hc hgl hW3 hG hb3 k3 kB hW13 hq2
      go_upto_region 4 with (fail)
      rw [← HW3.out.1, ← HW3.out.2]
      clear u0 u1 u2
      go_wp2_with fail
      refine C.out.mono ?_
      rintro e w4 ⟨rfl, hb4⟩
      have H4 := Lib.hid (H3.out.1.trans (hb4.mono H3.out.1.size))
      clear C hb4
      cases q2 with
      | false =>
        go_wp2_with fail
        go_ret
        exact ⟨ret_b' (by rw [HQ.out]; symm; exact all_no hka (by rw [← HX.out]; exact H3.out.2.symm)), HB1.out.1.trans (H4.out.mono HB1.out.1.size)⟩
      | true =>
        go_wp2_with fail
        exact ⟨⟨k + 1, by simp, by omega, Lib.hid (fun z hz => by
          rw [take_snoc' hka] at hz
          rcases List.mem_append.1 hz with hz | hz
          · exact HM.out z hz
          · rw [List.mem_singleton.1 hz, ← HX.out]; exact H3.out.2.symm), H4⟩, by simp [intOf]; omega⟩
    · have ki : ¬ ((k : Int) < n) := by omega
      have ki2 : decide ((k : Int) < n) = false := decide_eq_false ki
      obtain rfl : k = n := Nat.le_antisymm hkn hge
      clear ki
      go_wp2_with fail
      go_ret
      have h1 := HM.out
      rw [HN.out, List.take_length] at h1
      exact ⟨ret_b' (by rw [HQ.out]; symm; exact all_yes h1), HB1.out.1.trans (HL.out.mono HB1.out.1.size)⟩
set_option maxRecDepth 100000 in
theorem in1_int (x : Int) (m : List Int) (g : Nat) (lb : Array Value) (p : Int → Int → Bool) (W1 : World) (g5 g8 : Nat) (h5l : g5 < W1.heap.size) (h5 : W1.cell? ⟨g5, 0, none⟩ = some (.func (.func g) #[] lb)) (h8l : g8 < W1.heap.size) (h80 : W1.cell? ⟨g8, 0, none⟩ = some (.int .i64 x)) (T : Tells12 g lb aInt p [x] m W1) :
    Tells 81 #[.pointer (some ⟨g5, 0, none⟩), .pointer (some ⟨g8, 0, none⟩)] aInt (p x) m W1 := by
  refine ⟨enters_of Tryz.func81 (by kernel_rfl) rfl, fun y hy W hW => ?_⟩
  have hq0 := fun W' (h : Below W.heap.size W W') => T.2 x (List.mem_singleton.2 rfl) y hy W' (hW.trans (h.mono hW.size))
  have eg := T.1
  have c0 : W.cell? ⟨g5, 0, none⟩ = some (.func (.func g) #[] lb) := (hW.cell (p := ⟨g5, 0, none⟩) h5l).trans h5
  have c80 : W.cell? ⟨g8, 0, none⟩ = some (.int .i64 x) := (hW.cell (p := ⟨g8, 0, none⟩) h8l).trans h80
  have l5 : g5 < W.heap.size := Nat.lt_of_lt_of_le h5l hW.size
  have l8 : g8 < W.heap.size := Nat.lt_of_lt_of_le h8l hW.size
  obtain ⟨pv, hpv⟩ : ∃ pv, pv = p x y := ⟨_, rfl⟩
  have hq : Calls Tryz.prog g (#[.int .i64 x, .int .i64 y] ++ lb) W fun e w' => e = .returned (.bool pv) ∧ Below W.heap.size W w' := by
    rw [hpv]
    exact hq0 _ (Below.refl _ _)
  have HQ := Lib.hid hq
  show Calls Tryz.prog 81 #[.int .i64 y, .pointer (some ⟨g5, 0, none⟩), .pointer (some ⟨g8, 0, none⟩)] W fun e w' => e = .returned (.bool (p x y)) ∧ Below W.heap.size W w'
  rw [← hpv]
  clear hq0 hq hpv T hW h5l h8l h5 h80 hy
  go_enter Tryz.func81, Tryz.ntmps81
  go_wp2_with (go_at_fn g; refine HQ.out.mono ?_; rintro e w2 ⟨rfl, hb2⟩; have H2 := Lib.hid hb2; clear hb2)
  go_ret
  exact ⟨rfl, H2.out⟩
set_option maxRecDepth 100000 in
set_option maxHeartbeats 2000000 in
theorem in_int (av bv : Value) (a b : List Int) (g : Nat) (lb : Array Value) (p : Int → Int → Bool) (w : World) (ha : RowAt 1 vInt w av a) (hb : RowAt 1 vInt w bv b) (T : Tells12 g lb aInt p a b w) (hn : a.length ≤ 1000000) (hm : b.length ≤ 1000000) :
    Calls Tryz.prog 37 #[av, bv, .func (.func g) #[] lb] w fun e w' => e = .returned (.bool (a.all fun x => b.any (p x))) ∧ Below w.heap.size w w' := by
  obtain ⟨W1, hW1⟩ : ∃ W1, W1 = w.alloc (.cells #[.func (.func g) #[] lb] 63) := ⟨_, rfl⟩
  obtain ⟨B, hB⟩ : ∃ B, B = w.heap.size := ⟨_, rfl⟩
  have hb1 : Below w.heap.size w W1 := by rw [hW1]; exact (Below.refl _ _).alloc (Nat.le_refl _) _
  have k1 : BlkIs W1 B 63 #[.func (.func g) #[] lb] := by rw [hW1, hB]; exact BlkIs.new _ _ _
  have HB1 := Lib.hid (And.intro hb1 k1)
  have HA := Lib.hid ha
  have HT := Lib.hid T
  have CF := Lib.hid (fun (x : Int) (W : World) (g8 : Nat) (hW : Below W1.heap.size W1 W) (h : Tells 81 #[.pointer (some ⟨B, 0, none⟩), .pointer (some ⟨g8, 0, none⟩)] aInt (p x) b W) =>
    cf_int bv b 81 #[.pointer (some ⟨B, 0, none⟩), .pointer (some ⟨g8, 0, none⟩)] (p x) W (hb.later (hb1.trans (hW.mono hb1.size))) h hm)
  obtain ⟨q, hq⟩ : ∃ q, q = a.all fun x => b.any (p x) := ⟨_, rfl⟩
  rw [← hq]
  have HQ := Lib.hid hq
  obtain ⟨ao, ac, rfl, -, -⟩ := ha.form
  obtain ⟨bo, bc, rfl, -, -⟩ := hb.form
  obtain ⟨n, hnn⟩ : ∃ n, n = a.length := ⟨_, rfl⟩
  obtain ⟨m, hmm⟩ : ∃ m, m = b.length := ⟨_, rfl⟩
  rw [← hnn] at HA hn ⊢
  rw [← hmm] at CF ⊢
  have HN := Lib.hid hnn
  have HW := Lib.hid (And.intro hW1 hB)
  clear ha hb hb1 k1 T hW1 hB hq hnn hmm hm
  go_enter Tryz.func37, Tryz.ntmps37
  go_upto_region 1 with (fail)
  rw [← HW.out.1, ← HW.out.2]
  go_wp2_with fail
  go_loopw [11] (fun i wr => ∃ k : Nat, i = .int .i64 (k : Int) ∧ k ≤ n ∧ Hid (∀ x ∈ a.take k, b.any (p x) = true) ∧ Hid (Below W1.heap.size W1 wr)) (fun i _ => ((n : Int) - intOf i).toNat)
  case atStart => exact ⟨0, rfl, Nat.zero_le _, Lib.hid (fun x hx => by simp at hx), Lib.hid (Below.refl _ _)⟩
  case round =>
    obtain ⟨k, rfl, hkn, HM, HL⟩ := hrel
    rcases Nat.lt_or_ge k n with hlt | hge
    · have ki : (k : Int) < n := by omega
      have kw : IntKind.i64.wrap ((k : Int) + 1) = ((k + 1 : Nat) : Int) := IntWalk.i64_in _ (by omega)
      have hka : k < a.length := by have := HN.out; omega
      obtain ⟨go, off, hag, hgl, hc⟩ := ((HA.out.later HB1.out.1).later HL.out).at_ (by omega)
      subst hag
      obtain ⟨x, hx⟩ : ∃ x, x = a[k] := ⟨_, rfl⟩
      have u0 : wr.cell? ⟨go, off + k, none⟩ = some (.int .i64 x) := by rw [hx]; have h1 := hc k hka 0 _ rfl; rwa [Nat.mul_one, Nat.add_zero] at h1
      have HX := Lib.hid hx
      obtain ⟨W3, hW3⟩ : ∃ W3, W3 = wr.alloc (.cells #[.int .i64 x] 3) := ⟨_, rfl⟩
      obtain ⟨G, hG⟩ : ∃ G, G = wr.heap.size := ⟨_, rfl⟩
      have hb3 : Below wr.heap.size wr W3 := by rw [hW3]; exact (Below.refl _ _).alloc (Nat.le_refl _) _
      have k3 : BlkIs W3 G 3 #[.int .i64 x] := by rw [hW3, hG]; exact BlkIs.new _ _ _
      have kB : BlkIs W3 B 63 #[.func (.func g) #[] lb] := BlkIs.below (BlkIs.below HB1.out.2 HL.out HB1.out.2.lt) hb3 (Nat.lt_of_lt_of_le HB1.out.2.lt HL.out.size)
      have hW13 : Below W1.heap.size W1 W3 := HL.out.trans (hb3.mono HL.out.size)
      have C := CF.out x W3 G hW13 (in1_int x b g lb p W3 B G kB.lt (kB.cell 0) k3.lt (k3.cell 0) ⟨HT.out.1, fun z hz y hy W hW => by
        rcases List.mem_singleton.1 hz with rfl
        exact HT.out.2 z (by rw [hx]; exact List.getElem_mem hka) y hy W ((HB1.out.1.trans (hW13.mono HB1.out.1.size)).trans (hW.mono (Nat.le_trans HB1.out.1.size hW13.size)))⟩)
      obtain ⟨q2, hq2⟩ : ∃ q2, q2 = b.any (p x) := ⟨_, rfl⟩
      rw [← hq2] at C
      have C := Lib.hid C
      have H3 := Lib.hid (And.intro hW13 hq2)
      have HW3 := Lib.hid (And.intro hW3 hG)
      clear hx hc hgl hW3 hG hb3 k3 kB hW13 hq2
      go_upto_region 4 with (fail)
      rw [← HW3.out.1, ← HW3.out.2]
      clear u0
      go_wp2_with fail
      refine C.out.mono ?_
      rintro e w4 ⟨rfl, hb4⟩
      have H4 := Lib.hid (H3.out.1.trans (hb4.mono H3.out.1.size))
      clear C hb4
      cases q2 with
      | false =>
        go_wp2_with fail
        go_ret
        exact ⟨ret_b' (by rw [HQ.out]; symm; exact all_no hka (by rw [← HX.out]; exact H3.out.2.symm)), HB1.out.1.trans (H4.out.mono HB1.out.1.size)⟩
      | true =>
        go_wp2_with fail
        exact ⟨⟨k + 1, by simp, by omega, Lib.hid (fun z hz => by
          rw [take_snoc' hka] at hz
          rcases List.mem_append.1 hz with hz | hz
          · exact HM.out z hz
          · rw [List.mem_singleton.1 hz, ← HX.out]; exact H3.out.2.symm), H4⟩, by simp [intOf]; omega⟩
    · have ki : ¬ ((k : Int) < n) := by omega
      have ki2 : decide ((k : Int) < n) = false := decide_eq_false ki
      obtain rfl : k = n := Nat.le_antisymm hkn hge
      clear ki
      go_wp2_with fail
      go_ret
      have h1 := HM.out
      rw [HN.out, List.take_length] at h1
      exact ⟨ret_b' (by rw [HQ.out]; symm; exact all_yes h1), HB1.out.1.trans (HL.out.mono HB1.out.1.size)⟩
set_option maxRecDepth 100000 in
theorem in1_tb (x : TbR) (m : List TbR) (g : Nat) (lb : Array Value) (p : TbR → TbR → Bool) (W1 : World) (g5 g8 : Nat) (h5l : g5 < W1.heap.size) (h5 : W1.cell? ⟨g5, 0, none⟩ = some (.func (.func g) #[] lb)) (h8l : g8 < W1.heap.size) (h80 : W1.cell? ⟨g8, 0, none⟩ = some (.int .i64 x.t.node)) (h81 : W1.cell? ⟨g8, 1, none⟩ = some (.int .i64 x.t.n)) (h82 : W1.cell? ⟨g8, 2, none⟩ = some (.string x.t.id)) (h83 : W1.cell? ⟨g8, 3, none⟩ = some (x.cv)) (h84 : W1.cell? ⟨g8, 4, none⟩ = some (x.av)) (T : Tells12 g lb aTb p [x] m W1) :
    Tells 87 #[.pointer (some ⟨g5, 0, none⟩), .pointer (some ⟨g8, 0, none⟩)] aTb (p x) m W1 := by
  refine ⟨enters_of Tryz.func87 (by kernel_rfl) rfl, fun y hy W hW => ?_⟩
  have hq0 := fun W' (h : Below W.heap.size W W') => T.2 x (List.mem_singleton.2 rfl) y hy W' (hW.trans (h.mono hW.size))
  have eg := T.1
  have c0 : W.cell? ⟨g5, 0, none⟩ = some (.func (.func g) #[] lb) := (hW.cell (p := ⟨g5, 0, none⟩) h5l).trans h5
  have c80 : W.cell? ⟨g8, 0, none⟩ = some (.int .i64 x.t.node) := (hW.cell (p := ⟨g8, 0, none⟩) h8l).trans h80
  have c81 : W.cell? ⟨g8, 1, none⟩ = some (.int .i64 x.t.n) := (hW.cell (p := ⟨g8, 1, none⟩) h8l).trans h81
  have c82 : W.cell? ⟨g8, 2, none⟩ = some (.string x.t.id) := (hW.cell (p := ⟨g8, 2, none⟩) h8l).trans h82
  have c83 : W.cell? ⟨g8, 3, none⟩ = some (x.cv) := (hW.cell (p := ⟨g8, 3, none⟩) h8l).trans h83
  have c84 : W.cell? ⟨g8, 4, none⟩ = some (x.av) := (hW.cell (p := ⟨g8, 4, none⟩) h8l).trans h84
  have l5 : g5 < W.heap.size := Nat.lt_of_lt_of_le h5l hW.size
  have l8 : g8 < W.heap.size := Nat.lt_of_lt_of_le h8l hW.size
  obtain ⟨pv, hpv⟩ : ∃ pv, pv = p x y := ⟨_, rfl⟩
  have hwb : Below W.heap.size W (W.alloc (.cells #[.int .i64 y.t.node, .int .i64 y.t.n, .string y.t.id, y.cv, y.av] 43)) := (Below.refl _ _).alloc (Nat.le_refl _) _
  have hq : Calls Tryz.prog g (#[.agg #[.int .i64 x.t.node, .int .i64 x.t.n, .string x.t.id, x.cv, x.av], .agg #[.int .i64 y.t.node, .int .i64 y.t.n, .string y.t.id, y.cv, y.av]] ++ lb) (W.alloc (.cells #[.int .i64 y.t.node, .int .i64 y.t.n, .string y.t.id, y.cv, y.av] 43)) fun e w' => e = .returned (.bool pv) ∧ Below W.heap.size W w' := by
    rw [hpv]
    exact (hq0 _ hwb).mono fun e w' ⟨h1, h2⟩ => ⟨h1, hwb.trans (h2.mono hwb.size)⟩
  have HQ := Lib.hid hq
  show Calls Tryz.prog 87 #[.agg #[.int .i64 y.t.node, .int .i64 y.t.n, .string y.t.id, y.cv, y.av], .pointer (some ⟨g5, 0, none⟩), .pointer (some ⟨g8, 0, none⟩)] W fun e w' => e = .returned (.bool (p x y)) ∧ Below W.heap.size W w'
  rw [← hpv]
  clear hq0 hq hpv T hW h5l h8l h5 h80 h81 h82 h83 h84 hy hwb
  go_enter Tryz.func87, Tryz.ntmps87
  go_wp2_with (go_at_fn g; refine HQ.out.mono ?_; rintro e w2 ⟨rfl, hb2⟩; have H2 := Lib.hid hb2; clear hb2)
  go_ret
  exact ⟨rfl, H2.out⟩
set_option maxRecDepth 100000 in
set_option maxHeartbeats 2000000 in
theorem in_tb (av bv : Value) (a b : List TbR) (g : Nat) (lb : Array Value) (p : TbR → TbR → Bool) (w : World) (ha : RowAt 5 vTb w av a) (hb : RowAt 5 vTb w bv b) (T : Tells12 g lb aTb p a b w) (hn : a.length ≤ 1000000) (hm : b.length ≤ 1000000) (RR : ∀ z ∈ a, z.Reads w) :
    Calls Tryz.prog 40 #[av, bv, .func (.func g) #[] lb] w fun e w' => e = .returned (.bool (a.all fun x => b.any (p x))) ∧ Below w.heap.size w w' := by
  obtain ⟨W1, hW1⟩ : ∃ W1, W1 = w.alloc (.cells #[.func (.func g) #[] lb] 59) := ⟨_, rfl⟩
  obtain ⟨B, hB⟩ : ∃ B, B = w.heap.size := ⟨_, rfl⟩
  have hb1 : Below w.heap.size w W1 := by rw [hW1]; exact (Below.refl _ _).alloc (Nat.le_refl _) _
  have k1 : BlkIs W1 B 59 #[.func (.func g) #[] lb] := by rw [hW1, hB]; exact BlkIs.new _ _ _
  have HB1 := Lib.hid (And.intro hb1 k1)
  have HA := Lib.hid ha
  have HT := Lib.hid T
  have CF := Lib.hid (fun (x : TbR) (W : World) (g8 : Nat) (hW : Below W1.heap.size W1 W) (h : Tells 87 #[.pointer (some ⟨B, 0, none⟩), .pointer (some ⟨g8, 0, none⟩)] aTb (p x) b W) =>
    cf_tb bv b 87 #[.pointer (some ⟨B, 0, none⟩), .pointer (some ⟨g8, 0, none⟩)] (p x) W (hb.later (hb1.trans (hW.mono hb1.size))) h hm)
  obtain ⟨q, hq⟩ : ∃ q, q = a.all fun x => b.any (p x) := ⟨_, rfl⟩
  rw [← hq]
  have HQ := Lib.hid hq
  obtain ⟨ao, ac, rfl, -, -⟩ := ha.form
  obtain ⟨bo, bc, rfl, -, -⟩ := hb.form
  obtain ⟨n, hnn⟩ : ∃ n, n = a.length := ⟨_, rfl⟩
  obtain ⟨m, hmm⟩ : ∃ m, m = b.length := ⟨_, rfl⟩
  rw [← hnn] at HA hn ⊢
  rw [← hmm] at CF ⊢
  have HN := Lib.hid hnn
  have HW := Lib.hid (And.intro hW1 hB)
  have RR := fun z hz => RR z hz
  clear ha hb hb1 k1 T hW1 hB hq hnn hmm hm
  go_enter Tryz.func40, Tryz.ntmps40
  go_upto_region 1 with (fail)
  rw [← HW.out.1, ← HW.out.2]
  go_wp2_with fail
  go_loopw [11] (fun i wr => ∃ k : Nat, i = .int .i64 (k : Int) ∧ k ≤ n ∧ Hid (∀ x ∈ a.take k, b.any (p x) = true) ∧ Hid (Below W1.heap.size W1 wr)) (fun i _ => ((n : Int) - intOf i).toNat)
  case atStart => exact ⟨0, rfl, Nat.zero_le _, Lib.hid (fun x hx => by simp at hx), Lib.hid (Below.refl _ _)⟩
  case round =>
    obtain ⟨k, rfl, hkn, HM, HL⟩ := hrel
    rcases Nat.lt_or_ge k n with hlt | hge
    · have ki : (k : Int) < n := by omega
      have kw : IntKind.i64.wrap ((k : Int) + 1) = ((k + 1 : Nat) : Int) := IntWalk.i64_in _ (by omega)
      have hka : k < a.length := by have := HN.out; omega
      obtain ⟨go, off, hag, hgl, hc⟩ := ((HA.out.later HB1.out.1).later HL.out).at_ (by omega)
      subst hag
      obtain ⟨x, hx⟩ : ∃ x, x = a[k] := ⟨_, rfl⟩
      have hxr := RR x (by rw [hx]; exact List.getElem_mem hka)
      obtain ⟨x3, m3, e3, -, -⟩ := hxr.1.form
      obtain ⟨x4, m4, e4, -, -⟩ := hxr.2.form
      obtain ⟨l3, f3⟩ : ∃ q, q = x.t.cov.length := ⟨_, rfl⟩
      obtain ⟨l4, f4⟩ : ∃ q, q = x.t.acks.length := ⟨_, rfl⟩
      rw [← f3] at e3
      rw [← f4] at e4
      have u0 : wr.cell? ⟨go, off + k * 5, none⟩ = some (.int .i64 x.t.node) := by rw [hx]; exact hc k hka 0 _ rfl
      have u1 : wr.cell? ⟨go, off + k * 5 + 1, none⟩ = some (.int .i64 x.t.n) := by rw [hx]; exact hc k hka 1 _ rfl
      have u2 : wr.cell? ⟨go, off + k * 5 + 2, none⟩ = some (.string x.t.id) := by rw [hx]; exact hc k hka 2 _ rfl
      have u3 : wr.cell? ⟨go, off + k * 5 + 3, none⟩ = some (.slice x3 l3 m3) := by rw [← e3, hx]; exact hc k hka 3 _ rfl
      have u4 : wr.cell? ⟨go, off + k * 5 + 4, none⟩ = some (.slice x4 l4 m4) := by rw [← e4, hx]; exact hc k hka 4 _ rfl
      have HX := Lib.hid hx
      obtain ⟨W3, hW3⟩ : ∃ W3, W3 = wr.alloc (.cells #[.int .i64 x.t.node, .int .i64 x.t.n, .string x.t.id, .slice x3 l3 m3, .slice x4 l4 m4] 43) := ⟨_, rfl⟩
      obtain ⟨G, hG⟩ : ∃ G, G = wr.heap.size := ⟨_, rfl⟩
      have hb3 : Below wr.heap.size wr W3 := by rw [hW3]; exact (Below.refl _ _).alloc (Nat.le_refl _) _
      have k3 : BlkIs W3 G 43 #[.int .i64 x.t.node, .int .i64 x.t.n, .string x.t.id, .slice x3 l3 m3, .slice x4 l4 m4] := by rw [hW3, hG]; exact BlkIs.new _ _ _
      have kB : BlkIs W3 B 59 #[.func (.func g) #[] lb] := BlkIs.below (BlkIs.below HB1.out.2 HL.out HB1.out.2.lt) hb3 (Nat.lt_of_lt_of_le HB1.out.2.lt HL.out.size)
      have hW13 : Below W1.heap.size W1 W3 := HL.out.trans (hb3.mono HL.out.size)
      have C := CF.out x W3 G hW13 (in1_tb x b g lb p W3 B G kB.lt (kB.cell 0) k3.lt (k3.cell 0) (k3.cell 1) (k3.cell 2) (by rw [e3]; exact k3.cell 3) (by rw [e4]; exact k3.cell 4) ⟨HT.out.1, fun z hz y hy W hW => by
        rcases List.mem_singleton.1 hz with rfl
        exact HT.out.2 z (by rw [hx]; exact List.getElem_mem hka) y hy W ((HB1.out.1.trans (hW13.mono HB1.out.1.size)).trans (hW.mono (Nat.le_trans HB1.out.1.size hW13.size)))⟩)
      obtain ⟨q2, hq2⟩ : ∃ q2, q2 = b.any (p x) := ⟨_, rfl⟩
      rw [← hq2] at C
      have C := Lib.hid C
      have H3 := Lib.hid (And.intro hW13 hq2)
      have HW3 := Lib.hid (And.intro hW3 hG)
      clear hx hc hgl hW3 hG hb3 k3 kB hW13 hq2 hxr f3 f4 e3 e4
      go_upto_region 4 with (fail)
      rw [← HW3.out.1, ← HW3.out.2]
      clear u0 u1 u2 u3 u4
      go_wp2_with fail
      refine C.out.mono ?_
      rintro e w4 ⟨rfl, hb4⟩
      have H4 := Lib.hid (H3.out.1.trans (hb4.mono H3.out.1.size))
      clear C hb4
      cases q2 with
      | false =>
        go_wp2_with fail
        go_ret
        exact ⟨ret_b' (by rw [HQ.out]; symm; exact all_no hka (by rw [← HX.out]; exact H3.out.2.symm)), HB1.out.1.trans (H4.out.mono HB1.out.1.size)⟩
      | true =>
        go_wp2_with fail
        exact ⟨⟨k + 1, by simp, by omega, Lib.hid (fun z hz => by
          rw [take_snoc' hka] at hz
          rcases List.mem_append.1 hz with hz | hz
          · exact HM.out z hz
          · rw [List.mem_singleton.1 hz, ← HX.out]; exact H3.out.2.symm), H4⟩, by simp [intOf]; omega⟩
    · have ki : ¬ ((k : Int) < n) := by omega
      have ki2 : decide ((k : Int) < n) = false := decide_eq_false ki
      obtain rfl : k = n := Nat.le_antisymm hkn hge
      clear ki
      go_wp2_with fail
      go_ret
      have h1 := HM.out
      rw [HN.out, List.take_length] at h1
      exact ⟨ret_b' (by rw [HQ.out]; symm; exact all_yes h1), HB1.out.1.trans (HL.out.mono HB1.out.1.size)⟩
end Go.Proofs.YtbmknmjcoeinkaaGreat.Mg

/- merge.Below and its tests, walked. (Layer 13.) -/
namespace Go.Proofs.YtbmknmjcoeinkaaGreat.Mg
set_option linter.unusedVariables false
set_option linter.unusedSimpArgs false
open Go.RowKit Go.Lib
open Mk (Rf Tok Tb TbR Mks MkR aMk aTb aRf aTok aInt vRf vTok vTb vInt eqB eqB_yes eqB_no eqB_iff eql_tok bytes_eq)
open Set (El)
/-- Whether a ref tells no more than another one. -/
def pRf (x y : Rf) : Bool := x.name.toList == y.name.toList && decide (cS x y ≤ 0)
/-- Whether each number is among others. -/
def allIn (a b : List Int) : Bool := a.all fun n => b.any fun m => n == m
/-- Whether a tomb tells no more than another one. -/
noncomputable def pTb (x y : Tb) : Bool := (x.node == y.node && x.n == y.n) && (x.id.toList == y.id.toList && (eqB x.cov y.cov && allIn x.acks y.acks))
/-- Whether marks tell no more than other ones. -/
noncomputable def belowB (a b : Mks) : Bool := (a.refs.all fun x => b.refs.any (pRf x)) && ((a.toks.all fun x => b.toks.any (eqB x)) && (a.tombs.all fun x => b.tombs.any (pTb x)))
theorem below1_any (x y : Rf) (w : World) : Calls Tryz.prog 30 #[.agg #[.string x.name, .string x.id, .int .i64 x.h], .agg #[.string y.name, .string y.id, .int .i64 y.h]] w fun e w' => e = .returned (.bool (pRf x y)) ∧ Below w.heap.size w w' := by
  have S := fun W => (stands_any x y).below W
  obtain ⟨c, hc⟩ : ∃ c, c = cS x y := ⟨_, rfl⟩
  rw [← hc] at S
  have S := Lib.hid S
  obtain ⟨q, hq⟩ : ∃ q, q = (x.name.toList == y.name.toList) := ⟨_, rfl⟩
  have hp : pRf x y = (q && decide (c ≤ 0)) := by unfold pRf; rw [hq, hc]
  rw [hp]
  have hq2 := hq.symm
  obtain ⟨W2, hW2⟩ : ∃ W2, W2 = (w.alloc (.cells #[.string x.name, .string x.id, .int .i64 x.h] 49)).alloc (.cells #[.string y.name, .string y.id, .int .i64 y.h] 49) := ⟨_, rfl⟩
  have K := Lib.hid (show BlkIs W2 w.heap.size 49 #[.string x.name, .string x.id, .int .i64 x.h] ∧ BlkIs W2 (w.heap.size + 1) 49 #[.string y.name, .string y.id, .int .i64 y.h] ∧ Below w.heap.size w W2 from by
    rw [hW2]
    exact ⟨(BlkIs.new _ _ _).alloc _, BlkIs.new2 _ _ _ _, ((Below.refl _ _).alloc (Nat.le_refl _) _).alloc (by simp) _⟩)
  have HW := Lib.hid hW2
  clear hc hq hW2 hp
  go_enter Tryz.func30, Tryz.ntmps30
  go_upto_region 1 with (fail)
  rw [← HW.out]
  obtain ⟨k1, k2, -⟩ := K.out
  have e0 : W2.cell? ⟨w.heap.size, 0, none⟩ = some (.string x.name) := k1.cell 0
  have e1 : W2.cell? ⟨w.heap.size, 1, none⟩ = some (.string x.id) := k1.cell 1
  have e2 : W2.cell? ⟨w.heap.size, 2, none⟩ = some (.int .i64 x.h) := k1.cell 2
  have f0 : W2.cell? ⟨w.heap.size + 1, 0, none⟩ = some (.string y.name) := k2.cell 0
  have f1 : W2.cell? ⟨w.heap.size + 1, 1, none⟩ = some (.string y.id) := k2.cell 1
  have f2 : W2.cell? ⟨w.heap.size + 1, 2, none⟩ = some (.int .i64 y.h) := k2.cell 2
  clear k1 k2
  cases q with
  | false =>
    go_wp2_with fail
    go_ret
    exact ⟨rfl, K.out.2.2⟩
  | true =>
    go_wp2_with fail
    refine (S.out _).mono ?_
    rintro e w3 ⟨rfl, hb3⟩
    have H3 := Lib.hid (K.out.2.2.trans (hb3.mono K.out.2.2.size))
    clear hb3 e0 e1 e2 f0 f1 f2
    go_wp2_with fail
    go_ret
    exact ⟨by simp, H3.out⟩
theorem below2_any (x y : Tok) (w : World) : Calls Tryz.prog 32 #[.agg #[.int .i64 x.node, .int .i64 x.n, .string x.id], .agg #[.int .i64 y.node, .int .i64 y.n, .string y.id]] w fun e w' => e = .returned (.bool (eqB x y)) ∧ Below w.heap.size w w' := by
  have hne := fun w => eql_tok x y w
  obtain ⟨q, hq⟩ : ∃ q, q = eqB x y := ⟨_, rfl⟩
  rw [← hq] at hne ⊢
  have hg : Tryz.prog.eqGuardType Tryz.prog.depth 45 = false := by kernel_rfl
  obtain ⟨W2, hW2⟩ : ∃ W2, W2 = (w.alloc (.cells #[.int .i64 x.node, .int .i64 x.n, .string x.id] 45)).alloc (.cells #[.int .i64 y.node, .int .i64 y.n, .string y.id] 45) := ⟨_, rfl⟩
  have K := Lib.hid (show BlkIs W2 w.heap.size 45 #[.int .i64 x.node, .int .i64 x.n, .string x.id] ∧ BlkIs W2 (w.heap.size + 1) 45 #[.int .i64 y.node, .int .i64 y.n, .string y.id] ∧ Below w.heap.size w W2 from by
    rw [hW2]
    exact ⟨(BlkIs.new _ _ _).alloc _, BlkIs.new2 _ _ _ _, ((Below.refl _ _).alloc (Nat.le_refl _) _).alloc (by simp) _⟩)
  have HW := Lib.hid hW2
  clear hq hW2
  go_enter Tryz.func32, Tryz.ntmps32
  go_upto_region 1 with (fail)
  rw [← HW.out]
  obtain ⟨k1, k2, -⟩ := K.out
  have e0 : W2.cell? ⟨w.heap.size, 0, none⟩ = some (.int .i64 x.node) := k1.cell 0
  have e1 : W2.cell? ⟨w.heap.size, 1, none⟩ = some (.int .i64 x.n) := k1.cell 1
  have e2 : W2.cell? ⟨w.heap.size, 2, none⟩ = some (.string x.id) := k1.cell 2
  have f0 : W2.cell? ⟨w.heap.size + 1, 0, none⟩ = some (.int .i64 y.node) := k2.cell 0
  have f1 : W2.cell? ⟨w.heap.size + 1, 1, none⟩ = some (.int .i64 y.n) := k2.cell 1
  have f2 : W2.cell? ⟨w.heap.size + 1, 2, none⟩ = some (.string y.id) := k2.cell 2
  clear k1 k2
  go_wp2_with fail
  go_ret
  exact ⟨rfl, K.out.2.2⟩
theorem below3_any (x y : Int) (w : World) : Calls Tryz.prog 33 #[.int .i64 x, .int .i64 y] w fun e w' => e = .returned (.bool (x == y)) ∧ Below w.heap.size w w' := by
  go_enter Tryz.func33, Tryz.ntmps33
  go_wp2_with fail
  go_ret
  exact ⟨rfl, Below.refl _ _⟩
theorem eql_key2 (a b c d : Int) (w : World) : (binOp .eql 65 (.agg #[.int .i64 a, .int .i64 b]) (.agg #[.int .i64 c, .int .i64 d])).run Tryz.prog w = .ok (.bool (a == c && b == d)) w := by
  have u3 := Tryz.underlying3
  have a3 := Tryz.isAgg3
  have z3 := Tryz.sizeOf3
  have hS : Tryz.prog.underlying 65 = some (.struct (Tryz.prog.fieldsOf 65)) := by kernel_rfl
  have hp : Tryz.prog.stoodInHeld 65 = false := by kernel_rfl
  rw [run_eql_struct, show (10000 : Nat) = 9999 + 1 from rfl, run_equalIn_agg w 9999 65 _ _ hS hp]
  simp only [Program.fieldsOf, Tryz.underlying65]
  go_simp
  by_cases h1 : a = c <;> by_cases h2 : b = d <;> simp [h1, h2]
set_option maxRecDepth 100000 in
set_option maxHeartbeats 4000000 in
theorem below4_any (x y : TbR) (s : Nat) (w : World) (hx : x.Reads w) (hy : y.Reads w) (hnx : x.t.cov.length ≤ 1000000 ∧ x.t.acks.length ≤ 1000000) (hny : y.t.cov.length ≤ 1000000 ∧ y.t.acks.length ≤ 1000000) (hsl : s < w.heap.size) (hs : w.cell? ⟨s, 0, none⟩ = some (.func (.func 33) #[] #[])) :
    Calls Tryz.prog 34 #[.agg #[.int .i64 x.t.node, .int .i64 x.t.n, .string x.t.id, x.cv, x.av], .agg #[.int .i64 y.t.node, .int .i64 y.t.n, .string y.t.id, y.cv, y.av], .pointer (some ⟨s, 0, none⟩)] w fun e w' => e = .returned (.bool (pTb x.t y.t)) ∧ Below w.heap.size w w' := by
  obtain ⟨W2, hW2⟩ : ∃ W2, W2 = (w.alloc (.cells #[.int .i64 x.t.node, .int .i64 x.t.n, .string x.t.id, x.cv, x.av] 43)).alloc (.cells #[.int .i64 y.t.node, .int .i64 y.t.n, .string y.t.id, y.cv, y.av] 43) := ⟨_, rfl⟩
  have K := Lib.hid (show BlkIs W2 w.heap.size 43 #[.int .i64 x.t.node, .int .i64 x.t.n, .string x.t.id, x.cv, x.av] ∧ BlkIs W2 (w.heap.size + 1) 43 #[.int .i64 y.t.node, .int .i64 y.t.n, .string y.t.id, y.cv, y.av] ∧ Below w.heap.size w W2 from by
    rw [hW2]
    exact ⟨(BlkIs.new _ _ _).alloc _, BlkIs.new2 _ _ _ _, ((Below.refl _ _).alloc (Nat.le_refl _) _).alloc (by simp) _⟩)
  have hk := fun w => eql_key2 x.t.node x.t.n y.t.node y.t.n w
  have hg : Tryz.prog.eqGuardType Tryz.prog.depth 65 = false := by kernel_rfl
  obtain ⟨q1, hq1⟩ : ∃ q, q = (x.t.node == y.t.node && x.t.n == y.t.n) := ⟨_, rfl⟩
  obtain ⟨q2, hq2⟩ : ∃ q, q = (x.t.id.toList == y.t.id.toList) := ⟨_, rfl⟩
  obtain ⟨q3, hq3⟩ : ∃ q, q = eqB x.t.cov y.t.cov := ⟨_, rfl⟩
  obtain ⟨q4, hq4⟩ : ∃ q, q = allIn x.t.acks y.t.acks := ⟨_, rfl⟩
  have hp : pTb x.t y.t = (q1 && (q2 && (q3 && q4))) := by unfold pTb; rw [hq1, hq2, hq3, hq4]
  rw [← hq1] at hk
  rw [hp]
  have hi := hq2.symm
  have T1 := Lib.hid (fun X : LaterOf W2 => (ofTomb_any x).below X.w)
  have T2 := Lib.hid (fun X : LaterOf W2 => (ofTomb_any y).below X.w)
  have hbx : ∀ X : LaterOf W2, Below w.heap.size w X.w := fun X => K.out.2.2.trans (X.h.mono K.out.2.2.size)
  have T3 := Lib.hid (show ∀ X : LaterOf W2, Calls Tryz.prog 36 #[x.cv, y.cv] X.w fun e w' => e = .returned (.bool q3) ∧ Below X.w.heap.size X.w w' from fun X => by
    rw [hq3]
    exact equal_tok x.cv y.cv x.t.cov y.t.cov X.w (hx.1.later (hbx X)) (hy.1.later (hbx X)) hnx.1 hny.1)
  have T4 := Lib.hid (show ∀ X : LaterOf W2, Calls Tryz.prog 37 #[x.av, y.av, .func (.func 33) #[] #[]] X.w fun e w' => e = .returned (.bool q4) ∧ Below X.w.heap.size X.w w' from fun X => by
    rw [hq4]
    exact in_int x.av y.av x.t.acks y.t.acks 33 #[] (fun n m => n == m) X.w (hx.2.later (hbx X)) (hy.2.later (hbx X)) ⟨enters_of Tryz.func33 (by kernel_rfl) rfl, fun n _ m _ W _ => below3_any n m W⟩ hnx.2 hny.2)
  have c0 : ∀ X : LaterOf W2, X.w.cell? ⟨s, 0, none⟩ = some (.func (.func 33) #[] #[]) := fun X => ((hbx X).cell (p := ⟨s, 0, none⟩) hsl).trans hs
  have HW := Lib.hid hW2
  clear hq1 hq2 hq3 hq4 hp hW2 hx hy hnx hny hsl hs hbx
  go_enter Tryz.func34, Tryz.ntmps34
  go_upto_region 1 with (fail)
  rw [← HW.out]
  have e0 : ∀ X : LaterOf W2, X.w.cell? ⟨w.heap.size, 0, none⟩ = some (.int .i64 x.t.node) := fun X => (X.blk K.out.1).cell 0
  have e1 : ∀ X : LaterOf W2, X.w.cell? ⟨w.heap.size, 1, none⟩ = some (.int .i64 x.t.n) := fun X => (X.blk K.out.1).cell 1
  have e2 : ∀ X : LaterOf W2, X.w.cell? ⟨w.heap.size, 2, none⟩ = some (.string x.t.id) := fun X => (X.blk K.out.1).cell 2
  have e3 : ∀ X : LaterOf W2, X.w.cell? ⟨w.heap.size, 3, none⟩ = some x.cv := fun X => (X.blk K.out.1).cell 3
  have e4 : ∀ X : LaterOf W2, X.w.cell? ⟨w.heap.size, 4, none⟩ = some x.av := fun X => (X.blk K.out.1).cell 4
  have f0 : ∀ X : LaterOf W2, X.w.cell? ⟨w.heap.size + 1, 0, none⟩ = some (.int .i64 y.t.node) := fun X => (X.blk K.out.2.1).cell 0
  have f1 : ∀ X : LaterOf W2, X.w.cell? ⟨w.heap.size + 1, 1, none⟩ = some (.int .i64 y.t.n) := fun X => (X.blk K.out.2.1).cell 1
  have f2 : ∀ X : LaterOf W2, X.w.cell? ⟨w.heap.size + 1, 2, none⟩ = some (.string y.t.id) := fun X => (X.blk K.out.2.1).cell 2
  have f3 : ∀ X : LaterOf W2, X.w.cell? ⟨w.heap.size + 1, 3, none⟩ = some y.cv := fun X => (X.blk K.out.2.1).cell 3
  have f4 : ∀ X : LaterOf W2, X.w.cell? ⟨w.heap.size + 1, 4, none⟩ = some y.av := fun X => (X.blk K.out.2.1).cell 4
  refine wp_region_all (fun w' => ∃ X : LaterOf W2, w' = X.w) (by kernel_rfl) (by kernel_rfl) ⟨LaterOf.start W2, rfl⟩ ?_
  cases q1 with
  | false =>
    repeat (go_big_quiet_step (first | with_reducible rfl | with_reducible exact LaterOf.call _ (T1.out _) | with_reducible exact LaterOf.call _ (T2.out _) | with_reducible exact LaterOf.call _ (T3.out _) | with_reducible exact LaterOf.call _ (T4.out _)))
    refine wpQuiet_nil ?_
    intro w3 hw3
    obtain ⟨X, rfl⟩ := hw3
    have H3 := Lib.hid (K.out.2.2.trans (X.h.mono K.out.2.2.size))
    obtain ⟨w3, hx3⟩ := X
    clear e0 e1 e2 e3 e4 f0 f1 f2 f3 f4 c0 hi hk
    go_wp2_with fail
    go_ret
    exact ⟨rfl, H3.out⟩
  | true =>
    cases q2 with
    | false =>
      repeat (go_big_quiet_step (first | with_reducible rfl | with_reducible exact LaterOf.call _ (T1.out _) | with_reducible exact LaterOf.call _ (T2.out _) | with_reducible exact LaterOf.call _ (T3.out _) | with_reducible exact LaterOf.call _ (T4.out _)))
      refine wpQuiet_nil ?_
      intro w3 hw3
      obtain ⟨X, rfl⟩ := hw3
      have H3 := Lib.hid (K.out.2.2.trans (X.h.mono K.out.2.2.size))
      obtain ⟨w3, hx3⟩ := X
      clear e0 e1 e2 e3 e4 f0 f1 f2 f3 f4 c0 hi hk
      go_wp2_with fail
      go_ret
      exact ⟨rfl, H3.out⟩
    | true =>
      cases q3 with
      | false =>
        repeat (go_big_quiet_step (first | with_reducible rfl | with_reducible exact LaterOf.call _ (T1.out _) | with_reducible exact LaterOf.call _ (T2.out _) | with_reducible exact LaterOf.call _ (T3.out _) | with_reducible exact LaterOf.call _ (T4.out _)))
        refine wpQuiet_nil ?_
        intro w3 hw3
        obtain ⟨X, rfl⟩ := hw3
        have H3 := Lib.hid (K.out.2.2.trans (X.h.mono K.out.2.2.size))
        obtain ⟨w3, hx3⟩ := X
        clear e0 e1 e2 e3 e4 f0 f1 f2 f3 f4 c0 hi hk
        go_wp2_with fail
        go_ret
        exact ⟨rfl, H3.out⟩
      | true =>
        repeat (go_big_quiet_step (first | with_reducible rfl | with_reducible exact LaterOf.call _ (T1.out _) | with_reducible exact LaterOf.call _ (T2.out _) | with_reducible exact LaterOf.call _ (T3.out _) | with_reducible exact LaterOf.call _ (T4.out _)))
        refine wpQuiet_nil ?_
        intro w3 hw3
        obtain ⟨X, rfl⟩ := hw3
        have H3 := Lib.hid (K.out.2.2.trans (X.h.mono K.out.2.2.size))
        obtain ⟨w3, hx3⟩ := X
        clear e0 e1 e2 e3 e4 f0 f1 f2 f3 f4 c0 hi hk
        go_wp2_with fail
        go_ret
        exact ⟨rfl, H3.out⟩
end Go.Proofs.YtbmknmjcoeinkaaGreat.Mg

/- merge.Below, walked; what it comes to, plain. (Layer 13.) -/
namespace Go.Proofs.YtbmknmjcoeinkaaGreat.Mg
set_option linter.unusedVariables false
set_option linter.unusedSimpArgs false
open Go.RowKit Go.Lib
open Mk (Rf Tok Tb TbR Mks MkR aMk aTb aRf aTok aInt vRf vTok vTb vInt eqB eqB_yes eqB_no eqB_iff bytes_eq goodB)
open Set (El)
set_option maxRecDepth 100000 in
set_option maxHeartbeats 4000000 in
theorem below_any (a b : MkR) (w : World) (ha : a.Reads w) (hb : b.Reads w) (hsa : a.Small) (hsb : b.Small) : Calls Tryz.prog 14 #[aMk a, aMk b] w fun e w' => e = .returned (.bool (belowB a.mk_ b.mk_)) ∧ Below w.heap.size w w' := by
  obtain ⟨W3, hW3⟩ : ∃ W3, W3 = ((w.alloc (.cells #[a.rv, a.kv, a.bv] 26)).alloc (.cells #[b.rv, b.kv, b.bv] 26)).alloc (.cells #[.func (.func 33) #[] #[]] 63) := ⟨_, rfl⟩
  have K := Lib.hid (show BlkIs W3 w.heap.size 26 #[a.rv, a.kv, a.bv] ∧ BlkIs W3 (w.heap.size + 1) 26 #[b.rv, b.kv, b.bv] ∧ BlkIs W3 (w.heap.size + 2) 63 #[.func (.func 33) #[] #[]] ∧ Below w.heap.size w W3 from by
    rw [hW3]
    exact ⟨((BlkIs.new _ _ _).alloc _).alloc _, (BlkIs.new2 _ _ _ _).alloc _, BlkIs.new3 _ _ _ _ _, (((Below.refl _ _).alloc (Nat.le_refl _) _).alloc (by simp) _).alloc (by simp; omega) _⟩)
  have hbw : ∀ W, Below W3.heap.size W3 W → Below w.heap.size w W := fun W h => K.out.2.2.2.trans (h.mono K.out.2.2.2.size)
  obtain ⟨q1, hq1⟩ : ∃ q, q = (a.refs.all fun x => b.refs.any (pRf x)) := ⟨_, rfl⟩
  obtain ⟨q2, hq2⟩ : ∃ q, q = (a.toks.all fun x => b.toks.any (eqB x)) := ⟨_, rfl⟩
  obtain ⟨q3, hq3⟩ : ∃ q, q = (a.tombs.all fun x => b.tombs.any fun y => pTb x.t y.t) := ⟨_, rfl⟩
  have hp : belowB a.mk_ b.mk_ = (q1 && (q2 && q3)) := by
    unfold belowB MkR.mk_
    rw [hq1, hq2, hq3]
    simp only [List.all_map, List.any_map]
    rfl
  rw [hp]
  have R := Lib.hid (show ∀ W, Below W3.heap.size W3 W → Calls Tryz.prog 38 #[a.rv, b.rv, .func (.func 30) #[] #[]] W fun e w' => e = .returned (.bool q1) ∧ Below W.heap.size W w' from fun W hW => by
    rw [hq1]
    exact in_rf a.rv b.rv a.refs b.refs 30 #[] pRf W (ha.1.later (hbw W hW)) (hb.1.later (hbw W hW)) ⟨enters_of Tryz.func30 (by kernel_rfl) rfl, fun x _ y _ W _ => below1_any x y W⟩ hsa.1 hsb.1)
  have T := Lib.hid (show ∀ W, Below W3.heap.size W3 W → Calls Tryz.prog 39 #[a.kv, b.kv, .func (.func 32) #[] #[]] W fun e w' => e = .returned (.bool q2) ∧ Below W.heap.size W w' from fun W hW => by
    rw [hq2]
    exact in_tok a.kv b.kv a.toks b.toks 32 #[] eqB W (ha.2.1.later (hbw W hW)) (hb.2.1.later (hbw W hW)) ⟨enters_of Tryz.func32 (by kernel_rfl) rfl, fun x _ y _ W _ => below2_any x y W⟩ hsa.2.1 hsb.2.1)
  have U := Lib.hid (show ∀ W, Below W3.heap.size W3 W → Calls Tryz.prog 40 #[a.bv, b.bv, .func (.func 34) #[] #[.pointer (some ⟨w.heap.size + 1 + 1, 0, none⟩)]] W fun e w' => e = .returned (.bool q3) ∧ Below W.heap.size W w' from fun W hW => by
    rw [hq3]
    refine in_tb a.bv b.bv a.tombs b.tombs 34 #[.pointer (some ⟨w.heap.size + 1 + 1, 0, none⟩)] (fun x y => pTb x.t y.t) W (ha.2.2.1.later (hbw W hW)) (hb.2.2.1.later (hbw W hW)) ⟨enters_of Tryz.func34 (by kernel_rfl) rfl, fun x hx y hy W' hW' => ?_⟩ hsa.2.2.1 hsb.2.2.1 (fun z hz => ⟨(ha.2.2.2 z hz).1.later (hbw W hW), (ha.2.2.2 z hz).2.later (hbw W hW)⟩)
    have hb2 := (hbw W hW).trans (hW'.mono (hbw W hW).size)
    have k5 := (K.out.2.2.1.below hW K.out.2.2.1.lt).below hW' (Nat.lt_of_lt_of_le K.out.2.2.1.lt hW.size)
    exact below4_any x y (w.heap.size + 1 + 1) W' ⟨(ha.2.2.2 x hx).1.later hb2, (ha.2.2.2 x hx).2.later hb2⟩ ⟨(hb.2.2.2 y hy).1.later hb2, (hb.2.2.2 y hy).2.later hb2⟩ ⟨(hsa.2.2.2 x hx).2, (hsa.2.2.2 x hx).1⟩ ⟨(hsb.2.2.2 y hy).2, (hsb.2.2.2 y hy).1⟩ k5.lt (k5.cell 0))
  have HW := Lib.hid hW3
  have HQ := Lib.hid (And.intro hq1 (And.intro hq2 hq3))
  show Calls Tryz.prog 14 #[.agg #[a.rv, a.kv, a.bv], .agg #[b.rv, b.kv, b.bv]] w _
  clear hW3 hp ha hb hsa hsb hbw hq1 hq2 hq3
  go_enter Tryz.func14, Tryz.ntmps14
  go_upto_region 5 with (fail)
  rw [← HW.out]
  obtain ⟨k1, k2, -, -⟩ := K.out
  have d0 : W3.cell? ⟨w.heap.size, 0, none⟩ = some a.rv := k1.cell 0
  have e0 : W3.cell? ⟨w.heap.size + 1, 0, none⟩ = some b.rv := k2.cell 0
  clear k1 k2
  go_wp2_with fail
  refine (R.out _ (Below.refl _ _)).mono ?_
  rintro e w4 ⟨rfl, hb4⟩
  have K4 := Lib.hid hb4
  clear d0 e0
  have k1 := K.out.1.below hb4 K.out.1.lt
  have k2 := K.out.2.1.below hb4 K.out.2.1.lt
  have d1 : w4.cell? ⟨w.heap.size, 1, none⟩ = some a.kv := k1.cell 1
  have e1 : w4.cell? ⟨w.heap.size + 1, 1, none⟩ = some b.kv := k2.cell 1
  clear k1 k2 hb4 R
  cases q1 with
  | false =>
    go_wp2_with fail
    go_ret
    exact ⟨rfl, K.out.2.2.2.trans (K4.out.mono K.out.2.2.2.size)⟩
  | true =>
    go_wp2_with fail
    refine (T.out _ K4.out).mono ?_
    rintro e w5 ⟨rfl, hb5⟩
    have K5 := Lib.hid (K4.out.trans (hb5.mono K4.out.size))
    clear d1 e1 hb5 T K4
    have k1 := K.out.1.below K5.out K.out.1.lt
    have k2 := K.out.2.1.below K5.out K.out.2.1.lt
    have d2 : w5.cell? ⟨w.heap.size, 2, none⟩ = some a.bv := k1.cell 2
    have e2 : w5.cell? ⟨w.heap.size + 1, 2, none⟩ = some b.bv := k2.cell 2
    clear k1 k2
    cases q2 with
    | false =>
      go_wp2_with fail
      go_ret
      exact ⟨rfl, K.out.2.2.2.trans (K5.out.mono K.out.2.2.2.size)⟩
    | true =>
      go_wp2_with fail
      refine (U.out _ K5.out).mono ?_
      rintro e w6 ⟨rfl, hb6⟩
      have K6 := Lib.hid (K5.out.trans (hb6.mono K5.out.size))
      clear d2 e2 hb6 U K5
      go_wp2_with fail
      go_ret
      exact ⟨by simp, K.out.2.2.2.trans (K6.out.mono K.out.2.2.2.size)⟩
-- plain
open Classical
theorem pRf_iff {x y : Rf} : pRf x y = true ↔ lRf x y := by
  unfold pRf lRf
  rw [Bool.and_eq_true, bytes_eq, decide_eq_true_iff]
  constructor
  · rintro ⟨h1, h2⟩
    refine ⟨h1, fun h => ?_⟩
    have h3 : ¬ cS x y < 0 := fun h4 => ab_asym h ((cS_neg _ _).1 h4)
    have h4 : cS x y = 0 := by omega
    obtain ⟨e1, e2⟩ := (cS_zero _ _).1 h4
    unfold Ab at h
    rcases h with h | ⟨-, h⟩
    · omega
    · rw [e2] at h; exact El.irr _ h
  · rintro ⟨h1, h2⟩
    refine ⟨h1, ?_⟩
    by_cases h3 : Ab y x
    · have := (cS_neg x y).2 h3
      omega
    · have h4 := ab_not h2 h3 h1
      subst h4
      rw [(cS_zero x x).2 ⟨rfl, rfl⟩]
      exact Int.le_refl _
theorem allIn_iff {a b : List Int} : allIn a b = true ↔ ∀ n ∈ a, n ∈ b := by
  unfold allIn
  simp
theorem pTb_iff {x y : Tb} : pTb x y = true ↔ lTb x y := by
  unfold pTb lTb kTb
  rw [Bool.and_eq_true, Bool.and_eq_true, Bool.and_eq_true, Bool.and_eq_true, beq_iff_eq, beq_iff_eq, bytes_eq, eqB_iff, allIn_iff, Prod.mk.injEq]
/-- Marks tell no more than other ones. -/
def LeM (a b : Mks) : Prop := Bl lRf a.refs b.refs ∧ (∀ x ∈ a.toks, x ∈ b.toks) ∧ Bl lTb a.tombs b.tombs
theorem belowB_iff {a b : Mks} : belowB a b = true ↔ LeM a b := by
  unfold belowB LeM Bl
  rw [Bool.and_eq_true, Bool.and_eq_true, List.all_eq_true, List.all_eq_true, List.all_eq_true]
  simp only [List.any_eq_true, pRf_iff, pTb_iff, eqB_iff]
  constructor
  · rintro ⟨h1, h2, h3⟩
    exact ⟨h1, fun x hx => by obtain ⟨y, hy, rfl⟩ := h2 x hx; exact hy, h3⟩
  · rintro ⟨h1, h2, h3⟩
    exact ⟨h1, fun x hx => ⟨x, h2 x hx, rfl⟩, h3⟩
end Go.Proofs.YtbmknmjcoeinkaaGreat.Mg

